/- What the statement's proof leans on, part 6: the layer, the walks, the plain laws. -/
import Derived.Test.YtpfbljkfbjjlkaaDoorMJP4e
import Derived.Test.YtpfbljkfbjjlkaaDoorMJP4c
set_option linter.unusedSimpArgs false
set_option linter.unusedVariables false

/- ParseConds comes to true. -/
namespace Go.Proofs.YtpfbljkfbjjlkaaDoor
open Go Go.Jq
set_option maxRecDepth 100000
set_option linter.unusedSimpArgs false

def cdRows (done : List (List Atom)) : List AV := (done.map (slD Atom.cells)).map .d

/-- The state in the loop: rows that are done, the last row, the text so far. -/
def cdS (X : DV) (s : List UInt8) (done : List (List Atom)) (cur : List Atom) (i : Nat) : St :=
  ⟨[(5, .d (.int .i64 i)), (0, .d X), (3, .d (.str s)), (4, .sl 0 1 0 (done.length + 1))], [(0, cdRows done ++ [.sl 1 4 0 cur.length]), (1, (cur.flatMap Atom.cells).map .d)], 2⟩

structure CdI (i : Nat) (s : List UInt8) (done : List (List Atom)) (cur : List Atom) : Prop where
  le : i ≤ 10
  text : s = cdPre ++ sp (rowsW done cur)
  len : s.length ≤ 26 + 100 * i
  okd : ∀ l ∈ done, l ≠ [] ∧ ∀ a ∈ l, CdAtom a
  okc : ∀ a ∈ cur, CdAtom a
  first : i = 0 → done = [] ∧ cur = []
  rest : i ≠ 0 → cur ≠ []
  rows : done.length ≤ i - 1
  each : ∀ l ∈ done ++ [cur], l.length ≤ i

theorem cdRows_len (done : List (List Atom)) : (cdRows done).length = done.length := by simp [cdRows]
theorem atoms_len (l : List Atom) : (l.flatMap Atom.cells).length = l.length * 4 := by
  induction l with
  | nil => rfl
  | cons a l ih => rw [List.flatMap_cons, List.length_append, ih, List.length_cons, Nat.succ_mul, Nat.add_comm]; rfl
theorem cdRows_ren (f : Nat → Option Nat) (done : List (List Atom)) : renL f (cdRows done) = cdRows done := by unfold cdRows; exact renL_d _ _
theorem cdRows_snoc (done : List (List Atom)) (l : List Atom) : cdRows (done ++ [l]) = cdRows done ++ [.d (slD Atom.cells l)] := by simp [cdRows]

def cdA0 (q : Nat) : Atom := ⟨-1, 0, 120, q⟩
def cdA1 (q p : Nat) : Atom := ⟨q, p, 0, -q⟩

theorem cdA0_ok {q : Nat} (h : q ≤ 7) : CdAtom (cdA0 q) := by
  refine ⟨?_, ?_⟩
  · simp [cdA0, okAtomB, isLocB]
  · simp only [cdA0, I64a, I64]; omega

theorem cdA1_ok {q p : Nat} (h : q ≤ 7) (h' : p ≤ 3) : CdAtom (cdA1 q p) := by
  have h1 : ¬ (q : Int) = -1 := by omega
  have e : okAtomB (cdA1 q p) = (decide (0 ≤ (q : Int)) && decide ((q : Int) ≤ 9) && decide ((0 : Int) = 0) && (decide (0 ≤ (p : Int)) && decide ((p : Int) < 4))) := by
    unfold okAtomB cdA1 isRegB
    exact if_neg h1
  refine ⟨?_, ?_⟩
  · rw [e]
    have h2 : (0 : Int) ≤ (q : Int) := by omega
    have h3 : (q : Int) ≤ 9 := by omega
    have h4 : (0 : Int) ≤ (p : Int) := by omega
    have h5 : (p : Int) < 4 := by omega
    simp only [h2, h3, h4, h5, decide_true, Bool.and_self]
  · show (_ ∧ _) ∧ (_ ∧ _) ∧ (_ ∧ _)
    simp only [cdA1]
    refine ⟨⟨by omega, by omega⟩, ⟨by omega, by omega⟩, by omega, by omega⟩

theorem cdA0_text (q : Nat) : sp (atomW (cdA0 q)) = [32, 120, 32, 61, 32] ++ Lib.itoa (q : Int) := by
  have hloc : locT 120 = [120] := (loc_byte (n := 120) (by decide)).1
  simp [sp, atomW, cdA0, hloc]

theorem cdA1_text (q p : Nat) : sp (atomW (cdA1 q p)) = [32] ++ Lib.itoa (q : Int) ++ [32, 58, 32, 114] ++ Lib.itoa (p : Int) ++ [32, 61, 32] ++ Lib.itoa (-(q : Int)) := by
  have : ¬ ((q : Int) = -1) := by omega
  simp [sp, atomW, cdA1, this, regT]

/-- What a step adds. -/
def cdSep (bar : Bool) (i : Nat) : List UInt8 := if i = 0 then [] else if bar then [32, 124] else [32, 38]
def cdDone (bar : Bool) (i : Nat) (done : List (List Atom)) (cur : List Atom) : List (List Atom) := if i = 0 then done else if bar then done ++ [cur] else done
def cdCur (bar : Bool) (i : Nat) (cur : List Atom) : List Atom := if i = 0 then cur else if bar then [] else cur

theorem cd_step {i : Nat} {s : List UInt8} {done : List (List Atom)} {cur : List Atom} (h : CdI i s done cur) (hi : i < 10) (bar : Bool) {a : Atom} (ha : CdAtom a) {w : List UInt8} (hw : w = sp (atomW a)) (hwl : w.length ≤ 80) :
    CdI (i + 1) (s ++ cdSep bar i ++ w) (cdDone bar i done cur) (cdCur bar i cur ++ [a]) := by
  have hcl : (cdSep bar i).length ≤ 2 := by unfold cdSep; repeat' split
                                            all_goals simp
  have hlen := h.len
  have hl : (s ++ cdSep bar i ++ w).length ≤ 26 + 100 * (i + 1) := by simp only [List.length_append]; omega
  have hcur : ∀ b ∈ cdCur bar i cur ++ [a], CdAtom b := fun b hb => by
    rcases List.mem_append.1 hb with hb | hb
    · unfold cdCur at hb
      repeat' split at hb
      · exact h.okc b hb
      · cases hb
      · exact h.okc b hb
    · simp only [List.mem_cons, List.not_mem_nil, or_false] at hb
      subst hb; exact ha
  by_cases h0 : i = 0
  · obtain ⟨rfl, rfl⟩ := h.first h0
    subst h0
    refine ⟨by omega, ?_, hl, by simp [cdDone], hcur, fun h => by omega, fun _ => by simp, by simp [cdDone], by simp [cdDone, cdCur]⟩
    rw [h.text, hw]
    simp [cdSep, cdDone, cdCur, rowsW_first]
    simp [rowsW, rowW, sepW, sp]
  · have hne := h.rest h0
    have hrows := h.rows
    have heach := h.each
    cases bar with
    | true =>
      simp only [cdSep, cdDone, cdCur, h0, if_true, if_false, List.nil_append] at hl hcur ⊢
      refine ⟨by omega, ?_, hl, fun l hlm => ?_, hcur, fun h => by omega, fun _ => by simp, by simp only [List.length_append, List.length_cons, List.length_nil]; omega, fun l hlm => ?_⟩
      · rw [h.text, hw, rowsW_or, sp_append, sp_append]
        simp [sp]
      · rcases List.mem_append.1 hlm with hm | hm
        · exact h.okd l hm
        · simp only [List.mem_cons, List.not_mem_nil, or_false] at hm
          subst hm; exact ⟨hne, h.okc⟩
      · rcases List.mem_append.1 hlm with hm | hm
        · have := heach l hm; omega
        · simp only [List.mem_cons, List.not_mem_nil, or_false] at hm
          subst hm; simp
    | false =>
      simp only [cdSep, cdDone, cdCur, h0, if_false, Bool.false_eq_true] at hl hcur ⊢
      refine ⟨by omega, ?_, hl, h.okd, hcur, fun h => by omega, fun _ => by simp, by omega, fun l hlm => ?_⟩
      · rw [h.text, hw, rowsW_and _ hne, sp_append, sp_append]
        simp [sp]
      · rcases List.mem_append.1 hlm with hm | hm
        · have := heach l (List.mem_append_left _ hm); omega
        · simp only [List.mem_cons, List.not_mem_nil, or_false] at hm
          subst hm
          have := heach cur (by simp)
          simp only [List.length_append, List.length_cons, List.length_nil]; omega

theorem mask_nat2 (x : Int) (m : Nat) (hm : m < 9223372036854775808) : ∃ q : Nat, bits .and .i64 x m = (q : Int) ∧ q ≤ m := by
  obtain ⟨h1, h2⟩ := and_mask x m hm
  exact ⟨(bits .and .i64 x m).toNat, by omega, by omega⟩

set_option maxHeartbeats 8000000 in
theorem cd_loop {ls : List Int} {X : DV} (hX : IsInts ls X) (hne : ls ≠ []) {Q : Exit → St → Prop} (hQ : ∀ i s done cur, 0 < i → CdI i s done cur → Q (.exit 0) (cdS X s done cur i)) :
    BWP Tryd.prog (mbound []) Tryd.f13.ntmps (.loop ac13L0) (cdS X cdPre [] [] 0) Q := by
  have hsl := hX.sl
  have hbig := hsl.big
  have hlpos : 0 < ls.length := List.length_pos_iff.2 hne
  refine bwp_fam (ι := { p : Nat × List UInt8 × List (List Atom) × List Atom // CdI p.1 p.2.1 p.2.2.1 p.2.2.2 }) (fun p => cdS X p.1.2.1 p.1.2.2.1 p.1.2.2.2 p.1.1) (fun p => 10 - p.1.1)
    ⟨(0, cdPre, [], []), ⟨by simp only; omega, by simp [rowsW, rowW, sepW, sp], by simp [cdPre], by simp, by simp, fun _ => ⟨rfl, rfl⟩, fun h => absurd rfl h, by simp, by simp⟩⟩ ?_
  rintro ⟨⟨i, s, done, cur⟩, hI⟩
  simp only at hI ⊢
  have hlen := hI.len
  have hle := hI.le
  have hrows := hI.rows
  have heach := hI.each cur (by simp)
  have hcl := atoms_len cur
  have hdl := cdRows_len done
  unfold ac13L0
  have out : ∀ t : Fr, fget t 22 = .d (.bool false) → fget t 5 = .d (.int .i64 i) → fget t 0 = .d X → fget t 3 = .d (.str s) → fget t 4 = .sl 0 1 0 (done.length + 1) → 0 < i → ∀ Q', (∀ S, Q (.exit 0) S → Q' (.exit 0) S) →
      BWP Tryd.prog (mbound []) Tryd.f13.ntmps (.cond (.t 22) .skip (.exit 0)) ⟨t, (cdS X s done cur i).m, 2⟩ Q' := by
    intro t h22 h5 h0 h3 h4 hi Q' hQ'
    refine bwp_cond false (by simp [ev, fget, h22]) (fun h => nomatch h) (fun _ => ?_)
    refine bwp_leads (S' := cdS X s done cur i) (Leads.ent [(0, 0), (1, 1)] ⟨by simp [entT, fget, AV.ren, renL, pget, cdS, h5, h0, h3, h4], by simp [entM, pinv, mget, renL, AV.ren, pget, cdS, renL_append, cdRows_ren], rfl, rfl⟩) (bwp_exit (hQ' _ (hQ _ _ _ _ hi hI)))
  by_cases hlt : i < min ls.length 10
  rotate_left
  · refine bwp_seq fun K1 hK1 => ?_
    unfold cdS
    by_cases h1 : (i : Int) < ls.length
    · have h2 : ¬ (i : Int) < 10 := by omega
      refine bwp_seq fun K hK => bwp_region rfl ?_
      simp -implicitDefEqProofs only [go_sem, ↓reduceIte, Nat.reduceEqDiff, Nat.reduceAdd, Nat.reduceLeDiff, Nat.reduceMul, Nat.reduceSub, Int.reduceLE, Int.reduceLT, Int.reduceEq, Int.reduceToNat, Int.reducePow, Int.reduceNeg, hsl.len, h1, h2]
      refine hK _ ?_; clear hK
      exact out _ rfl rfl rfl rfl rfl (by omega) _ fun _ h => h
    · refine bwp_seq fun K hK => bwp_region rfl ?_
      simp -implicitDefEqProofs only [go_sem, ↓reduceIte, Nat.reduceEqDiff, Nat.reduceAdd, Nat.reduceLeDiff, Nat.reduceMul, Nat.reduceSub, Int.reduceLE, Int.reduceLT, Int.reduceEq, Int.reduceToNat, Int.reducePow, Int.reduceNeg, hsl.len, h1]
      refine hK _ ?_; clear hK
      exact out _ rfl rfl rfl rfl rfl (by omega) _ fun _ h => h
  · have h1 : (i : Int) < ls.length := by omega
    have h2 : (i : Int) < 10 := by omega
    have hw : IntKind.i64.wrap ((i : Int) + 1) = ((i + 1 : Nat) : Int) := by rw [wrap_i64 (by omega) (by omega)]; rfl
    obtain ⟨cs, hXe, hcs, hld⟩ := hsl.get i (by omega)
    have hlt2 : i < ls.length := by omega
    have hel : (ls.map (DV.int .i64))[i]? = some (.int .i64 ls[i]) := by simp [hlt2]
    simp only [eltD, hel, Nat.mul_one] at hld hcs
    generalize ls[i] = x at hld
    have hi0 : (0 : Int) ≤ (i : Int) := by omega
    unfold cdS
    refine bwp_seq fun K1 hK1 => ?_
    refine bwp_seq fun K hK => bwp_region rfl ?_
    simp -implicitDefEqProofs only [go_sem, ↓reduceIte, Nat.reduceEqDiff, Nat.reduceAdd, Nat.reduceLeDiff, Nat.reduceMul, Nat.reduceSub, Int.reduceLE, Int.reduceLT, Int.reduceEq, Int.reduceToNat, Int.reducePow, Int.reduceNeg, hsl.len, h1, h2]
    refine hK _ ?_; clear hK
    refine bwp_cond true (by simp [ev, fget]) (fun _ => ?_) (fun h => nomatch h)
    refine bwp_skip ?_
    refine hK1 _ ?_; clear hK1
    refine bwp_seq fun K1 hK1 => ?_
    refine bwp_block ?_
    refine bwp_seq fun K2 hK2 => ?_
    obtain ⟨bar, hbar⟩ : ∃ bar : Bool, bar = decide (bits .and .i64 x 1 = 1) := ⟨_, rfl⟩
    have fin1 : ∀ S : St, Leads (mbound []) Tryd.f13.ntmps S (cdS X (s ++ cdSep bar i) (cdDone bar i done cur) (cdCur bar i cur) i) → K2 S := by
      intro S hS
      refine hK2 _ ?_; clear hK2
      refine bwp_leads hS ?_
      have hstep := fun {a : Atom} (ha : CdAtom a) {w : List UInt8} (h1 : w = sp (atomW a)) (h2 : w.length ≤ 80) => cd_step hI (by omega) bar ha h1 h2
      have hl2 : (s ++ cdSep bar i).length ≤ 2000 := by
        have : (cdSep bar i).length ≤ 2 := by unfold cdSep; repeat' split
                                              all_goals simp
        simp only [List.length_append]; omega
      have hcl2 : (cdCur bar i cur).length ≤ 10 := by
        unfold cdCur
        split
        · omega
        · split
          · simp
          · omega
      have hdn2 : (cdDone bar i done cur).length ≤ 20 := by
        unfold cdDone
        split
        · omega
        · split
          · simp only [List.length_append, List.length_cons, List.length_nil]; omega
          · omega
      generalize s ++ cdSep bar i = s1 at hstep hl2 ⊢
      generalize cdDone bar i done cur = done1 at hstep hdn2 ⊢
      generalize cdCur bar i cur = cur1 at hstep hcl2 ⊢
      have hcl := atoms_len cur1
      have hdl := cdRows_len done1
      obtain ⟨q, hq, hq7⟩ := mask_nat2 (x.fdiv 2) 7 (by omega)
      obtain ⟨p, hp, hp3⟩ := mask_nat2 (x.fdiv 32) 3 (by omega)
      have hq' : bits .and .i64 (x.fdiv 2) 7 = (q : Int) := hq
      have hp' : bits .and .i64 (x.fdiv 32) 3 = (p : Int) := hp
      unfold cdS
      refine bwp_seq fun K hK => bwp_region rfl ?_
      simp -implicitDefEqProofs only [go_sem, ↓reduceIte, Nat.reduceEqDiff, Nat.reduceAdd, Nat.reduceLeDiff, Nat.reduceMul, Nat.reduceSub, Int.reduceLE, Int.reduceLT, Int.reduceEq, Int.reduceToNat, Int.reducePow, Int.reduceNeg, hXe, h1, hi0, Int.toNat_natCast, hcs, hld, hq']
      refine hK _ ?_; clear hK
      refine bwp_seq fun K hK => bwp_region rfl ?_
      simp -implicitDefEqProofs only [go_sem, ↓reduceIte, Nat.reduceEqDiff, Nat.reduceAdd, Nat.reduceLeDiff, Nat.reduceMul, Nat.reduceSub, Int.reduceLE, Int.reduceLT, Int.reduceEq, Int.reduceToNat, Int.reducePow, Int.reduceNeg]
      refine hK _ ?_; clear hK
      refine bwp_seq fun K3 hK3 => ?_
      have fin2 : ∀ (S : St) (a : Atom) (w : List UInt8), CdAtom a → w = sp (atomW a) → w.length ≤ 80 → Leads (mbound []) Tryd.f13.ntmps S
          ⟨[(7, .ptr 2 0), (5, .d (.int .i64 i)), (0, .d X), (3, .d (.str (s1 ++ w))), (4, .sl 0 1 0 (done1.length + 1))], [(0, cdRows done1 ++ [.sl 1 4 0 cur1.length]), (1, (cur1.flatMap Atom.cells).map .d), (2, (Atom.cells a).map .d)], 3⟩ → K3 S := by
        intro S a w ha hw1 hw2 hS
        refine hK3 _ ?_; clear hK3
        refine bwp_leads hS ?_
        have hal : (Atom.cells a).length = 4 := rfl
        have e1 : IntKind.i64.wrap (((done1.length + 1 : Nat) : Int) - 1) = (done1.length : Int) := by rw [wrap_i64 (by omega) (by omega)]; omega
        have e2 : (0 : Int) ≤ (done1.length : Int) := by omega
        have e3 : (done1.length : Int) < ((done1.length + 1 : Nat) : Int) := by omega
        have e4 : (cdRows done1 ++ [AV.sl 1 4 0 cur1.length]).drop done1.length = [AV.sl 1 4 0 cur1.length] := by rw [← hdl]; exact List.drop_left
        have e5 : (cur1.length + 1) * 32 ≤ 140737488351232 := by omega
        have e6 : (cdRows done1 ++ [AV.sl 1 4 0 cur1.length]).length = done1.length + 1 := by simp [hdl]
        have e7 : ((cur1.flatMap Atom.cells).map AV.d).length = cur1.length * 4 := by rw [List.length_map, hcl]
        have e8 : ∀ v : AV, (cdRows done1 ++ [AV.sl 1 4 0 cur1.length]).set done1.length v = cdRows done1 ++ [v] := by
          intro v
          rw [← hdl, List.set_append_right _ _ (Nat.le_refl _), Nat.sub_self]; rfl
        obtain ⟨A, B, C, D⟩ := a
        simp only [Atom.cells, List.map_cons, List.map_nil] at hal ⊢
        refine bwp_region_draw rfl rfl ?_
        simp -implicitDefEqProofs only [go_sem, ↓reduceIte, Nat.reduceEqDiff, Nat.reduceAdd, Nat.reduceLeDiff, Nat.reduceMul, Nat.reduceSub, Int.reduceLE, Int.reduceLT, Int.reduceEq, Int.reduceToNat, Int.reducePow, Int.reduceNeg, e1, e2, e3, e4, e5, e6, e7, e8, Nat.zero_add, Int.toNat_natCast, Nat.mul_one]
        refine ⟨rfl, ?_⟩
        refine hK1 _ ?_; clear hK1
        refine bwp_region rfl ?_
        simp -implicitDefEqProofs only [go_sem, ↓reduceIte, Nat.reduceEqDiff, Nat.reduceAdd, Nat.reduceLeDiff, Nat.reduceMul, Nat.reduceSub, Int.reduceLE, Int.reduceLT, Int.reduceEq, Int.reduceToNat, Int.reducePow, Int.reduceNeg, hw]
        refine ⟨⟨(i + 1, s1 ++ w, done1, cur1 ++ [⟨A, B, C, D⟩]), hstep ha hw1 hw2⟩, by simp only; omega, ?_⟩
        exact Leads.ent [(0, 0), (15, 1)] ⟨by simp [entT, fget, AV.ren, renL, pget, cdS], by simp [entM, pinv, mget, renL, AV.ren, pget, cdS, renL_append, cdRows_ren, Atom.cells, -List.map_map], rfl, rfl⟩
      have hqI : I64 (q : Int) := by unfold I64; omega
      have hnI : I64 (-(q : Int)) := by unfold I64; omega
      have hpI : I64 (p : Int) := by unfold I64; omega
      have hneg : IntKind.i64.wrap (0 - (q : Int)) = -(q : Int) := by rw [wrap_i64 (by omega) (by omega)]; omega
      have kq := refText_pure hqI
      have kn := refText_pure hnI
      have kp := refText_pure hpI
      have lq := itoa_len hqI
      have ln := itoa_len hnI
      have lp := itoa_len hpI
      by_cases hb : bits .and .i64 (x.fdiv 16) 1 = 1
      · refine bwp_seq fun K hK => bwp_region rfl ?_
        simp -implicitDefEqProofs only [go_sem, ↓reduceIte, Nat.reduceEqDiff, Nat.reduceAdd, Nat.reduceLeDiff, Nat.reduceMul, Nat.reduceSub, Int.reduceLE, Int.reduceLT, Int.reduceEq, Int.reduceToNat, Int.reducePow, Int.reduceNeg, hXe, h1, hi0, Int.toNat_natCast, hcs, hld, eq_true hb, decide_true]
        refine hK _ ?_; clear hK
        refine bwp_cond true (by simp [ev, fget]) (fun _ => ?_) (fun h => nomatch h)
        refine bwp_seq fun K hK => bwp_region rfl ?_
        simp -implicitDefEqProofs only [go_sem, ↓reduceIte, Nat.reduceEqDiff, Nat.reduceAdd, Nat.reduceLeDiff, Nat.reduceMul, Nat.reduceSub, Int.reduceLE, Int.reduceLT, Int.reduceEq, Int.reduceToNat, Int.reducePow, Int.reduceNeg, hXe, h1, hi0, Int.toNat_natCast, hcs, hld, hp', hneg]
        refine hK _ ?_; clear hK
        refine bwp_region_draw rfl rfl ?_
        simp -implicitDefEqProofs only [go_sem, ↓reduceIte, Nat.reduceEqDiff, Nat.reduceAdd, Nat.reduceLeDiff, Nat.reduceMul, Nat.reduceSub, Int.reduceLE, Int.reduceLT, Int.reduceEq, Int.reduceToNat, Int.reducePow, Int.reduceNeg, hneg]
        repeat' (first
          | (refine gateK_split (fun hb => ?_) (fun hb => ?_) <;> simp -implicitDefEqProofs only [go_sem, ↓reduceIte, Nat.reduceEqDiff, Nat.reduceAdd, Nat.reduceLeDiff, Nat.reduceMul, Nat.reduceSub, Int.reduceLE, Int.reduceLT, Int.reduceEq, Int.reduceToNat, Int.reducePow, Int.reduceNeg, hb, hneg, List.length_append, List.length_cons, List.length_nil])
          | (refine dGateK_split (fun hb => ?_) (fun hb => ?_) <;> simp -implicitDefEqProofs only [go_sem, ↓reduceIte, Nat.reduceEqDiff, Nat.reduceAdd, Nat.reduceLeDiff, Nat.reduceMul, Nat.reduceSub, Int.reduceLE, Int.reduceLT, Int.reduceEq, Int.reduceToNat, Int.reducePow, Int.reduceNeg, hb, hneg, List.length_append, List.length_cons, List.length_nil])
          | (refine callK_pure (kq) rfl rfl ?_; simp -implicitDefEqProofs only [go_sem, ↓reduceIte, Nat.reduceEqDiff, Nat.reduceAdd, Nat.reduceLeDiff, Nat.reduceMul, Nat.reduceSub, Int.reduceLE, Int.reduceLT, Int.reduceEq, Int.reduceToNat, Int.reducePow, Int.reduceNeg, hneg, List.length_append, List.length_cons, List.length_nil])
          | (refine dCallK_pure (kq) rfl rfl ?_; simp -implicitDefEqProofs only [go_sem, ↓reduceIte, Nat.reduceEqDiff, Nat.reduceAdd, Nat.reduceLeDiff, Nat.reduceMul, Nat.reduceSub, Int.reduceLE, Int.reduceLT, Int.reduceEq, Int.reduceToNat, Int.reducePow, Int.reduceNeg, hneg, List.length_append, List.length_cons, List.length_nil])
          | (refine callK_pure (kp) rfl rfl ?_; simp -implicitDefEqProofs only [go_sem, ↓reduceIte, Nat.reduceEqDiff, Nat.reduceAdd, Nat.reduceLeDiff, Nat.reduceMul, Nat.reduceSub, Int.reduceLE, Int.reduceLT, Int.reduceEq, Int.reduceToNat, Int.reducePow, Int.reduceNeg, hneg, List.length_append, List.length_cons, List.length_nil])
          | (refine dCallK_pure (kp) rfl rfl ?_; simp -implicitDefEqProofs only [go_sem, ↓reduceIte, Nat.reduceEqDiff, Nat.reduceAdd, Nat.reduceLeDiff, Nat.reduceMul, Nat.reduceSub, Int.reduceLE, Int.reduceLT, Int.reduceEq, Int.reduceToNat, Int.reducePow, Int.reduceNeg, hneg, List.length_append, List.length_cons, List.length_nil])
          | (refine callK_pure (kn) rfl rfl ?_; simp -implicitDefEqProofs only [go_sem, ↓reduceIte, Nat.reduceEqDiff, Nat.reduceAdd, Nat.reduceLeDiff, Nat.reduceMul, Nat.reduceSub, Int.reduceLE, Int.reduceLT, Int.reduceEq, Int.reduceToNat, Int.reducePow, Int.reduceNeg, hneg, List.length_append, List.length_cons, List.length_nil])
          | (refine dCallK_pure (kn) rfl rfl ?_; simp -implicitDefEqProofs only [go_sem, ↓reduceIte, Nat.reduceEqDiff, Nat.reduceAdd, Nat.reduceLeDiff, Nat.reduceMul, Nat.reduceSub, Int.reduceLE, Int.reduceLT, Int.reduceEq, Int.reduceToNat, Int.reducePow, Int.reduceNeg, hneg, List.length_append, List.length_cons, List.length_nil])
          | (rw [if_pos (by (try simp only [List.length_append, List.length_cons, List.length_nil, List.length_map]); omega)]; simp -implicitDefEqProofs only [go_sem, ↓reduceIte, Nat.reduceEqDiff, Nat.reduceAdd, Nat.reduceLeDiff, Nat.reduceMul, Nat.reduceSub, Int.reduceLE, Int.reduceLT, Int.reduceEq, Int.reduceToNat, Int.reducePow, Int.reduceNeg, hneg, List.length_append, List.length_cons, List.length_nil]))
        refine ⟨rfl, ?_⟩
        refine fin2 _ (cdA1 q p) ([32] ++ Lib.itoa (q : Int) ++ [32, 58, 32, 114] ++ Lib.itoa (p : Int) ++ [32, 61, 32] ++ Lib.itoa (-(q : Int))) (cdA1_ok hq7 hp3) (cdA1_text q p).symm (by simp only [List.length_append, List.length_cons, List.length_nil]; omega) ?_
        exact Leads.ent [(0, 0), (1, 1), (2, 2)] ⟨by simp [entT, fget, AV.ren, renL, pget, hXe], by simp [entM, pinv, mget, renL, AV.ren, pget, renL_append, cdRows_ren, cdA1, Atom.cells, -List.map_map], rfl, rfl⟩
      · refine bwp_seq fun K hK => bwp_region rfl ?_
        simp -implicitDefEqProofs only [go_sem, ↓reduceIte, Nat.reduceEqDiff, Nat.reduceAdd, Nat.reduceLeDiff, Nat.reduceMul, Nat.reduceSub, Int.reduceLE, Int.reduceLT, Int.reduceEq, Int.reduceToNat, Int.reducePow, Int.reduceNeg, hXe, h1, hi0, Int.toNat_natCast, hcs, hld, eq_false hb, decide_false]
        refine hK _ ?_; clear hK
        refine bwp_cond false (by simp [ev, fget]) (fun h => nomatch h) (fun _ => ?_)
        refine bwp_region rfl ?_
        simp -implicitDefEqProofs only [go_sem, ↓reduceIte, Nat.reduceEqDiff, Nat.reduceAdd, Nat.reduceLeDiff, Nat.reduceMul, Nat.reduceSub, Int.reduceLE, Int.reduceLT, Int.reduceEq, Int.reduceToNat, Int.reducePow, Int.reduceNeg]
        repeat' (first
          | (refine gateK_split (fun hb => ?_) (fun hb => ?_) <;> simp -implicitDefEqProofs only [go_sem, ↓reduceIte, Nat.reduceEqDiff, Nat.reduceAdd, Nat.reduceLeDiff, Nat.reduceMul, Nat.reduceSub, Int.reduceLE, Int.reduceLT, Int.reduceEq, Int.reduceToNat, Int.reducePow, Int.reduceNeg, hb, List.length_append, List.length_cons, List.length_nil])
          | (refine dGateK_split (fun hb => ?_) (fun hb => ?_) <;> simp -implicitDefEqProofs only [go_sem, ↓reduceIte, Nat.reduceEqDiff, Nat.reduceAdd, Nat.reduceLeDiff, Nat.reduceMul, Nat.reduceSub, Int.reduceLE, Int.reduceLT, Int.reduceEq, Int.reduceToNat, Int.reducePow, Int.reduceNeg, hb, List.length_append, List.length_cons, List.length_nil])
          | (refine callK_pure (kq) rfl rfl ?_; simp -implicitDefEqProofs only [go_sem, ↓reduceIte, Nat.reduceEqDiff, Nat.reduceAdd, Nat.reduceLeDiff, Nat.reduceMul, Nat.reduceSub, Int.reduceLE, Int.reduceLT, Int.reduceEq, Int.reduceToNat, Int.reducePow, Int.reduceNeg, List.length_append, List.length_cons, List.length_nil])
          | (refine dCallK_pure (kq) rfl rfl ?_; simp -implicitDefEqProofs only [go_sem, ↓reduceIte, Nat.reduceEqDiff, Nat.reduceAdd, Nat.reduceLeDiff, Nat.reduceMul, Nat.reduceSub, Int.reduceLE, Int.reduceLT, Int.reduceEq, Int.reduceToNat, Int.reducePow, Int.reduceNeg, List.length_append, List.length_cons, List.length_nil])
          | (rw [if_pos (by (try simp only [List.length_append, List.length_cons, List.length_nil, List.length_map]); omega)]; simp -implicitDefEqProofs only [go_sem, ↓reduceIte, Nat.reduceEqDiff, Nat.reduceAdd, Nat.reduceLeDiff, Nat.reduceMul, Nat.reduceSub, Int.reduceLE, Int.reduceLT, Int.reduceEq, Int.reduceToNat, Int.reducePow, Int.reduceNeg, List.length_append, List.length_cons, List.length_nil]))
        refine fin2 _ (cdA0 q) ([32, 120, 32, 61, 32] ++ Lib.itoa (q : Int)) (cdA0_ok hq7) (cdA0_text q).symm (by simp only [List.length_append, List.length_cons, List.length_nil]; omega) ?_
        exact Leads.ent [(0, 0), (1, 1), (2, 2)] ⟨by simp [entT, fget, AV.ren, renL, pget, hXe], by simp [entM, pinv, mget, renL, AV.ren, pget, renL_append, cdRows_ren, cdA0, Atom.cells, -List.map_map], rfl, rfl⟩
    by_cases h0 : i = 0
    · have h0' : ¬ (0 : Int) < (i : Int) := by omega
      refine bwp_seq fun K hK => bwp_region rfl ?_
      simp -implicitDefEqProofs only [go_sem, ↓reduceIte, Nat.reduceEqDiff, Nat.reduceAdd, Nat.reduceLeDiff, Nat.reduceMul, Nat.reduceSub, Int.reduceLE, Int.reduceLT, Int.reduceEq, Int.reduceToNat, Int.reducePow, Int.reduceNeg, eq_false h0', decide_false]
      refine hK _ ?_; clear hK
      refine bwp_cond false (by simp [ev, fget]) (fun h => nomatch h) (fun _ => ?_)
      refine bwp_skip ?_
      refine fin1 _ (Leads.ent [(0, 0), (1, 1)] ⟨by simp [entT, fget, AV.ren, renL, pget, cdS, cdSep, cdDone, cdCur, h0, hXe], by simp [entM, pinv, mget, renL, AV.ren, pget, renL_append, cdRows_ren, cdS, cdDone, cdCur, h0, -List.map_map], rfl, rfl⟩)
    · have h0' : (0 : Int) < (i : Int) := by omega
      refine bwp_seq fun K hK => bwp_region rfl ?_
      simp -implicitDefEqProofs only [go_sem, ↓reduceIte, Nat.reduceEqDiff, Nat.reduceAdd, Nat.reduceLeDiff, Nat.reduceMul, Nat.reduceSub, Int.reduceLE, Int.reduceLT, Int.reduceEq, Int.reduceToNat, Int.reducePow, Int.reduceNeg, eq_true h0', decide_true]
      refine hK _ ?_; clear hK
      refine bwp_cond true (by simp [ev, fget]) (fun _ => ?_) (fun h => nomatch h)
      have e1 : s.length + 2 ≤ 9223372036854775807 := by omega
      cases bar with
      | true =>
        have hb : bits .and .i64 x 1 = 1 := by simpa using hbar
        have e2 : (cdRows done ++ [AV.sl 1 4 0 cur.length]).length = done.length + 1 := by simp [hdl]
        have e3 : (done.length + 1 + 1) * 24 ≤ 140737488351232 := by omega
        refine bwp_seq fun K hK => bwp_region rfl ?_
        simp -implicitDefEqProofs only [go_sem, ↓reduceIte, Nat.reduceEqDiff, Nat.reduceAdd, Nat.reduceLeDiff, Nat.reduceMul, Nat.reduceSub, Int.reduceLE, Int.reduceLT, Int.reduceEq, Int.reduceToNat, Int.reducePow, Int.reduceNeg, hXe, h1, hi0, Int.toNat_natCast, hcs, hld, eq_true hb, decide_true]
        refine hK _ ?_; clear hK
        refine bwp_cond true (by simp [ev, fget]) (fun _ => ?_) (fun h => nomatch h)
        refine bwp_seq fun K hK => bwp_region rfl ?_
        simp -implicitDefEqProofs only [go_sem, ↓reduceIte, Nat.reduceEqDiff, Nat.reduceAdd, Nat.reduceLeDiff, Nat.reduceMul, Nat.reduceSub, Int.reduceLE, Int.reduceLT, Int.reduceEq, Int.reduceToNat, Int.reducePow, Int.reduceNeg, List.length_cons, List.length_nil, Nat.zero_add, e1]
        refine hK _ ?_; clear hK
        refine bwp_region rfl ?_
        simp -implicitDefEqProofs only [go_sem, ↓reduceIte, Nat.reduceEqDiff, Nat.reduceAdd, Nat.reduceLeDiff, Nat.reduceMul, Nat.reduceSub, Int.reduceLE, Int.reduceLT, Int.reduceEq, Int.reduceToNat, Int.reducePow, Int.reduceNeg, e2, e3, Nat.zero_add, Nat.mul_one]
        have hidx : (cdRows done ++ [AV.sl 1 4 0 cur.length] ++ [AV.d .nsl])[done.length + 1]? = some (.d .nsl) := by
          rw [List.getElem?_append_right (by rw [e2]; exact Nat.le_refl _), e2, Nat.sub_self]; rfl
        have hset : (cdRows done ++ [AV.sl 1 4 0 cur.length] ++ [AV.d .nsl]).set (done.length + 1) (.sl 2 4 0 0) = cdRows done ++ [AV.sl 1 4 0 cur.length] ++ [.sl 2 4 0 0] := by
          rw [← e2, List.set_append_right _ _ (Nat.le_refl _), Nat.sub_self]; rfl
        have htk : (cur.flatMap Atom.cells).take (cur.length * 4) = cur.flatMap Atom.cells := List.take_of_length_le (by rw [hcl]; omega)
        refine fin1 _ (Leads.trans (S' := ⟨[(5, .d (.int .i64 i)), (0, .d X), (3, .d (.str (s ++ [32, 124]))), (4, .sl 0 1 0 (done.length + 1 + 1))], [(0, cdRows done ++ [AV.sl 1 4 0 cur.length] ++ [AV.d .nsl]), (1, (cur.flatMap Atom.cells).map .d)], 2⟩)
          (Leads.ent [(3, 0), (1, 1)] ⟨?_, ?_, rfl, rfl⟩) (Leads.trans (Leads.nilCell 0 (done.length + 1) 4 rfl rfl hidx rfl) ?_))
        · simp [entT, fget, AV.ren, renL, pget, hXe]
        · simp [entM, pinv, mget, renL, AV.ren, pget, renL_append, cdRows_ren, -List.map_map]
        · rw [hset]
          refine Leads.frz [(0, 0), (2, 1)] [(1, cur.flatMap Atom.cells)] ⟨?_, ?_, rfl, rfl, ?_⟩
          · simp [cdS, cdSep, cdDone, h0, frzT, fget, AV.cv, cvL, zget, pget]
          · simp [cdS, cdDone, cdCur, h0, frzM, pinv, zget, mget, mset, cvL, AV.cv, pget, cvL_d, cvL_append, cdRows_snoc, htk, slD, -List.map_map]
            simp only [cdRows, cvL_d]
          · simp [zokFrom, mget, mset, cvL_d, -List.map_map]
      | false =>
        have hb : ¬ bits .and .i64 x 1 = 1 := by simpa using hbar
        refine bwp_seq fun K hK => bwp_region rfl ?_
        simp -implicitDefEqProofs only [go_sem, ↓reduceIte, Nat.reduceEqDiff, Nat.reduceAdd, Nat.reduceLeDiff, Nat.reduceMul, Nat.reduceSub, Int.reduceLE, Int.reduceLT, Int.reduceEq, Int.reduceToNat, Int.reducePow, Int.reduceNeg, hXe, h1, hi0, Int.toNat_natCast, hcs, hld, eq_false hb, decide_false]
        refine hK _ ?_; clear hK
        refine bwp_cond false (by simp [ev, fget]) (fun h => nomatch h) (fun _ => ?_)
        refine bwp_region rfl ?_
        simp -implicitDefEqProofs only [go_sem, ↓reduceIte, Nat.reduceEqDiff, Nat.reduceAdd, Nat.reduceLeDiff, Nat.reduceMul, Nat.reduceSub, Int.reduceLE, Int.reduceLT, Int.reduceEq, Int.reduceToNat, Int.reducePow, Int.reduceNeg, List.length_cons, List.length_nil, Nat.zero_add, e1]
        refine fin1 _ (Leads.ent [(0, 0), (1, 1)] ⟨by simp [entT, fget, AV.ren, renL, pget, cdS, cdSep, cdDone, cdCur, h0, hXe], by simp [entM, pinv, mget, renL, AV.ren, pget, renL_append, cdRows_ren, cdS, cdDone, cdCur, h0, -List.map_map], rfl, rfl⟩)

set_option maxHeartbeats 8000000 in
theorem parseConds_pure {ls : List Int} {X : DV} (hX : IsInts ls X) : Pure Tryd.prog 13 [.d X] (.d (.bool true)) := by
  have haw := awake3_pure
  have hsl := hX.sl
  have hm : maxLen = 9223372036854775807 := rfl
  refine acalls_of Tryd.func13 ac13_ok Tryd.ntmps13 Tryd.results13 rfl ?_
  unfold ac13
  refine bwp_seq fun K hK => bwp_region rfl ?_
  simp -implicitDefEqProofs only [go_sem, ↓reduceIte, Nat.reduceEqDiff, Nat.reduceAdd, Nat.reduceLeDiff, Nat.reduceMul, Nat.reduceSub, Int.reduceLE, Int.reduceLT, Int.reduceEq, Int.reduceToNat, Int.reducePow, Int.reduceNeg]
  refine hK _ ?_; clear hK
  refine bwp_seq fun K1 hK1 => ?_
  by_cases hne : ls = []
  · have h0 : (ls.length : Int) = 0 := by rw [hne]; rfl
    refine bwp_seq fun K hK => bwp_region rfl ?_
    simp -implicitDefEqProofs only [go_sem, ↓reduceIte, Nat.reduceEqDiff, Nat.reduceAdd, Nat.reduceLeDiff, Nat.reduceMul, Nat.reduceSub, Int.reduceLE, Int.reduceLT, Int.reduceEq, Int.reduceToNat, Int.reducePow, Int.reduceNeg, hsl.len, eq_true h0, decide_true]
    refine hK _ ?_; clear hK
    refine bwp_cond true (by simp [ev, fget]) (fun _ => ?_) (fun h => nomatch h)
    refine bwp_seq fun K hK => bwp_region rfl ?_
    simp -implicitDefEqProofs only [go_sem, ↓reduceIte, Nat.reduceEqDiff, Nat.reduceAdd, Nat.reduceLeDiff, Nat.reduceMul, Nat.reduceSub, Int.reduceLE, Int.reduceLT, Int.reduceEq, Int.reduceToNat, Int.reducePow, Int.reduceNeg]
    repeat' (first
      | (refine gateK_split (fun hb => ?_) (fun hb => ?_) <;> simp -implicitDefEqProofs only [go_sem, ↓reduceIte, Nat.reduceEqDiff, Nat.reduceAdd, Nat.reduceLeDiff, Nat.reduceMul, Nat.reduceSub, Int.reduceLE, Int.reduceLT, Int.reduceEq, Int.reduceToNat, Int.reducePow, Int.reduceNeg, hb])
      | (refine dGateK_split (fun hb => ?_) (fun hb => ?_) <;> simp -implicitDefEqProofs only [go_sem, ↓reduceIte, Nat.reduceEqDiff, Nat.reduceAdd, Nat.reduceLeDiff, Nat.reduceMul, Nat.reduceSub, Int.reduceLE, Int.reduceLT, Int.reduceEq, Int.reduceToNat, Int.reducePow, Int.reduceNeg, hb])
      | (refine callK_pure (haw) rfl rfl ?_; simp -implicitDefEqProofs only [go_sem, ↓reduceIte, Nat.reduceEqDiff, Nat.reduceAdd, Nat.reduceLeDiff, Nat.reduceMul, Nat.reduceSub, Int.reduceLE, Int.reduceLT, Int.reduceEq, Int.reduceToNat, Int.reducePow, Int.reduceNeg])
      | (refine dCallK_pure (haw) rfl rfl ?_; simp -implicitDefEqProofs only [go_sem, ↓reduceIte, Nat.reduceEqDiff, Nat.reduceAdd, Nat.reduceLeDiff, Nat.reduceMul, Nat.reduceSub, Int.reduceLE, Int.reduceLT, Int.reduceEq, Int.reduceToNat, Int.reducePow, Int.reduceNeg])
      | (rw [if_pos (by (try simp only [List.length_append, List.length_cons, List.length_nil, List.length_map]); omega)]; simp -implicitDefEqProofs only [go_sem, ↓reduceIte, Nat.reduceEqDiff, Nat.reduceAdd, Nat.reduceLeDiff, Nat.reduceMul, Nat.reduceSub, Int.reduceLE, Int.reduceLT, Int.reduceEq, Int.reduceToNat, Int.reducePow, Int.reduceNeg]))
    refine hK _ ?_; clear hK
    refine bwp_ret ?_
    simp only [go_sem]
    refine aend_ret _ rfl rfl ⟨?_, rfl⟩
    simp [fget]
  · have h0 : ¬ (ls.length : Int) = 0 := by
      have := List.length_pos_iff.2 hne
      omega
    refine bwp_seq fun K hK => bwp_region rfl ?_
    simp -implicitDefEqProofs only [go_sem, ↓reduceIte, Nat.reduceEqDiff, Nat.reduceAdd, Nat.reduceLeDiff, Nat.reduceMul, Nat.reduceSub, Int.reduceLE, Int.reduceLT, Int.reduceEq, Int.reduceToNat, Int.reducePow, Int.reduceNeg, hsl.len, eq_false h0, decide_false]
    refine hK _ ?_; clear hK
    refine bwp_cond false (by simp [ev, fget]) (fun h => nomatch h) (fun _ => ?_)
    refine bwp_skip ?_
    refine hK1 _ ?_; clear hK1
    refine bwp_seq fun K hK => bwp_region rfl ?_
    simp -implicitDefEqProofs only [go_sem, ↓reduceIte, Nat.reduceEqDiff, Nat.reduceAdd, Nat.reduceLeDiff, Nat.reduceMul, Nat.reduceSub, Int.reduceLE, Int.reduceLT, Int.reduceEq, Int.reduceToNat, Int.reducePow, Int.reduceNeg]
    refine hK _ ?_; clear hK
    refine bwp_seq fun K hK => bwp_region rfl ?_
    simp -implicitDefEqProofs only [go_sem, ↓reduceIte, Nat.reduceEqDiff, Nat.reduceAdd, Nat.reduceLeDiff, Nat.reduceMul, Nat.reduceSub, Int.reduceLE, Int.reduceLT, Int.reduceEq, Int.reduceToNat, Int.reducePow, Int.reduceNeg]
    refine hK _ ?_; clear hK
    refine bwp_seq fun K1 hK1 => ?_
    refine bwp_seq fun K hK => bwp_region rfl ?_
    simp -implicitDefEqProofs only [go_sem, ↓reduceIte, Nat.reduceEqDiff, Nat.reduceAdd, Nat.reduceLeDiff, Nat.reduceMul, Nat.reduceSub, Int.reduceLE, Int.reduceLT, Int.reduceEq, Int.reduceToNat, Int.reducePow, Int.reduceNeg]
    refine hK _ ?_; clear hK
    refine bwp_block ?_
    refine bwp_leads (S' := ⟨[(5, .d (.int .i64 (0 : Nat))), (0, .d X), (3, .d (.str cdPre)), (4, .sl 0 1 0 1)], [(0, [.d .nsl])], 1⟩) (Leads.ent [(0, 0)] ⟨by simp [entT, fget, AV.ren, renL, pget, cdPre], by simp [entM, pinv, mget, renL, AV.ren, pget], rfl, rfl⟩) ?_
    refine bwp_leads (Leads.nilCell 0 0 4 rfl rfl rfl rfl) ?_
    refine bwp_leads (S' := cdS X cdPre [] [] 0) (Leads.ent [(0, 0), (1, 1)] ⟨by simp [entT, fget, AV.ren, renL, pget, cdS], by simp [entM, pinv, mget, mset, renL, AV.ren, pget, cdS, cdRows], rfl, rfl⟩) ?_
    refine cd_loop hX hne ?_
    intro i s done cur hi hI
    have hlen := hI.len
    have hle := hI.le
    have hcur := hI.rest (by omega)
    have hrows := hI.rows
    have hcl := atoms_len cur
    have hdl := cdRows_len done
    have hlt : (s ++ cdPost).length ≤ 4000 := by simp only [cdPost, List.length_append, List.length_cons, List.length_nil]; omega
    have hnr : (done ++ [cur]).length ≤ 10 := by simp only [List.length_append, List.length_cons, List.length_nil]; omega
    have hall : ∀ l ∈ done ++ [cur], l.length ≤ 10 := fun l hl => by have := hI.each l hl; omega
    have hreads : pTest (s ++ cdPost) = .ok (cdT (done ++ [cur])) := by
      rw [hI.text] at hlt ⊢
      exact cd_reads hI.okd ⟨hcur, hI.okc⟩ hnr hall hlt
    have k1 := parse2_pure (s := s ++ cdPost) (by omega)
    rw [hreads] at k1
    have hfp : fuelP = 4001 := rfl
    have hsc := isSl2_d Atom.cells (ls := done ++ [cur]) (by omega) (fun l hl => by have := hall l hl; omega)
    have k2 := refSameCond_pure (kd := 2) (kd' := 2) hsc hsc
    have hself : eqL (eqL eqAtom) (done ++ [cur]) (done ++ [cur]) = true := (eqL_iff (eqL_iff eqAtom_iff) _ _).2 rfl
    rw [hself] at k2
    have htk : (cur.flatMap Atom.cells).take (cur.length * 4) = cur.flatMap Atom.cells := List.take_of_length_le (by rw [hcl]; omega)
    have e1 : s.length + 4 ≤ 9223372036854775807 := by omega
    unfold cdS
    simp -implicitDefEqProofs only [go_sem, ↓reduceIte, Nat.reduceEqDiff, Nat.reduceAdd, Nat.reduceLeDiff, Nat.reduceMul, Nat.reduceSub, Int.reduceLE, Int.reduceLT, Int.reduceEq, Int.reduceToNat, Int.reducePow, Int.reduceNeg]
    refine hK1 _ ?_; clear hK1
    refine bwp_leads (S' := ⟨[(0, .d X), (3, .d (.str s)), (4, .d (.sl (done ++ [cur]).length ((done ++ [cur]).map (slD Atom.cells))))], [], 0⟩) (Leads.frz [] [(0, (done ++ [cur]).map (slD Atom.cells)), (1, cur.flatMap Atom.cells)] ⟨?_, ?_, rfl, rfl, ?_⟩) ?_
    · simp [frzT, fget, AV.cv, cvL, zget, pget]
      exact List.take_of_length_le (by simp)
    · simp [frzM]
    · simp [zokFrom, mget, zget, cvL_d, cvL_append, cdRows, cvL, AV.cv, htk, slD, -List.map_map]
    simp only [pCells, pCode, pAt, testD, cdT, rowsD, rowsC, cdPost, List.map_cons, List.map_nil] at k1
    generalize (DV.sl (done ++ [cur]).length ((done ++ [cur]).map (slD Atom.cells))) = Y at *
    refine bwp_seq fun K hK => bwp_region rfl ?_
    simp -implicitDefEqProofs only [go_sem, ↓reduceIte, Nat.reduceEqDiff, Nat.reduceAdd, Nat.reduceLeDiff, Nat.reduceMul, Nat.reduceSub, Int.reduceLE, Int.reduceLT, Int.reduceEq, Int.reduceToNat, Int.reducePow, Int.reduceNeg, e1, List.length_cons, List.length_nil, Nat.zero_add]
    repeat' (first
      | (refine gateK_split (fun hb => ?_) (fun hb => ?_) <;> simp -implicitDefEqProofs only [go_sem, ↓reduceIte, Nat.reduceEqDiff, Nat.reduceAdd, Nat.reduceLeDiff, Nat.reduceMul, Nat.reduceSub, Int.reduceLE, Int.reduceLT, Int.reduceEq, Int.reduceToNat, Int.reducePow, Int.reduceNeg, hb])
      | (refine dGateK_split (fun hb => ?_) (fun hb => ?_) <;> simp -implicitDefEqProofs only [go_sem, ↓reduceIte, Nat.reduceEqDiff, Nat.reduceAdd, Nat.reduceLeDiff, Nat.reduceMul, Nat.reduceSub, Int.reduceLE, Int.reduceLT, Int.reduceEq, Int.reduceToNat, Int.reducePow, Int.reduceNeg, hb])
      | (refine callK_pure (k1) rfl rfl ?_; simp -implicitDefEqProofs only [go_sem, ↓reduceIte, Nat.reduceEqDiff, Nat.reduceAdd, Nat.reduceLeDiff, Nat.reduceMul, Nat.reduceSub, Int.reduceLE, Int.reduceLT, Int.reduceEq, Int.reduceToNat, Int.reducePow, Int.reduceNeg])
      | (refine dCallK_pure (k1) rfl rfl ?_; simp -implicitDefEqProofs only [go_sem, ↓reduceIte, Nat.reduceEqDiff, Nat.reduceAdd, Nat.reduceLeDiff, Nat.reduceMul, Nat.reduceSub, Int.reduceLE, Int.reduceLT, Int.reduceEq, Int.reduceToNat, Int.reducePow, Int.reduceNeg])
      | (rw [if_pos (by (try simp only [List.length_append, List.length_cons, List.length_nil, List.length_map]); omega)]; simp -implicitDefEqProofs only [go_sem, ↓reduceIte, Nat.reduceEqDiff, Nat.reduceAdd, Nat.reduceLeDiff, Nat.reduceMul, Nat.reduceSub, Int.reduceLE, Int.reduceLT, Int.reduceEq, Int.reduceToNat, Int.reducePow, Int.reduceNeg]))
    refine hK _ ?_; clear hK
    refine bwp_seq fun K hK => bwp_region rfl ?_
    simp -implicitDefEqProofs only [go_sem, ↓reduceIte, Nat.reduceEqDiff, Nat.reduceAdd, Nat.reduceLeDiff, Nat.reduceMul, Nat.reduceSub, Int.reduceLE, Int.reduceLT, Int.reduceEq, Int.reduceToNat, Int.reducePow, Int.reduceNeg]
    repeat' (first
      | (refine gateK_split (fun hb => ?_) (fun hb => ?_) <;> simp -implicitDefEqProofs only [go_sem, ↓reduceIte, Nat.reduceEqDiff, Nat.reduceAdd, Nat.reduceLeDiff, Nat.reduceMul, Nat.reduceSub, Int.reduceLE, Int.reduceLT, Int.reduceEq, Int.reduceToNat, Int.reducePow, Int.reduceNeg, hb])
      | (refine dGateK_split (fun hb => ?_) (fun hb => ?_) <;> simp -implicitDefEqProofs only [go_sem, ↓reduceIte, Nat.reduceEqDiff, Nat.reduceAdd, Nat.reduceLeDiff, Nat.reduceMul, Nat.reduceSub, Int.reduceLE, Int.reduceLT, Int.reduceEq, Int.reduceToNat, Int.reducePow, Int.reduceNeg, hb])
      | (refine callK_pure (k2) rfl rfl ?_; simp -implicitDefEqProofs only [go_sem, ↓reduceIte, Nat.reduceEqDiff, Nat.reduceAdd, Nat.reduceLeDiff, Nat.reduceMul, Nat.reduceSub, Int.reduceLE, Int.reduceLT, Int.reduceEq, Int.reduceToNat, Int.reducePow, Int.reduceNeg])
      | (refine dCallK_pure (k2) rfl rfl ?_; simp -implicitDefEqProofs only [go_sem, ↓reduceIte, Nat.reduceEqDiff, Nat.reduceAdd, Nat.reduceLeDiff, Nat.reduceMul, Nat.reduceSub, Int.reduceLE, Int.reduceLT, Int.reduceEq, Int.reduceToNat, Int.reducePow, Int.reduceNeg])
      | (refine callK_pure (haw) rfl rfl ?_; simp -implicitDefEqProofs only [go_sem, ↓reduceIte, Nat.reduceEqDiff, Nat.reduceAdd, Nat.reduceLeDiff, Nat.reduceMul, Nat.reduceSub, Int.reduceLE, Int.reduceLT, Int.reduceEq, Int.reduceToNat, Int.reducePow, Int.reduceNeg])
      | (refine dCallK_pure (haw) rfl rfl ?_; simp -implicitDefEqProofs only [go_sem, ↓reduceIte, Nat.reduceEqDiff, Nat.reduceAdd, Nat.reduceLeDiff, Nat.reduceMul, Nat.reduceSub, Int.reduceLE, Int.reduceLT, Int.reduceEq, Int.reduceToNat, Int.reducePow, Int.reduceNeg])
      | (rw [if_pos (by (try simp only [List.length_append, List.length_cons, List.length_nil, List.length_map]); omega)]; simp -implicitDefEqProofs only [go_sem, ↓reduceIte, Nat.reduceEqDiff, Nat.reduceAdd, Nat.reduceLeDiff, Nat.reduceMul, Nat.reduceSub, Int.reduceLE, Int.reduceLT, Int.reduceEq, Int.reduceToNat, Int.reducePow, Int.reduceNeg]))
    refine hK _ ?_; clear hK
    refine bwp_ret ?_
    simp only [go_sem]
    refine aend_ret _ rfl rfl ⟨?_, rfl⟩
    simp [fget]

end Go.Proofs.YtpfbljkfbjjlkaaDoor
