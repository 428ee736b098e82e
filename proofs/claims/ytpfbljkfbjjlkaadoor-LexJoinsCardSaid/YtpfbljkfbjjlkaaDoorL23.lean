/- LexJoins comes to true. -/
import Derived.Test.YtpfbljkfbjjlkaaDoorL22
namespace Go.Proofs.YtpfbljkfbjjlkaaDoor
open Go Go.Jq
set_option maxRecDepth 100000
set_option linter.unusedSimpArgs false

def seps : List (List UInt8) := [[32], [9], [10], [32, 35, 32, 110, 10]]
/-- The number of the blank behind the i-th token. -/
def sepQ (how : Int) (i : Nat) : Nat := (bits .and .i64 (IntKind.i64.wrap (how.fdiv (2 ^ min (bits .and .i64 i 15).toNat 64) + i)) 3).toNat
def sepW4 (how : Int) (i : Nat) : List UInt8 := seps.getD (sepQ how i) []

theorem sepQ_lt (how : Int) (i : Nat) : sepQ how i < 4 := by
  obtain ⟨q, h1, h2⟩ := bits_and_le (IntKind.i64.wrap (how.fdiv (2 ^ min (bits .and .i64 i 15).toNat 64) + i)) 3 (by omega)
  have e3 : ((3 : Nat) : Int) = 3 := rfl
  rw [e3] at h2
  unfold sepQ
  rw [h2]
  omega

theorem sepW4_sep (how : Int) (i : Nat) : isSep (sepW4 how i) := by
  have : ∀ q : Fin 4, isSep (seps.getD q.1 []) := by unfold isSep; decide
  exact this ⟨sepQ how i, sepQ_lt how i⟩

theorem joinS_snoc (sep : Nat → List UInt8) (t : Tok) : ∀ (l : List Tok) (k : Nat), joinS sep k (l ++ [t]) = joinS sep k l ++ t.tx ++ sep (k + l.length)
  | [], k => by simp [joinS]
  | u :: l, k => by
    simp only [List.cons_append, joinS, joinS_snoc sep t l (k + 1), List.length_cons, List.append_assoc]
    rw [show k + 1 + l.length = k + (l.length + 1) by omega]

theorem tl_tx {s : List UInt8} : ∀ {l : List Tok} {a : Nat}, a ≤ s.length → TL s a l → ∀ t ∈ l, t.tx.length ≤ s.length
  | [], _, _, h => h.elim
  | u :: l, a, ha, h => by
    obtain ⟨e, he, hr⟩ := h
    obtain ⟨_, _, p3, _, p5, _, _⟩ := next_text ha he
    intro t ht
    rcases List.mem_cons.1 ht with rfl | ht
    · omega
    · by_cases h4 : u.kd = 4
      · rw [if_pos h4] at hr; rw [hr] at ht; cases ht
      · rw [if_neg h4] at hr; exact tl_tx p5 hr t ht

theorem joinS_len {sep : Nat → List UInt8} (hs : ∀ i, isSep (sep i)) : ∀ {l : List Tok} {k : Nat}, (∀ t ∈ l, t.tx.length ≤ 4000) → (joinS sep k l).length ≤ l.length * 4005
  | [], _, _ => by simp [joinS]
  | t :: l, k, h => by
    have ih := joinS_len (k := k + 1) hs fun u hu => h u (List.mem_cons_of_mem _ hu)
    have h1 := h t List.mem_cons_self
    have h2 : (sep k).length ≤ 5 := by rcases hs k with h | h | h | h <;> rw [h] <;> decide
    simp only [joinS, List.length_append, List.length_cons]
    omega

def ljS (X : DV) (how : Int) (T : List UInt8) (i : Nat) : St := ⟨[(7, .d (.str T)), (5, .d X), (8, .d (.int .i64 i)), (1, .d (.int .i64 how))], [], 0⟩

set_option maxHeartbeats 16000000 in
theorem lj_loop0 {l : List Tok} {X : DV} (hX : IsSl Tok.cells l X) (hl : l.length ≤ 500) (htx : ∀ t ∈ l, t.tx.length ≤ 4000) {how : Int} {Q : Exit → St → Prop} (hQ : Q (.exit 0) (ljS X how (joinS (sepW4 how) 0 l) l.length)) :
    BWP Tryd.prog (mbound []) 100 (.loop ac7L0) (ljS X how [] 0) Q := by
  refine bwp_count (fun i => ljS X how (joinS (sepW4 how) 0 (l.take i)) i) l.length ?_
  intro i hi
  unfold ac7L0 ljS
  have hlen := hX.len
  by_cases hlt : i < l.length
  · have hlt' : (i : Int) < l.length := by omega
    have hw : IntKind.i64.wrap ((i : Int) + 1) = ((i + 1 : Nat) : Int) := by rw [wrap_i64 (by omega) (by omega)]; rfl
    obtain ⟨cs, rest, hXe, hdrop, hcs⟩ := hX.at tok_len (by omega) i hlt
    have hnx : joinS (sepW4 how) 0 (l.take (i + 1)) = joinS (sepW4 how) 0 (l.take i) ++ l[i].tx ++ sepW4 how i := by
      rw [take_snoc l i hlt, joinS_snoc, List.length_take, Nat.zero_add, Nat.min_eq_left hi]
    have hjl : (joinS (sepW4 how) 0 (l.take i)).length ≤ 500 * 4005 := by
      have := joinS_len (k := 0) (l := l.take i) (sepW4_sep how) fun t ht => htx t (List.mem_of_mem_take ht)
      rw [List.length_take] at this
      omega
    have htl := htx l[i] (List.getElem_mem hlt)
    obtain ⟨q15, h15, e15⟩ := bits_and_le (i : Int) 15 (by omega)
    have c15 : ((15 : Nat) : Int) = 15 := rfl
    rw [c15] at e15
    have hq64 : q15 ≤ 64 := by omega
    have hqn : ¬ (q15 : Int) < 0 := by omega
    have hi64 : IntKind.i64.bits = 64 := rfl
    obtain ⟨q, hq3, hq⟩ := bits_and_le (IntKind.i64.wrap (how.fdiv (2 ^ q15) + i)) 3 (by omega)
    have c3 : ((3 : Nat) : Int) = 3 := rfl
    rw [c3] at hq
    have hsq : sepQ how i = q := by
      unfold sepQ
      rw [e15, Int.toNat_natCast, Nat.min_eq_left hq64, hq, Int.toNat_natCast]
    have hsw : sepW4 how i = seps.getD q [] := by unfold sepW4; rw [hsq]
    generalize joinS (sepW4 how) 0 (l.take i) = T at hnx hjl ⊢
    generalize l[i] = t at hnx htl hdrop
    have b1 : T.length + t.tx.length ≤ 9223372036854775807 := by omega
    have b2 : T.length + t.tx.length + 5 ≤ 9223372036854775807 := by omega
    have b3 : T.length + t.tx.length + 1 ≤ 9223372036854775807 := by omega
    have hq4 : q = 0 ∨ q = 1 ∨ q = 2 ∨ q = 3 := by omega
    rcases hq4 with rfl | rfl | rfl | rfl
    all_goals
      simp only [seps, List.getD_cons_zero, List.getD_cons_succ] at hsw
      rw [hsw] at hnx
      have hq' := hq
      simp only [Int.cast_ofNat_Int] at hq'
      refine bwp_seq fun K1 hK1 => ?_
      refine bwp_seq fun K hK => bwp_region rfl ?_
      simp -implicitDefEqProofs only [go_sem, ↓reduceIte, Nat.reduceEqDiff, Nat.reduceAdd, Nat.reduceLeDiff, Nat.reduceMul, Nat.reduceSub, Int.reduceLE, Int.reduceLT, Int.reduceEq, Int.reduceToNat, Int.reducePow, Int.reduceNeg, hlen, hlt']
      refine hK _ ?_; clear hK
      refine bwp_cond true (by simp [ev, fget]) (fun _ => ?_) (fun h => nomatch h)
      refine bwp_skip ?_
      refine hK1 _ ?_; clear hK1
      refine bwp_seq fun K1 hK1 => ?_
      refine bwp_block ?_
      refine bwp_region_draw rfl rfl ?_
      simp -implicitDefEqProofs only [go_sem, ↓reduceIte, Nat.reduceEqDiff, Nat.reduceAdd, Nat.reduceLeDiff, Nat.reduceMul, Nat.reduceSub, Int.reduceLE, Int.reduceLT, Int.reduceEq, Int.reduceToNat, Int.reducePow, Int.reduceNeg, hXe, hlt', Int.natCast_nonneg, Int.toNat_natCast, hcs, hdrop, Tok.cells, b1, b2, b3, e15, hq64, hqn, hi64, hq', List.length_append]
      refine ⟨rfl, ?_⟩
      refine hK1 _ ?_; clear hK1
      refine bwp_region rfl ?_
      simp -implicitDefEqProofs only [go_sem, ↓reduceIte, Nat.reduceEqDiff, Nat.reduceAdd, Nat.reduceLeDiff, Nat.reduceMul, Nat.reduceSub, Int.reduceLE, Int.reduceLT, Int.reduceEq, Int.reduceToNat, Int.reducePow, Int.reduceNeg, hw]
      exact ⟨hlt, (Leads.ent [] ⟨by simp [entT, fget, AV.ren, renL, pget, hXe, hnx], by simp [entM, pinv, mget, mset, renL, AV.ren, pget, renL_append, -List.map_map, hXe, hnx], rfl, rfl⟩)⟩
  · have hlt' : ¬ (i : Int) < l.length := by omega
    have he : i = l.length := by omega
    subst he
    have hall : l.take l.length = l := List.take_of_length_le (Nat.le_refl _)
    refine bwp_seq fun K1 hK1 => ?_
    refine bwp_seq fun K hK => bwp_region rfl ?_
    simp -implicitDefEqProofs only [go_sem, ↓reduceIte, Nat.reduceEqDiff, Nat.reduceAdd, Nat.reduceLeDiff, Nat.reduceMul, Nat.reduceSub, Int.reduceLE, Int.reduceLT, Int.reduceEq, Int.reduceToNat, Int.reducePow, Int.reduceNeg, hlen, hlt']
    refine hK _ ?_; clear hK
    refine bwp_cond false (by simp [ev, fget]) (fun h => nomatch h) (fun _ => ?_)
    refine bwp_leads (S' := ljS X how (joinS (sepW4 how) 0 l) l.length) (Leads.ent [] ⟨by simp [entT, fget, AV.ren, renL, pget, ljS, hall], by simp [entM, pinv, mget, mset, renL, AV.ren, pget, renL_append, -List.map_map, ljS, hall], rfl, rfl⟩) ?_
    exact bwp_exit hQ

def lkS2 (X Y : DV) (i : Nat) : St := ⟨[(5, .d X), (9, .d Y), (11, .d (.int .i64 i))], [], 0⟩

set_option maxHeartbeats 16000000 in
theorem lj_loop1 {l m : List Tok} {X Y : DV} (hX : IsSl Tok.cells l X) (hY : IsSl Tok.cells m Y) (hl : l.length ≤ 4001) (hm : m.map (fun t => (t.kd, t.tx)) = l.map (fun t => (t.kd, t.tx))) {Q : Exit → St → Prop} (hQ : Q (.exit 2) (lkS2 X Y l.length)) :
    BWP Tryd.prog (mbound []) 100 (.loop ac7L1) (lkS2 X Y 0) Q := by
  have hml : m.length = l.length := by have := congrArg List.length hm; simpa using this
  refine bwp_count (fun i => lkS2 X Y i) l.length ?_
  intro i hi
  unfold ac7L1 lkS2
  have hlen := hX.len
  by_cases hlt : i < l.length
  · have hlt' : (i : Int) < l.length := by omega
    have hltm : (i : Int) < m.length := by omega
    have hw : IntKind.i64.wrap ((i : Int) + 1) = ((i + 1 : Nat) : Int) := by rw [wrap_i64 (by omega) (by omega)]; rfl
    obtain ⟨cs, rest, hXe, hdrop, hcs⟩ := hX.at tok_len (by omega) i hlt
    obtain ⟨cs', rest', hYe, hdrop', hcs'⟩ := hY.at tok_len (by omega) i (by omega)
    have hpair : (m[i].kd, m[i].tx) = (l[i].kd, l[i].tx) := by
      have h1 : (m.map (fun t => (t.kd, t.tx)))[i]? = (l.map (fun t => (t.kd, t.tx)))[i]? := by rw [hm]
      simpa [hlt, show i < m.length by omega] using h1
    obtain ⟨e1, e2⟩ := Prod.mk.inj hpair
    simp only [Tok.cells, e1, e2] at hdrop'
    refine bwp_seq fun K1 hK1 => ?_
    refine bwp_seq fun K hK => bwp_region rfl ?_
    simp -implicitDefEqProofs only [go_sem, ↓reduceIte, Nat.reduceEqDiff, Nat.reduceAdd, Nat.reduceLeDiff, Nat.reduceMul, Nat.reduceSub, Int.reduceLE, Int.reduceLT, Int.reduceEq, Int.reduceToNat, Int.reducePow, Int.reduceNeg, hlen, hlt']
    refine hK _ ?_; clear hK
    refine bwp_cond true (by simp [ev, fget]) (fun _ => ?_) (fun h => nomatch h)
    refine bwp_skip ?_
    refine hK1 _ ?_; clear hK1
    refine bwp_seq fun K1 hK1 => ?_
    refine bwp_block ?_
    refine bwp_seq fun K hK => bwp_region_draw rfl rfl ?_
    simp -implicitDefEqProofs only [go_sem, ↓reduceIte, Nat.reduceEqDiff, Nat.reduceAdd, Nat.reduceLeDiff, Nat.reduceMul, Nat.reduceSub, Int.reduceLE, Int.reduceLT, Int.reduceEq, Int.reduceToNat, Int.reducePow, Int.reduceNeg, hXe, hYe, hlt', hltm, Int.natCast_nonneg, Int.toNat_natCast, hcs, hcs', hdrop, hdrop', Tok.cells, decide_true, Bool.not_true, bne_self_eq_false]
    refine ⟨rfl, hK _ ?_⟩; clear hK
    refine bwp_cond false (by simp [ev, fget, putF, boolA]) (fun h => nomatch h) (fun _ => ?_)
    refine bwp_skip ?_
    refine hK1 _ ?_; clear hK1
    refine bwp_region rfl ?_
    simp -implicitDefEqProofs only [go_sem, ↓reduceIte, Nat.reduceEqDiff, Nat.reduceAdd, Nat.reduceLeDiff, Nat.reduceMul, Nat.reduceSub, Int.reduceLE, Int.reduceLT, Int.reduceEq, Int.reduceToNat, Int.reducePow, Int.reduceNeg, hw]
    exact ⟨hlt, (Leads.ent [] ⟨by simp [entT, fget, AV.ren, renL, pget, hXe, hYe], by simp [entM, pinv, mget, mset, renL, AV.ren, pget, renL_append, -List.map_map, hXe, hYe], rfl, rfl⟩)⟩
  · have hlt' : ¬ (i : Int) < l.length := by omega
    have he : i = l.length := by omega
    subst he
    refine bwp_seq fun K1 hK1 => ?_
    refine bwp_seq fun K hK => bwp_region rfl ?_
    simp -implicitDefEqProofs only [go_sem, ↓reduceIte, Nat.reduceEqDiff, Nat.reduceAdd, Nat.reduceLeDiff, Nat.reduceMul, Nat.reduceSub, Int.reduceLE, Int.reduceLT, Int.reduceEq, Int.reduceToNat, Int.reducePow, Int.reduceNeg, hlen, hlt']
    refine hK _ ?_; clear hK
    refine bwp_cond false (by simp [ev, fget]) (fun h => nomatch h) (fun _ => ?_)
    refine bwp_leads (S' := lkS2 X Y l.length) (Leads.ent [] ⟨by simp [entT, fget, AV.ren, renL, pget, lkS2], by simp [entM, pinv, mget, mset, renL, AV.ren, pget, renL_append, -List.map_map, lkS2], rfl, rfl⟩) ?_
    exact bwp_exit hQ

set_option maxHeartbeats 16000000 in
theorem lexJoins_pure {s : List UInt8} (hs : s.length ≤ maxLen) {how : Int} (_ : I64 how) : Pure Tryd.prog 7 [.d (.str s), .d (.int .i64 how)] (.d (.bool true)) := by
  have k1 := all_pure hs
  have hcnt := allW_count s
  have hgood : (allW s).2.1 = 0 → s.length ≤ 4000 ∧ TL s 0 (allW s).1 := by
    unfold allW
    split
    · intro h; cases h
    · intro h; exact ⟨by omega, tl_of_toks (Nat.zero_le _) (by omega) h⟩
  have hX := tokD_sl hcnt
  unfold allV at k1
  generalize (allW s).2.1 = code at *
  generalize (allW s).2.2 = pl at *
  generalize (allW s).1 = l at *
  generalize tokD l = X at *
  have hlen := hX.len
  refine acalls_of Tryd.func7 ac7_ok Tryd.ntmps7 Tryd.results7 rfl ?_
  unfold ac7
  refine bwp_seq fun K hK => bwp_region rfl ?_
  simp -implicitDefEqProofs only [go_sem, ↓reduceIte, Nat.reduceEqDiff, Nat.reduceAdd, Nat.reduceLeDiff, Nat.reduceMul, Nat.reduceSub, Int.reduceLE, Int.reduceLT, Int.reduceEq, Int.reduceToNat, Int.reducePow, Int.reduceNeg]
  refine hK _ ?_; clear hK
  refine bwp_seq fun K hK => bwp_region rfl ?_
  simp -implicitDefEqProofs only [go_sem, ↓reduceIte, Nat.reduceEqDiff, Nat.reduceAdd, Nat.reduceLeDiff, Nat.reduceMul, Nat.reduceSub, Int.reduceLE, Int.reduceLT, Int.reduceEq, Int.reduceToNat, Int.reducePow, Int.reduceNeg]
  repeat' (first
    | (refine gateK_split (fun hb => ?_) (fun hb => ?_) <;> simp -implicitDefEqProofs only [go_sem, ↓reduceIte, Nat.reduceEqDiff, Nat.reduceAdd, Nat.reduceLeDiff, Nat.reduceMul, Nat.reduceSub, Int.reduceLE, Int.reduceLT, Int.reduceEq, Int.reduceToNat, Int.reducePow, Int.reduceNeg, hb])
    | (refine dGateK_split (fun hb => ?_) (fun hb => ?_) <;> simp -implicitDefEqProofs only [go_sem, ↓reduceIte, Nat.reduceEqDiff, Nat.reduceAdd, Nat.reduceLeDiff, Nat.reduceMul, Nat.reduceSub, Int.reduceLE, Int.reduceLT, Int.reduceEq, Int.reduceToNat, Int.reducePow, Int.reduceNeg, hb])
    | (refine callK_pure (k1) rfl rfl ?_; simp -implicitDefEqProofs only [go_sem, ↓reduceIte, Nat.reduceEqDiff, Nat.reduceAdd, Nat.reduceLeDiff, Nat.reduceMul, Nat.reduceSub, Int.reduceLE, Int.reduceLT, Int.reduceEq, Int.reduceToNat, Int.reducePow, Int.reduceNeg])
    | (refine dCallK_pure (k1) rfl rfl ?_; simp -implicitDefEqProofs only [go_sem, ↓reduceIte, Nat.reduceEqDiff, Nat.reduceAdd, Nat.reduceLeDiff, Nat.reduceMul, Nat.reduceSub, Int.reduceLE, Int.reduceLT, Int.reduceEq, Int.reduceToNat, Int.reducePow, Int.reduceNeg])
    | (rw [if_pos (by (try simp only [List.length_append, List.length_cons, List.length_nil, List.length_map]); omega)]; simp -implicitDefEqProofs only [go_sem, ↓reduceIte, Nat.reduceEqDiff, Nat.reduceAdd, Nat.reduceLeDiff, Nat.reduceMul, Nat.reduceSub, Int.reduceLE, Int.reduceLT, Int.reduceEq, Int.reduceToNat, Int.reducePow, Int.reduceNeg]))
  refine hK _ ?_; clear hK
  refine bwp_seq fun K1 hK1 => ?_
  by_cases h0 : code = 0
  · by_cases h5 : l.length ≤ 500
    · obtain ⟨h4, hT⟩ := hgood h0
      have h5' : ¬ (500 : Int) < l.length := by omega
      have htx := tl_tx (Nat.zero_le _) hT
      have htx' : ∀ t ∈ l, t.tx.length ≤ 4000 := fun t ht => Nat.le_trans (htx t ht) h4
      have hjl := joinS_len (k := 0) (sepW4_sep how) htx'
      refine bwp_seq fun K hK => bwp_region rfl ?_
      simp -implicitDefEqProofs only [go_sem, ↓reduceIte, Nat.reduceEqDiff, Nat.reduceAdd, Nat.reduceLeDiff, Nat.reduceMul, Nat.reduceSub, Int.reduceLE, Int.reduceLT, Int.reduceEq, Int.reduceToNat, Int.reducePow, Int.reduceNeg, h0, hlen, h5']
      refine hK _ ?_; clear hK
      refine bwp_cond false (by simp [ev, fget]) (fun h => nomatch h) (fun _ => ?_)
      refine bwp_skip ?_
      refine hK1 _ ?_; clear hK1
      refine bwp_seq fun K hK => bwp_region rfl ?_
      simp -implicitDefEqProofs only [go_sem, ↓reduceIte, Nat.reduceEqDiff, Nat.reduceAdd, Nat.reduceLeDiff, Nat.reduceMul, Nat.reduceSub, Int.reduceLE, Int.reduceLT, Int.reduceEq, Int.reduceToNat, Int.reducePow, Int.reduceNeg]
      refine hK _ ?_; clear hK
      refine bwp_seq fun K1 hK1 => ?_
      refine bwp_seq fun K2 hK2 => ?_
      refine bwp_region rfl ?_
      simp -implicitDefEqProofs only [go_sem, ↓reduceIte, Nat.reduceEqDiff, Nat.reduceAdd, Nat.reduceLeDiff, Nat.reduceMul, Nat.reduceSub, Int.reduceLE, Int.reduceLT, Int.reduceEq, Int.reduceToNat, Int.reducePow, Int.reduceNeg]
      refine hK2 _ ?_; clear hK2
      refine bwp_block ?_
      refine bwp_leads (S' := ljS X how [] 0) (Leads.ent [] ⟨by simp [entT, fget, AV.ren, renL, pget, ljS], by simp [entM, pinv, mget, mset, renL, AV.ren, pget, renL_append, -List.map_map, ljS], rfl, rfl⟩) ?_
      refine lj_loop0 hX h5 htx' ?_
      unfold ljS
      obtain ⟨m, hTm, hmm⟩ := tl_join (T := joinS (sepW4 how) 0 l) (p := 0) (i := 0) (z := []) (sepW4_sep how) (Nat.zero_le _) hT (.inl rfl) (Nat.zero_le _) rfl
      generalize joinS (sepW4 how) 0 l = T at *
      simp -implicitDefEqProofs only [go_sem, ↓reduceIte, Nat.reduceEqDiff, Nat.reduceAdd, Nat.reduceLeDiff, Nat.reduceMul, Nat.reduceSub, Int.reduceLE, Int.reduceLT, Int.reduceEq, Int.reduceToNat, Int.reducePow, Int.reduceNeg]
      refine hK1 _ ?_; clear hK1
      refine bwp_seq fun K1 hK1 => ?_
      by_cases hbig : 4000 < T.length
      · have hb' : (4000 : Int) < T.length := by omega
        refine bwp_seq fun K hK => bwp_region rfl ?_
        simp -implicitDefEqProofs only [go_sem, ↓reduceIte, Nat.reduceEqDiff, Nat.reduceAdd, Nat.reduceLeDiff, Nat.reduceMul, Nat.reduceSub, Int.reduceLE, Int.reduceLT, Int.reduceEq, Int.reduceToNat, Int.reducePow, Int.reduceNeg, hb']
        refine hK _ ?_; clear hK
        refine bwp_cond true (by simp [ev, fget]) (fun _ => ?_) (fun h => nomatch h)
        refine bwp_seq fun K hK => bwp_region rfl ?_
        simp -implicitDefEqProofs only [go_sem, ↓reduceIte, Nat.reduceEqDiff, Nat.reduceAdd, Nat.reduceLeDiff, Nat.reduceMul, Nat.reduceSub, Int.reduceLE, Int.reduceLT, Int.reduceEq, Int.reduceToNat, Int.reducePow, Int.reduceNeg]
        repeat' (first
          | (refine gateK_split (fun hb => ?_) (fun hb => ?_) <;> simp -implicitDefEqProofs only [go_sem, ↓reduceIte, Nat.reduceEqDiff, Nat.reduceAdd, Nat.reduceLeDiff, Nat.reduceMul, Nat.reduceSub, Int.reduceLE, Int.reduceLT, Int.reduceEq, Int.reduceToNat, Int.reducePow, Int.reduceNeg, hb])
          | (refine dGateK_split (fun hb => ?_) (fun hb => ?_) <;> simp -implicitDefEqProofs only [go_sem, ↓reduceIte, Nat.reduceEqDiff, Nat.reduceAdd, Nat.reduceLeDiff, Nat.reduceMul, Nat.reduceSub, Int.reduceLE, Int.reduceLT, Int.reduceEq, Int.reduceToNat, Int.reducePow, Int.reduceNeg, hb])
          | (refine callK_pure (awake2_pure) rfl rfl ?_; simp -implicitDefEqProofs only [go_sem, ↓reduceIte, Nat.reduceEqDiff, Nat.reduceAdd, Nat.reduceLeDiff, Nat.reduceMul, Nat.reduceSub, Int.reduceLE, Int.reduceLT, Int.reduceEq, Int.reduceToNat, Int.reducePow, Int.reduceNeg])
          | (refine dCallK_pure (awake2_pure) rfl rfl ?_; simp -implicitDefEqProofs only [go_sem, ↓reduceIte, Nat.reduceEqDiff, Nat.reduceAdd, Nat.reduceLeDiff, Nat.reduceMul, Nat.reduceSub, Int.reduceLE, Int.reduceLT, Int.reduceEq, Int.reduceToNat, Int.reducePow, Int.reduceNeg])
          | (rw [if_pos (by (try simp only [List.length_append, List.length_cons, List.length_nil, List.length_map]); omega)]; simp -implicitDefEqProofs only [go_sem, ↓reduceIte, Nat.reduceEqDiff, Nat.reduceAdd, Nat.reduceLeDiff, Nat.reduceMul, Nat.reduceSub, Int.reduceLE, Int.reduceLT, Int.reduceEq, Int.reduceToNat, Int.reducePow, Int.reduceNeg]))
        refine hK _ ?_; clear hK
        refine bwp_ret ?_
        simp only [go_sem]
        refine aend_ret _ rfl rfl ⟨?_, rfl⟩
        simp [fget]
      · have hb' : ¬ (4000 : Int) < T.length := by omega
        have k2 := all_pure (s := T) (Nat.le_trans (Nat.le_of_not_lt hbig) (by decide))
        have hc2 := allW_count T
        have hall := allW_tl (Nat.le_of_not_lt hbig) hTm
        rw [hall] at k2 hc2
        have hY := tokD_sl hc2
        unfold allV at k2
        generalize tokD m = Y at *
        have hlm := hY.len
        have hml : m.length = l.length := by have := congrArg List.length hmm; simpa using this
        refine bwp_seq fun K hK => bwp_region rfl ?_
        simp -implicitDefEqProofs only [go_sem, ↓reduceIte, Nat.reduceEqDiff, Nat.reduceAdd, Nat.reduceLeDiff, Nat.reduceMul, Nat.reduceSub, Int.reduceLE, Int.reduceLT, Int.reduceEq, Int.reduceToNat, Int.reducePow, Int.reduceNeg, hb']
        refine hK _ ?_; clear hK
        refine bwp_cond false (by simp [ev, fget]) (fun h => nomatch h) (fun _ => ?_)
        refine bwp_skip ?_
        refine hK1 _ ?_; clear hK1
        refine bwp_seq fun K hK => bwp_region rfl ?_
        simp -implicitDefEqProofs only [go_sem, ↓reduceIte, Nat.reduceEqDiff, Nat.reduceAdd, Nat.reduceLeDiff, Nat.reduceMul, Nat.reduceSub, Int.reduceLE, Int.reduceLT, Int.reduceEq, Int.reduceToNat, Int.reducePow, Int.reduceNeg]
        repeat' (first
          | (refine gateK_split (fun hb => ?_) (fun hb => ?_) <;> simp -implicitDefEqProofs only [go_sem, ↓reduceIte, Nat.reduceEqDiff, Nat.reduceAdd, Nat.reduceLeDiff, Nat.reduceMul, Nat.reduceSub, Int.reduceLE, Int.reduceLT, Int.reduceEq, Int.reduceToNat, Int.reducePow, Int.reduceNeg, hb])
          | (refine dGateK_split (fun hb => ?_) (fun hb => ?_) <;> simp -implicitDefEqProofs only [go_sem, ↓reduceIte, Nat.reduceEqDiff, Nat.reduceAdd, Nat.reduceLeDiff, Nat.reduceMul, Nat.reduceSub, Int.reduceLE, Int.reduceLT, Int.reduceEq, Int.reduceToNat, Int.reducePow, Int.reduceNeg, hb])
          | (refine callK_pure (k2) rfl rfl ?_; simp -implicitDefEqProofs only [go_sem, ↓reduceIte, Nat.reduceEqDiff, Nat.reduceAdd, Nat.reduceLeDiff, Nat.reduceMul, Nat.reduceSub, Int.reduceLE, Int.reduceLT, Int.reduceEq, Int.reduceToNat, Int.reducePow, Int.reduceNeg])
          | (refine dCallK_pure (k2) rfl rfl ?_; simp -implicitDefEqProofs only [go_sem, ↓reduceIte, Nat.reduceEqDiff, Nat.reduceAdd, Nat.reduceLeDiff, Nat.reduceMul, Nat.reduceSub, Int.reduceLE, Int.reduceLT, Int.reduceEq, Int.reduceToNat, Int.reducePow, Int.reduceNeg])
          | (rw [if_pos (by (try simp only [List.length_append, List.length_cons, List.length_nil, List.length_map]); omega)]; simp -implicitDefEqProofs only [go_sem, ↓reduceIte, Nat.reduceEqDiff, Nat.reduceAdd, Nat.reduceLeDiff, Nat.reduceMul, Nat.reduceSub, Int.reduceLE, Int.reduceLT, Int.reduceEq, Int.reduceToNat, Int.reducePow, Int.reduceNeg]))
        refine hK _ ?_; clear hK
        refine bwp_seq fun K1 hK1 => ?_
        refine bwp_seq fun K hK => bwp_region rfl ?_
        simp -implicitDefEqProofs only [go_sem, ↓reduceIte, Nat.reduceEqDiff, Nat.reduceAdd, Nat.reduceLeDiff, Nat.reduceMul, Nat.reduceSub, Int.reduceLE, Int.reduceLT, Int.reduceEq, Int.reduceToNat, Int.reducePow, Int.reduceNeg, hlm, hlen, hml, decide_true, Bool.not_true, bne_self_eq_false]
        refine hK _ ?_; clear hK
        refine bwp_cond false (by simp [ev, fget]) (fun h => nomatch h) (fun _ => ?_)
        refine bwp_skip ?_
        refine hK1 _ ?_; clear hK1
        refine bwp_seq fun K1 hK1 => ?_
        refine bwp_seq fun K2 hK2 => ?_
        refine bwp_region rfl ?_
        simp -implicitDefEqProofs only [go_sem, ↓reduceIte, Nat.reduceEqDiff, Nat.reduceAdd, Nat.reduceLeDiff, Nat.reduceMul, Nat.reduceSub, Int.reduceLE, Int.reduceLT, Int.reduceEq, Int.reduceToNat, Int.reducePow, Int.reduceNeg]
        refine hK2 _ ?_; clear hK2
        refine bwp_block ?_
        refine bwp_leads (S' := lkS2 X Y 0) (Leads.ent [] ⟨by simp [entT, fget, AV.ren, renL, pget, lkS2], by simp [entM, pinv, mget, mset, renL, AV.ren, pget, renL_append, -List.map_map, lkS2], rfl, rfl⟩) ?_
        refine lj_loop1 hX hY hcnt hmm ?_
        unfold lkS2
        simp -implicitDefEqProofs only [go_sem, ↓reduceIte, Nat.reduceEqDiff, Nat.reduceAdd, Nat.reduceLeDiff, Nat.reduceMul, Nat.reduceSub, Int.reduceLE, Int.reduceLT, Int.reduceEq, Int.reduceToNat, Int.reducePow, Int.reduceNeg]
        refine hK1 _ ?_; clear hK1
        refine bwp_seq fun K hK => bwp_region rfl ?_
        simp -implicitDefEqProofs only [go_sem, ↓reduceIte, Nat.reduceEqDiff, Nat.reduceAdd, Nat.reduceLeDiff, Nat.reduceMul, Nat.reduceSub, Int.reduceLE, Int.reduceLT, Int.reduceEq, Int.reduceToNat, Int.reducePow, Int.reduceNeg]
        repeat' (first
          | (refine gateK_split (fun hb => ?_) (fun hb => ?_) <;> simp -implicitDefEqProofs only [go_sem, ↓reduceIte, Nat.reduceEqDiff, Nat.reduceAdd, Nat.reduceLeDiff, Nat.reduceMul, Nat.reduceSub, Int.reduceLE, Int.reduceLT, Int.reduceEq, Int.reduceToNat, Int.reducePow, Int.reduceNeg, hb])
          | (refine dGateK_split (fun hb => ?_) (fun hb => ?_) <;> simp -implicitDefEqProofs only [go_sem, ↓reduceIte, Nat.reduceEqDiff, Nat.reduceAdd, Nat.reduceLeDiff, Nat.reduceMul, Nat.reduceSub, Int.reduceLE, Int.reduceLT, Int.reduceEq, Int.reduceToNat, Int.reducePow, Int.reduceNeg, hb])
          | (refine callK_pure (awake2_pure) rfl rfl ?_; simp -implicitDefEqProofs only [go_sem, ↓reduceIte, Nat.reduceEqDiff, Nat.reduceAdd, Nat.reduceLeDiff, Nat.reduceMul, Nat.reduceSub, Int.reduceLE, Int.reduceLT, Int.reduceEq, Int.reduceToNat, Int.reducePow, Int.reduceNeg])
          | (refine dCallK_pure (awake2_pure) rfl rfl ?_; simp -implicitDefEqProofs only [go_sem, ↓reduceIte, Nat.reduceEqDiff, Nat.reduceAdd, Nat.reduceLeDiff, Nat.reduceMul, Nat.reduceSub, Int.reduceLE, Int.reduceLT, Int.reduceEq, Int.reduceToNat, Int.reducePow, Int.reduceNeg])
          | (rw [if_pos (by (try simp only [List.length_append, List.length_cons, List.length_nil, List.length_map]); omega)]; simp -implicitDefEqProofs only [go_sem, ↓reduceIte, Nat.reduceEqDiff, Nat.reduceAdd, Nat.reduceLeDiff, Nat.reduceMul, Nat.reduceSub, Int.reduceLE, Int.reduceLT, Int.reduceEq, Int.reduceToNat, Int.reducePow, Int.reduceNeg]))
        refine hK _ ?_; clear hK
        refine bwp_ret ?_
        simp only [go_sem]
        refine aend_ret _ rfl rfl ⟨?_, rfl⟩
        simp [fget]
    · have h5' : (500 : Int) < l.length := by omega
      refine bwp_seq fun K hK => bwp_region rfl ?_
      simp -implicitDefEqProofs only [go_sem, ↓reduceIte, Nat.reduceEqDiff, Nat.reduceAdd, Nat.reduceLeDiff, Nat.reduceMul, Nat.reduceSub, Int.reduceLE, Int.reduceLT, Int.reduceEq, Int.reduceToNat, Int.reducePow, Int.reduceNeg, h0, hlen, h5']
      refine hK _ ?_; clear hK
      refine bwp_cond true (by simp [ev, fget]) (fun _ => ?_) (fun h => nomatch h)
      refine bwp_seq fun K hK => bwp_region rfl ?_
      simp -implicitDefEqProofs only [go_sem, ↓reduceIte, Nat.reduceEqDiff, Nat.reduceAdd, Nat.reduceLeDiff, Nat.reduceMul, Nat.reduceSub, Int.reduceLE, Int.reduceLT, Int.reduceEq, Int.reduceToNat, Int.reducePow, Int.reduceNeg]
      repeat' (first
        | (refine gateK_split (fun hb => ?_) (fun hb => ?_) <;> simp -implicitDefEqProofs only [go_sem, ↓reduceIte, Nat.reduceEqDiff, Nat.reduceAdd, Nat.reduceLeDiff, Nat.reduceMul, Nat.reduceSub, Int.reduceLE, Int.reduceLT, Int.reduceEq, Int.reduceToNat, Int.reducePow, Int.reduceNeg, hb])
        | (refine dGateK_split (fun hb => ?_) (fun hb => ?_) <;> simp -implicitDefEqProofs only [go_sem, ↓reduceIte, Nat.reduceEqDiff, Nat.reduceAdd, Nat.reduceLeDiff, Nat.reduceMul, Nat.reduceSub, Int.reduceLE, Int.reduceLT, Int.reduceEq, Int.reduceToNat, Int.reducePow, Int.reduceNeg, hb])
        | (refine callK_pure (awake2_pure) rfl rfl ?_; simp -implicitDefEqProofs only [go_sem, ↓reduceIte, Nat.reduceEqDiff, Nat.reduceAdd, Nat.reduceLeDiff, Nat.reduceMul, Nat.reduceSub, Int.reduceLE, Int.reduceLT, Int.reduceEq, Int.reduceToNat, Int.reducePow, Int.reduceNeg])
        | (refine dCallK_pure (awake2_pure) rfl rfl ?_; simp -implicitDefEqProofs only [go_sem, ↓reduceIte, Nat.reduceEqDiff, Nat.reduceAdd, Nat.reduceLeDiff, Nat.reduceMul, Nat.reduceSub, Int.reduceLE, Int.reduceLT, Int.reduceEq, Int.reduceToNat, Int.reducePow, Int.reduceNeg])
        | (rw [if_pos (by (try simp only [List.length_append, List.length_cons, List.length_nil, List.length_map]); omega)]; simp -implicitDefEqProofs only [go_sem, ↓reduceIte, Nat.reduceEqDiff, Nat.reduceAdd, Nat.reduceLeDiff, Nat.reduceMul, Nat.reduceSub, Int.reduceLE, Int.reduceLT, Int.reduceEq, Int.reduceToNat, Int.reducePow, Int.reduceNeg]))
      refine hK _ ?_; clear hK
      refine bwp_ret ?_
      simp only [go_sem]
      refine aend_ret _ rfl rfl ⟨?_, rfl⟩
      simp [fget]
  · refine bwp_seq fun K hK => bwp_region rfl ?_
    simp -implicitDefEqProofs only [go_sem, ↓reduceIte, Nat.reduceEqDiff, Nat.reduceAdd, Nat.reduceLeDiff, Nat.reduceMul, Nat.reduceSub, Int.reduceLE, Int.reduceLT, Int.reduceEq, Int.reduceToNat, Int.reducePow, Int.reduceNeg, h0]
    refine hK _ ?_; clear hK
    refine bwp_cond true (by simp [ev, fget]) (fun _ => ?_) (fun h => nomatch h)
    refine bwp_seq fun K hK => bwp_region rfl ?_
    simp -implicitDefEqProofs only [go_sem, ↓reduceIte, Nat.reduceEqDiff, Nat.reduceAdd, Nat.reduceLeDiff, Nat.reduceMul, Nat.reduceSub, Int.reduceLE, Int.reduceLT, Int.reduceEq, Int.reduceToNat, Int.reducePow, Int.reduceNeg]
    repeat' (first
      | (refine gateK_split (fun hb => ?_) (fun hb => ?_) <;> simp -implicitDefEqProofs only [go_sem, ↓reduceIte, Nat.reduceEqDiff, Nat.reduceAdd, Nat.reduceLeDiff, Nat.reduceMul, Nat.reduceSub, Int.reduceLE, Int.reduceLT, Int.reduceEq, Int.reduceToNat, Int.reducePow, Int.reduceNeg, hb])
      | (refine dGateK_split (fun hb => ?_) (fun hb => ?_) <;> simp -implicitDefEqProofs only [go_sem, ↓reduceIte, Nat.reduceEqDiff, Nat.reduceAdd, Nat.reduceLeDiff, Nat.reduceMul, Nat.reduceSub, Int.reduceLE, Int.reduceLT, Int.reduceEq, Int.reduceToNat, Int.reducePow, Int.reduceNeg, hb])
      | (refine callK_pure (awake2_pure) rfl rfl ?_; simp -implicitDefEqProofs only [go_sem, ↓reduceIte, Nat.reduceEqDiff, Nat.reduceAdd, Nat.reduceLeDiff, Nat.reduceMul, Nat.reduceSub, Int.reduceLE, Int.reduceLT, Int.reduceEq, Int.reduceToNat, Int.reducePow, Int.reduceNeg])
      | (refine dCallK_pure (awake2_pure) rfl rfl ?_; simp -implicitDefEqProofs only [go_sem, ↓reduceIte, Nat.reduceEqDiff, Nat.reduceAdd, Nat.reduceLeDiff, Nat.reduceMul, Nat.reduceSub, Int.reduceLE, Int.reduceLT, Int.reduceEq, Int.reduceToNat, Int.reducePow, Int.reduceNeg])
      | (rw [if_pos (by (try simp only [List.length_append, List.length_cons, List.length_nil, List.length_map]); omega)]; simp -implicitDefEqProofs only [go_sem, ↓reduceIte, Nat.reduceEqDiff, Nat.reduceAdd, Nat.reduceLeDiff, Nat.reduceMul, Nat.reduceSub, Int.reduceLE, Int.reduceLT, Int.reduceEq, Int.reduceToNat, Int.reducePow, Int.reduceNeg]))
    refine hK _ ?_; clear hK
    refine bwp_ret ?_
    simp only [go_sem]
    refine aend_ret _ rfl rfl ⟨?_, rfl⟩
    simp [fget]

end Go.Proofs.YtpfbljkfbjjlkaaDoor
