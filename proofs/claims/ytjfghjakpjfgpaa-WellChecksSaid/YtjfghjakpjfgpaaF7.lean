/- Whether a test begins a location twice, jumps too far, is small enough: without a heap. -/
import Derived.Test.YtjfghjakpjfgpaaF6
namespace Go.Proofs.Ytjfghjakpjfgpaa
open Go Go.Jq
set_option maxRecDepth 100000
set_option linter.unusedSimpArgs false

def initBit (x : Init) : Nat := (x.loc - 97).toNat
def initMask (l : List Init) : Nat := l.foldl (fun s x => addBit s (initBit x)) 0
def twiceB (l : List Init) : Bool := !decide (l.map (·.loc)).Nodup

theorem initMask_test (l : List Init) (i : Nat) : (initMask l).testBit i = l.any fun x => decide (initBit x = i) := by
  have : ∀ (l : List Init) (s : Nat), (l.foldl (fun s x => addBit s (initBit x)) s).testBit i = (s.testBit i || l.any fun x => decide (initBit x = i)) := by
    intro l
    induction l with
    | nil => intro s; simp
    | cons a l ih => intro s; rw [List.foldl_cons, ih, addBit_test, List.any_cons, Bool.or_assoc]
  unfold initMask
  rw [this, Nat.zero_testBit, Bool.false_or]

theorem initMask_lt {l : List Init} (h : ∀ x ∈ l, 97 ≤ x.loc ∧ x.loc ≤ 122) : initMask l < 67108864 := by
  have : ∀ (l : List Init) (s : Nat), (∀ x ∈ l, 97 ≤ x.loc ∧ x.loc ≤ 122) → s < 67108864 → l.foldl (fun s x => addBit s (initBit x)) s < 67108864 := by
    intro l
    induction l with
    | nil => intro s _ hs; exact hs
    | cons a l ih =>
      intro s hl hs
      rw [List.foldl_cons]
      have := hl a List.mem_cons_self
      exact ih _ (fun x hx => hl x (List.mem_cons_of_mem _ hx)) (addBit_lt hs (by unfold initBit; omega))
  exact this l 0 h (by omega)

theorem nodup_next {l : List Init} (h : ∀ x ∈ l, 97 ≤ x.loc ∧ x.loc ≤ 122) {i : Nat} (hlt : i < l.length) :
    (initMask (l.take i)).testBit (initBit l[i]) = true ↔ ∃ x ∈ l.take i, x.loc = l[i].loc := by
  rw [initMask_test, List.any_eq_true]
  constructor
  · rintro ⟨x, hx, he⟩
    have h1 := h x (List.mem_of_mem_take hx)
    have h2 := h l[i] (List.getElem_mem hlt)
    refine ⟨x, hx, ?_⟩
    have he' : initBit x = initBit l[i] := by simpa using he
    unfold initBit at he'
    omega
  · rintro ⟨x, hx, he⟩
    exact ⟨x, hx, by simp [initBit, he]⟩

theorem take_next (l : List Init) (i : Nat) (hlt : i < l.length) : (l.take (i + 1)).map (·.loc) = (l.take i).map (·.loc) ++ [l[i].loc] := by
  rw [List.take_add_one, List.getElem?_eq_getElem hlt, List.map_append]; rfl

def twS (X : DV) (n s i : Nat) : St := ⟨[(8, .d (.int .i64 i)), (6, .d X), (7, .d (.int .i64 n)), (3, .d (.int .u64 s)), (2, .d (.bool false))], [], 0⟩

theorem twice_pure {l : List Init} {X : DV} (hX : IsSl Init.cells l X) (hl : ∀ x ∈ l, 97 ≤ x.loc ∧ x.loc ≤ 122) : Pure Try.prog 33 [.d X] (.d (.bool (twiceB l))) := by
  have hlen := hX.len
  have hbig := hX.1
  refine acalls_of Try.func33 ac33_ok Try.ntmps33 Try.results33 rfl ?_
  unfold ac33
  refine bwp_seq fun K hK => bwp_region rfl ?_
  simp -implicitDefEqProofs only [go_sem, ↓reduceIte, Nat.reduceEqDiff, Nat.reduceAdd, Nat.reduceLeDiff, Nat.reduceMul, Nat.reduceSub, Int.reduceLE, Int.reduceLT, Int.reduceEq, Int.reduceToNat, Int.reducePow, Int.reduceNeg]
  refine hK _ ?_; clear hK
  refine bwp_seq fun K hK => bwp_region rfl ?_
  simp -implicitDefEqProofs only [go_sem, ↓reduceIte, Nat.reduceEqDiff, Nat.reduceAdd, Nat.reduceLeDiff, Nat.reduceMul, Nat.reduceSub, Int.reduceLE, Int.reduceLT, Int.reduceEq, Int.reduceToNat, Int.reducePow, Int.reduceNeg]
  refine hK _ ?_; clear hK
  refine bwp_seq fun K1 hK1 => ?_
  refine bwp_seq fun K2 hK2 => ?_
  refine bwp_region rfl ?_
  simp -implicitDefEqProofs only [go_sem, ↓reduceIte, Nat.reduceEqDiff, Nat.reduceAdd, Nat.reduceLeDiff, Nat.reduceMul, Nat.reduceSub, Int.reduceLE, Int.reduceLT, Int.reduceEq, Int.reduceToNat, Int.reducePow, Int.reduceNeg, hlen]
  refine hK2 _ ?_; clear hK2
  refine bwp_block ?_
  refine bwp_leads (S' := twS X l.length 0 0) (Leads.ent [] ⟨by simp [entT, fget, AV.ren, renL, pget, twS], by simp [entM, pinv, mget, mset, renL, AV.ren, pget, renL_append, -List.map_map, twS], rfl, rfl⟩) ?_
  refine bwp_countI (fun i => twS X l.length (initMask (l.take i)) i) (fun i => ((l.take i).map (·.loc)).Nodup) l.length (by simp) ?_
  intro i hi hp
  have hsl : initMask (l.take i) < 67108864 := initMask_lt fun x hx => hl x (List.mem_of_mem_take hx)
  unfold ac33L0
  by_cases hlt : i < l.length
  · have hlt' : (i : Int) < l.length := by omega
    obtain ⟨cs2, rest, hDe, hdrop, hcs⟩ := hX.at init_len (by omega) i hlt
    have hnd := nodup_next hl hlt
    have hnx : initMask (l.take (i + 1)) = initMask (l.take i) ||| 2 ^ initBit l[i] := foldl_next (fun s (x : Init) => addBit s (initBit x)) 0 l i hlt
    have htn := take_next l i hlt
    have hr := hl l[i] (List.getElem_mem hlt)
    have hex : ∀ x ∈ l.take i, x.loc = l[i].loc → ¬ (l.map (·.loc)).Nodup := by
      intro x hx he hnod
      have h1 : ((l.take (i + 1)).map (·.loc)).Nodup := hnod.sublist ((List.take_sublist _ _).map _)
      rw [htn, List.nodup_append] at h1
      exact h1.2.2 x.loc (List.mem_map.2 ⟨x, hx, rfl⟩) l[i].loc (by simp) he
    have hw : IntKind.i64.wrap ((i : Int) + 1) = ((i + 1 : Nat) : Int) := by rw [wrap_i64 (by omega) (by omega)]; rfl
    generalize hse : initMask (l.take i) = s at *
    have hkb : initBit l[i] < 26 := by unfold initBit; omega
    have hwk : IntKind.i64.wrap (l[i].loc - 97) = ((initBit l[i] : Nat) : Int) := by
      rw [wrap_i64 (by omega) (by omega)]; unfold initBit; omega
    have hl2 : ∀ (n : Nat), (2 ≤ (n + 1 + 1)) = True := fun n => by simp
    generalize hxe : l[i] = x at *
    generalize hke : initBit x = k at *
    have hk64 : k ≤ 64 := by omega
    have hk0 : ¬ ((k : Nat) : Int) < 0 := by omega
    have hdv : s / 2 ^ k < 18446744073709551616 := Nat.lt_of_le_of_lt (Nat.div_le_self _ _) (by omega)
    have hbits : IntKind.u64.bits = 64 := rfl
    have hpk : (2 : Nat) ^ k < 18446744073709551616 := by
      have : (2 : Nat) ^ k < 2 ^ 26 := Nat.pow_lt_pow_right (by omega) hkb
      omega
    have hsh : IntKind.u64.wrap (1 * 2 ^ k) = ((2 ^ k : Nat) : Int) := by
      have e : (1 * 2 ^ k : Int) = ((2 ^ k : Nat) : Int) := by simp
      rw [e, wrap_u64 (Int.natCast_nonneg _) (by have := Int.ofNat_lt.2 hpk; exact this)]
    have hor := or_u64 (a := s) (b := 2 ^ k) (by omega) hpk
    have hbs := bit_seen s k
    unfold twS
    refine bwp_seq fun K hK => bwp_region rfl ?_
    simp -implicitDefEqProofs only [go_sem, ↓reduceIte, Nat.reduceEqDiff, Nat.reduceAdd, Nat.reduceLeDiff, Nat.reduceMul, Nat.reduceSub, Int.reduceLE, Int.reduceLT, Int.reduceEq, Int.reduceToNat, Int.reducePow, Int.reduceNeg, hlt']
    refine hK _ ?_; clear hK
    refine bwp_seq fun K2 hK2 => ?_
    refine bwp_cond true (by simp [ev, fget]) (fun _ => ?_) (fun h => nomatch h)
    refine bwp_skip ?_
    refine hK2 _ ?_; clear hK2
    refine bwp_seq fun K2 hK2 => ?_
    refine bwp_block ?_
    refine bwp_seq fun K hK => bwp_region rfl ?_
    simp -implicitDefEqProofs only [go_sem, ↓reduceIte, Nat.reduceEqDiff, Nat.reduceAdd, Nat.reduceLeDiff, Nat.reduceMul, Nat.reduceSub, Int.reduceLE, Int.reduceLT, Int.reduceEq, Int.reduceToNat, Int.reducePow, Int.reduceNeg, hDe, hlt', Int.natCast_nonneg, Int.toNat_natCast, hcs, hdrop, Init.cells, hl2]
    refine hK _ ?_; clear hK
    refine bwp_seq fun K3 hK3 => ?_
    refine bwp_seq fun K hK => bwp_region rfl ?_
    simp -implicitDefEqProofs only [go_sem, ↓reduceIte, Nat.reduceEqDiff, Nat.reduceAdd, Nat.reduceLeDiff, Nat.reduceMul, Nat.reduceSub, Int.reduceLE, Int.reduceLT, Int.reduceEq, Int.reduceToNat, Int.reducePow, Int.reduceNeg, hwk, hk0, Int.toNat_natCast, hbits, hk64, fdiv_pow, and1_u64 _ hdv]
    refine hK _ ?_; clear hK
    generalize s / 2 ^ k % 2 = q at hbs
    by_cases hb : s.testBit k = true
    · refine bwp_cond true (by simp [ev, fget, hbs.2 hb]) (fun _ => ?_) (fun h => nomatch h)
      obtain ⟨y, hy, hye⟩ := hnd.1 hb
      refine bwp_seq fun K hK => bwp_region rfl ?_
      simp -implicitDefEqProofs only [go_sem, ↓reduceIte, Nat.reduceEqDiff, Nat.reduceAdd, Nat.reduceLeDiff, Nat.reduceMul, Nat.reduceSub, Int.reduceLE, Int.reduceLT, Int.reduceEq, Int.reduceToNat, Int.reducePow, Int.reduceNeg]
      refine hK _ ?_; clear hK
      refine bwp_ret ?_
      simp only [go_sem]
      refine aend_ret _ rfl rfl ⟨?_, rfl⟩
      have : ¬ (l.map (·.loc)).Nodup := hex y hy hye
      simp [fget, twiceB, this]
    · have hb' : ¬ ((q : Nat) : Int) = 1 := fun h => hb (hbs.1 h)
      refine bwp_cond false (by simp [ev, fget, hb']) (fun h => nomatch h) (fun _ => ?_)
      refine bwp_skip ?_
      simp -implicitDefEqProofs only [go_sem, ↓reduceIte, Nat.reduceEqDiff, Nat.reduceAdd, Nat.reduceLeDiff, Nat.reduceMul, Nat.reduceSub, Int.reduceLE, Int.reduceLT, Int.reduceEq, Int.reduceToNat, Int.reducePow, Int.reduceNeg]
      refine hK3 _ ?_; clear hK3
      refine bwp_region rfl ?_
      simp -implicitDefEqProofs only [go_sem, ↓reduceIte, Nat.reduceEqDiff, Nat.reduceAdd, Nat.reduceLeDiff, Nat.reduceMul, Nat.reduceSub, Int.reduceLE, Int.reduceLT, Int.reduceEq, Int.reduceToNat, Int.reducePow, Int.reduceNeg, hwk, hk0, Int.toNat_natCast, hbits, hk64, hsh, hor]
      refine hK2 _ ?_; clear hK2
      refine bwp_region rfl ?_
      simp -implicitDefEqProofs only [go_sem, ↓reduceIte, Nat.reduceEqDiff, Nat.reduceAdd, Nat.reduceLeDiff, Nat.reduceMul, Nat.reduceSub, Int.reduceLE, Int.reduceLT, Int.reduceEq, Int.reduceToNat, Int.reducePow, Int.reduceNeg, hw]
      refine ⟨hlt, ?_, Leads.ent [] ⟨by simp [twS, entT, fget, AV.ren, pget, hDe, hnx], by simp [twS, entM], rfl, rfl⟩⟩
      rw [htn, List.nodup_append]
      refine ⟨hp, by simp, fun a ha b hb2 => ?_⟩
      simp only [List.mem_singleton] at hb2
      subst hb2
      obtain ⟨y, hy, rfl⟩ := List.mem_map.1 ha
      intro he
      exact hb (hnd.2 ⟨y, hy, he⟩)
  · have hlt' : ¬ (i : Int) < l.length := by omega
    have hin : i = l.length := by omega
    subst hin
    rw [List.take_of_length_le (Nat.le_refl _)] at hp
    unfold twS
    refine bwp_seq fun K hK => bwp_region rfl ?_
    simp -implicitDefEqProofs only [go_sem, ↓reduceIte, Nat.reduceEqDiff, Nat.reduceAdd, Nat.reduceLeDiff, Nat.reduceMul, Nat.reduceSub, Int.reduceLE, Int.reduceLT, Int.reduceEq, Int.reduceToNat, Int.reducePow, Int.reduceNeg, hlt']
    refine hK _ ?_; clear hK
    refine bwp_seq fun K2 hK2 => ?_
    refine bwp_cond false (by simp [ev, fget]) (fun h => nomatch h) (fun _ => ?_)
    refine bwp_exit ?_
    simp -implicitDefEqProofs only [go_sem, ↓reduceIte, Nat.reduceEqDiff, Nat.reduceAdd, Nat.reduceLeDiff, Nat.reduceMul, Nat.reduceSub, Int.reduceLE, Int.reduceLT, Int.reduceEq, Int.reduceToNat, Int.reducePow, Int.reduceNeg]
    refine hK1 _ ?_; clear hK1
    refine bwp_seq fun K hK => bwp_region rfl ?_
    simp -implicitDefEqProofs only [go_sem, ↓reduceIte, Nat.reduceEqDiff, Nat.reduceAdd, Nat.reduceLeDiff, Nat.reduceMul, Nat.reduceSub, Int.reduceLE, Int.reduceLT, Int.reduceEq, Int.reduceToNat, Int.reducePow, Int.reduceNeg]
    refine hK _ ?_; clear hK
    refine bwp_ret ?_
    simp only [go_sem]
    refine aend_ret _ rfl rfl ⟨?_, rfl⟩
    simp [fget, twiceB, hp]

def jumpBadAt (l : List Ins) (i : Nat) : Bool := match l[i]? with
  | some x => decide (x.kind = 6) && (decide (x.n < 1) || decide ((l.length : Int) - i - 1 < x.n))
  | none => false

def jumpsB (l : List Ins) : Bool := !(List.range l.length).any (jumpBadAt l)

def jpS (X : DV) (n i : Nat) : St := ⟨[(7, .d (.int .i64 i)), (5, .d X), (6, .d (.int .i64 n)), (0, .d X), (2, .d (.bool false))], [], 0⟩

theorem jumps_pure {l : List Ins} {X : DV} (hX : IsSl Ins.cells l X) : Pure Try.prog 36 [.d X] (.d (.bool (jumpsB l))) := by
  have hlen := hX.len
  have hbig := hX.1
  refine acalls_of Try.func36 ac36_ok Try.ntmps36 Try.results36 rfl ?_
  unfold ac36
  refine bwp_seq fun K hK => bwp_region rfl ?_
  simp -implicitDefEqProofs only [go_sem, ↓reduceIte, Nat.reduceEqDiff, Nat.reduceAdd, Nat.reduceLeDiff, Nat.reduceMul, Nat.reduceSub, Int.reduceLE, Int.reduceLT, Int.reduceEq, Int.reduceToNat, Int.reducePow, Int.reduceNeg]
  refine hK _ ?_; clear hK
  refine bwp_seq fun K1 hK1 => ?_
  refine bwp_seq fun K2 hK2 => ?_
  refine bwp_region rfl ?_
  simp -implicitDefEqProofs only [go_sem, ↓reduceIte, Nat.reduceEqDiff, Nat.reduceAdd, Nat.reduceLeDiff, Nat.reduceMul, Nat.reduceSub, Int.reduceLE, Int.reduceLT, Int.reduceEq, Int.reduceToNat, Int.reducePow, Int.reduceNeg, hlen]
  refine hK2 _ ?_; clear hK2
  refine bwp_block ?_
  refine bwp_leads (S' := jpS X l.length 0) (Leads.ent [] ⟨by simp [entT, fget, AV.ren, renL, pget, jpS], by simp [entM, pinv, mget, mset, renL, AV.ren, pget, renL_append, -List.map_map, jpS], rfl, rfl⟩) ?_
  refine bwp_countI (fun i => jpS X l.length i) (fun i => ∀ j, j < i → jumpBadAt l j = false) l.length (fun j h => by omega) ?_
  intro i hi hp
  unfold ac36L0
  by_cases hlt : i < l.length
  · have hlt' : (i : Int) < l.length := by omega
    obtain ⟨cs2, rest, hDe, hdrop, hcs⟩ := hX.at ins_len (by omega) i hlt
    have hw : IntKind.i64.wrap ((i : Int) + 1) = ((i + 1 : Nat) : Int) := by rw [wrap_i64 (by omega) (by omega)]; rfl
    have hw1 : IntKind.i64.wrap ((l.length : Int) - i) = (l.length : Int) - i := wrap_i64 (by omega) (by omega)
    have hw2 : IntKind.i64.wrap ((l.length : Int) - i - 1) = (l.length : Int) - i - 1 := wrap_i64 (by omega) (by omega)
    have hl9 : ∀ (n : Nat), (9 ≤ (n + 1 + 1 + 1 + 1 + 1 + 1 + 1 + 1 + 1)) = True := fun n => by simp
    have hat : jumpBadAt l i = (decide (l[i].kind = 6) && (decide (l[i].n < 1) || decide ((l.length : Int) - i - 1 < l[i].n))) := by
      unfold jumpBadAt
      rw [List.getElem?_eq_getElem hlt]
    generalize l[i] = x at hat hdrop
    unfold jpS
    refine bwp_seq fun K hK => bwp_region rfl ?_
    simp -implicitDefEqProofs only [go_sem, ↓reduceIte, Nat.reduceEqDiff, Nat.reduceAdd, Nat.reduceLeDiff, Nat.reduceMul, Nat.reduceSub, Int.reduceLE, Int.reduceLT, Int.reduceEq, Int.reduceToNat, Int.reducePow, Int.reduceNeg, hlt']
    refine hK _ ?_; clear hK
    refine bwp_seq fun K2 hK2 => ?_
    refine bwp_cond true (by simp [ev, fget]) (fun _ => ?_) (fun h => nomatch h)
    refine bwp_skip ?_
    refine hK2 _ ?_; clear hK2
    refine bwp_seq fun K2 hK2 => ?_
    refine bwp_block ?_
    refine bwp_seq fun K hK => bwp_region rfl ?_
    simp -implicitDefEqProofs only [go_sem, ↓reduceIte, Nat.reduceEqDiff, Nat.reduceAdd, Nat.reduceLeDiff, Nat.reduceMul, Nat.reduceSub, Int.reduceLE, Int.reduceLT, Int.reduceEq, Int.reduceToNat, Int.reducePow, Int.reduceNeg, hDe, hlt', Int.natCast_nonneg, Int.toNat_natCast, hcs, hdrop, Ins.cells, hl9]
    refine hK _ ?_; clear hK
    have bad : ∀ (t : Fr) (m : Mem) (n : Nat) (R : St → Prop), fget t 29 = .d (.bool true) → jumpBadAt l i = true → BWP Try.prog (mbound []) 31 (.cond (.t 29) (.seq (.region false [⟨(some 2), .mv (.c (.d (.bool false))), none⟩] []) .ret) .skip) ⟨t, m, n⟩ (Exit.inBlockA 1 (Exit.thenA K2 (Exit.thenA R (Exit.inBlockA 0 (Exit.thenA K1 (AEnd Try.prog #[.tmp 2] (mbound []) fun r m' => r = .d (.bool (jumpsB l)) ∧ m' = [])))))) := by
      intro t m n R h29 hb
      refine bwp_cond true (by simp [ev, fget, h29]) (fun _ => ?_) (fun h => nomatch h)
      refine bwp_seq fun K hK => bwp_region (by simp [mbound]) ?_
      simp -implicitDefEqProofs only [go_sem, ↓reduceIte, Nat.reduceEqDiff, Nat.reduceAdd, Nat.reduceLeDiff, Nat.reduceMul, Nat.reduceSub, Int.reduceLE, Int.reduceLT, Int.reduceEq, Int.reduceToNat, Int.reducePow, Int.reduceNeg]
      refine hK _ ?_; clear hK
      refine bwp_ret ?_
      simp only [go_sem]
      refine aend_ret _ rfl rfl ⟨?_, rfl⟩
      have : (List.range l.length).any (jumpBadAt l) = true := List.any_eq_true.2 ⟨i, List.mem_range.2 hlt, hb⟩
      simp [fget, jumpsB, this]
    have good : ∀ (t : Fr) (m : Mem) (n : Nat) (Q' : Exit → St → Prop), fget t 29 = .d (.bool false) → fget t 7 = .d (.int .i64 i) → fget t 5 = .d X → fget t 6 = .d (.int .i64 l.length) → fget t 0 = .d X → fget t 2 = .d (.bool false) → jumpBadAt l i = false →
        (∀ S, K2 S → Q' .normal S) → BWP Try.prog (mbound []) 31 (.cond (.t 29) (.seq (.region false [⟨(some 2), .mv (.c (.d (.bool false))), none⟩] []) .ret) .skip) ⟨t, m, n⟩ Q' := by
      intro t m n Q' h29 h7 h5 h6 h0 h2 hb hQ'
      refine bwp_cond false (by simp [ev, fget, h29]) (fun h => nomatch h) (fun _ => ?_)
      refine bwp_skip ?_
      refine hQ' _ ?_
      refine hK2 _ ?_; clear hK2
      refine bwp_region (by simp [mbound]) ?_
      simp -implicitDefEqProofs only [go_sem, ↓reduceIte, Nat.reduceEqDiff, Nat.reduceAdd, Nat.reduceLeDiff, Nat.reduceMul, Nat.reduceSub, Int.reduceLE, Int.reduceLT, Int.reduceEq, Int.reduceToNat, Int.reducePow, Int.reduceNeg, h7, hw]
      refine ⟨hlt, fun j hj => ?_, Leads.ent [] ⟨by simp [jpS, entT, fget, AV.ren, pget, h5, h6, h0, h2], by simp [jpS, entM], rfl, rfl⟩⟩
      by_cases hji : j = i
      · subst hji; exact hb
      · exact hp j (by omega)
    by_cases g1 : x.kind = 6
    · by_cases g2 : x.n < 1
      · refine bwp_seq fun K hK => bwp_region rfl ?_
        simp -implicitDefEqProofs only [go_sem, ↓reduceIte, Nat.reduceEqDiff, Nat.reduceAdd, Nat.reduceLeDiff, Nat.reduceMul, Nat.reduceSub, Int.reduceLE, Int.reduceLT, Int.reduceEq, Int.reduceToNat, Int.reducePow, Int.reduceNeg, g1, g2]
        refine hK _ ?_; clear hK
        exact bad _ _ _ _ rfl (by rw [hat]; simp [g1, g2])
      · by_cases g3 : (l.length : Int) - i - 1 < x.n
        · refine bwp_seq fun K hK => bwp_region rfl ?_
          simp -implicitDefEqProofs only [go_sem, ↓reduceIte, Nat.reduceEqDiff, Nat.reduceAdd, Nat.reduceLeDiff, Nat.reduceMul, Nat.reduceSub, Int.reduceLE, Int.reduceLT, Int.reduceEq, Int.reduceToNat, Int.reducePow, Int.reduceNeg, g1, g2, hlen, hw1, hw2, g3]
          refine hK _ ?_; clear hK
          exact bad _ _ _ _ rfl (by rw [hat]; simp [g1, g3])
        · refine bwp_seq fun K hK => bwp_region rfl ?_
          simp -implicitDefEqProofs only [go_sem, ↓reduceIte, Nat.reduceEqDiff, Nat.reduceAdd, Nat.reduceLeDiff, Nat.reduceMul, Nat.reduceSub, Int.reduceLE, Int.reduceLT, Int.reduceEq, Int.reduceToNat, Int.reducePow, Int.reduceNeg, g1, g2, hlen, hw1, hw2, g3]
          refine hK _ ?_; clear hK
          exact good _ _ _ _ rfl rfl (by simp [fget, hDe]) rfl (by simp [fget, hDe]) rfl (by rw [hat]; simp [g2, g3]) (fun S h => h)
    · refine bwp_seq fun K hK => bwp_region rfl ?_
      simp -implicitDefEqProofs only [go_sem, ↓reduceIte, Nat.reduceEqDiff, Nat.reduceAdd, Nat.reduceLeDiff, Nat.reduceMul, Nat.reduceSub, Int.reduceLE, Int.reduceLT, Int.reduceEq, Int.reduceToNat, Int.reducePow, Int.reduceNeg, g1]
      refine hK _ ?_; clear hK
      exact good _ _ _ _ rfl rfl (by simp [fget, hDe]) rfl (by simp [fget, hDe]) rfl (by rw [hat]; simp [g1]) (fun S h => h)
  · have hlt' : ¬ (i : Int) < l.length := by omega
    unfold jpS
    refine bwp_seq fun K hK => bwp_region rfl ?_
    simp -implicitDefEqProofs only [go_sem, ↓reduceIte, Nat.reduceEqDiff, Nat.reduceAdd, Nat.reduceLeDiff, Nat.reduceMul, Nat.reduceSub, Int.reduceLE, Int.reduceLT, Int.reduceEq, Int.reduceToNat, Int.reducePow, Int.reduceNeg, hlt']
    refine hK _ ?_; clear hK
    refine bwp_seq fun K2 hK2 => ?_
    refine bwp_cond false (by simp [ev, fget]) (fun h => nomatch h) (fun _ => ?_)
    refine bwp_exit ?_
    simp -implicitDefEqProofs only [go_sem, ↓reduceIte, Nat.reduceEqDiff, Nat.reduceAdd, Nat.reduceLeDiff, Nat.reduceMul, Nat.reduceSub, Int.reduceLE, Int.reduceLT, Int.reduceEq, Int.reduceToNat, Int.reducePow, Int.reduceNeg]
    refine hK1 _ ?_; clear hK1
    refine bwp_seq fun K hK => bwp_region rfl ?_
    simp -implicitDefEqProofs only [go_sem, ↓reduceIte, Nat.reduceEqDiff, Nat.reduceAdd, Nat.reduceLeDiff, Nat.reduceMul, Nat.reduceSub, Int.reduceLE, Int.reduceLT, Int.reduceEq, Int.reduceToNat, Int.reducePow, Int.reduceNeg]
    refine hK _ ?_; clear hK
    refine bwp_ret ?_
    simp only [go_sem]
    refine aend_ret _ rfl rfl ⟨?_, rfl⟩
    have : (List.range l.length).any (jumpBadAt l) = false := by
      rw [List.any_eq_false]
      intro j hj
      rw [hp j (by have := List.mem_range.1 hj; omega)]
      decide
    simp [fget, jumpsB, this]

end Go.Proofs.Ytjfghjakpjfgpaa
