/- The document's next token, gone through: signs. -/
import Derived.Test.YtpfbljkfbjjlkaaDoorL9
namespace Go.Proofs.YtpfbljkfbjjlkaaDoor
open Go Go.Jq
set_option maxRecDepth 100000
set_option linter.unusedSimpArgs false

def tw : List (List UInt8) := [[60, 60], [62, 62], [61, 61], [33, 61]]
def twC : List AV := tw.map fun x => .d (.str x)

theorem tw_at {i : Nat} (hi : i < 4) : twC[i]? = some (.d (.str (tw.getD i []))) := by
  have key : ∀ q : Fin 4, twC[q.1]? = some (.d (.str (tw.getD q.1 []))) := by
    intro q
    match q with
    | ⟨0, _⟩ => rfl | ⟨1, _⟩ => rfl | ⟨2, _⟩ => rfl | ⟨3, _⟩ => rfl
  exact key ⟨i, hi⟩

def twS (s : List UInt8) (at' : Nat) (c : UInt8) (i : Nat) : St := ⟨[(13, .d (.int .i64 i)), (12, .sl 2 1 0 4), (9, .d (.int .i64 (at' + 1 : Nat))), (0, .d (.str s)), (7, .d (.int .i64 at')), (8, .d (.int .u8 c.toNat)), (4, .ptr 0 0), (6, .ptr 1 0)], nxM ++ [(2, twC)], 3⟩

set_option maxHeartbeats 4000000 in
theorem two_loop {s : List UInt8} (hs : s.length ≤ 140737488351232) {at' : Nat} (hat : at' < s.length) {c : UInt8} {Q : Exit → St → Prop}
    (hR : ∀ i, i < 4 → tw.getD i [] = (s.drop at').take 2 → ∀ (t : Fr) (n : Nat), fget t 5 = .d (.int .i64 (at' + 2 : Nat)) → fget t 4 = .ptr 0 0 → fget t 6 = .ptr 1 0 → Q .ret ⟨t, [(0, [.d (.int .i64 3), .d (.str ((s.drop at').take 2)), .d (.int .i64 at')]), (1, [.d (.int .i64 0), .d (.int .i64 0)]), (2, twC)], n⟩)
    (hE : ∀ i, (at' + 1 < s.length → ∀ j, j < 4 → tw.getD j [] ≠ (s.drop at').take 2) → Q (.exit 4) (twS s at' c i)) :
    BWP Tryd.prog (mbound []) 174 (.loop ac23L2) (twS s at' c 0) Q := by
  refine bwp_countI (fun i => twS s at' c i) (fun i => ∀ j, j < i → tw.getD j [] ≠ (s.drop at').take 2) 4 (fun j h => by omega) ?_
  intro i hi hp
  unfold ac23L2 twS nxM
  have hren : ∀ f, renL f twC = twC := fun _ => rfl
  by_cases hlt : i < 4
  · have hlt' : (i : Int) < 4 := by omega
    have hi0 : (0 : Int) ≤ (i : Int) := Int.natCast_nonneg _
    by_cases hto : at' + 1 < s.length
    · have hto' : ((at' + 1 : Nat) : Int) < s.length := by omega
      have hw1 : IntKind.i64.wrap (((at' + 1 : Nat) : Int) + 1) = ((at' + 2 : Nat) : Int) := by rw [wrap_i64 (by omega) (by omega)]; rfl
      have hw2 : IntKind.i64.wrap ((i : Int) + 1) = ((i + 1 : Nat) : Int) := by rw [wrap_i64 (by omega) (by omega)]; rfl
      have a0 : (0 : Int) ≤ (at' : Int) := Int.natCast_nonneg _
      have a2 : (0 : Int) ≤ ((at' + 2 : Nat) : Int) := Int.natCast_nonneg _
      have a3 : at' ≤ at' + 2 := by omega
      have a4 : at' + 2 ≤ s.length := by omega
      have a5 : at' ≤ at' + 2 ∧ at' + 2 ≤ s.length := ⟨a3, a4⟩
      have hsl : (s.take (at' + 2)).drop at' = (s.drop at').take 2 := by rw [slice_eq]; congr 1; omega
      have hcell := tw_at hlt
      refine bwp_seq fun K1 hK1 => ?_
      refine bwp_seq fun K hK => bwp_region rfl ?_
      simp -implicitDefEqProofs only [go_sem, ↓reduceIte, Nat.reduceEqDiff, Nat.reduceAdd, Nat.reduceLeDiff, Nat.reduceMul, Nat.reduceSub, Int.reduceLE, Int.reduceLT, Int.reduceEq, Int.reduceToNat, Int.reducePow, Int.reduceNeg, hlt', hto']
      refine hK _ ?_; clear hK
      refine bwp_cond true (by simp [ev, fget]) (fun _ => ?_) (fun h => nomatch h)
      refine bwp_skip ?_
      refine hK1 _ ?_; clear hK1
      refine bwp_seq fun K1 hK1 => ?_
      refine bwp_block ?_
      by_cases he : tw.getD i [] = (s.drop at').take 2
      · refine bwp_seq fun K hK => bwp_region_draw rfl rfl ?_
        simp -implicitDefEqProofs only [go_sem, ↓reduceIte, Nat.reduceEqDiff, Nat.reduceAdd, Nat.reduceLeDiff, Nat.reduceMul, Nat.reduceSub, Int.reduceLE, Int.reduceLT, Int.reduceEq, Int.reduceToNat, Int.reducePow, Int.reduceNeg, hw1, a0, a2, a3, a4, a5, Int.toNat_natCast, hsl, hi0, hlt', hlt, Nat.mul_one, Nat.zero_add, Nat.add_zero, List.getElem?_drop, hcell, Option.map_some, he]
        refine ⟨rfl, hK _ ?_⟩; clear hK
        refine bwp_cond true (by simp [ev, fget]) (fun _ => ?_) (fun h => nomatch h)
        refine bwp_seq fun K hK => bwp_region rfl ?_
        simp -implicitDefEqProofs only [go_sem, ↓reduceIte, Nat.reduceEqDiff, Nat.reduceAdd, Nat.reduceLeDiff, Nat.reduceMul, Nat.reduceSub, Int.reduceLE, Int.reduceLT, Int.reduceEq, Int.reduceToNat, Int.reducePow, Int.reduceNeg, hw1, hi0, hlt', hlt, Int.toNat_natCast, Nat.mul_one, Nat.zero_add, Nat.add_zero, List.getElem?_drop, hcell, Option.map_some, he]
        refine hK _ ?_; clear hK
        refine bwp_ret ?_
        simp -implicitDefEqProofs only [go_sem, ↓reduceIte, Nat.reduceEqDiff, Nat.reduceAdd, Nat.reduceLeDiff, Nat.reduceMul, Nat.reduceSub, Int.reduceLE, Int.reduceLT, Int.reduceEq, Int.reduceToNat, Int.reducePow, Int.reduceNeg]
        exact hR i hlt he _ _ rfl rfl rfl
      · refine bwp_seq fun K hK => bwp_region_draw rfl rfl ?_
        have he' : ¬ (s.drop at').take 2 = tw.getD i [] := fun h => he h.symm
        simp -implicitDefEqProofs only [go_sem, ↓reduceIte, Nat.reduceEqDiff, Nat.reduceAdd, Nat.reduceLeDiff, Nat.reduceMul, Nat.reduceSub, Int.reduceLE, Int.reduceLT, Int.reduceEq, Int.reduceToNat, Int.reducePow, Int.reduceNeg, hw1, a0, a2, a3, a4, a5, Int.toNat_natCast, hsl, hi0, hlt', hlt, Nat.mul_one, Nat.zero_add, Nat.add_zero, List.getElem?_drop, hcell, Option.map_some, he']
        refine ⟨rfl, hK _ ?_⟩; clear hK
        refine bwp_cond false (by simp [ev, fget]) (fun h => nomatch h) (fun _ => ?_)
        refine bwp_skip ?_
        refine hK1 _ ?_; clear hK1
        refine bwp_region rfl ?_
        simp -implicitDefEqProofs only [go_sem, ↓reduceIte, Nat.reduceEqDiff, Nat.reduceAdd, Nat.reduceLeDiff, Nat.reduceMul, Nat.reduceSub, Int.reduceLE, Int.reduceLT, Int.reduceEq, Int.reduceToNat, Int.reducePow, Int.reduceNeg, hw2]
        refine ⟨hlt, fun j hj => ?_, Leads.ent [(0, 0), (1, 1), (2, 2)] ⟨by simp [entT, fget, AV.ren, renL, pget], by simp [entM, pinv, mget, renL, AV.ren, hren], rfl, rfl⟩⟩
        by_cases hji : j = i
        · subst hji; exact he
        · exact hp j (by omega)
    · have hto' : ¬ ((at' + 1 : Nat) : Int) < s.length := by omega
      refine bwp_seq fun K1 hK1 => ?_
      refine bwp_seq fun K hK => bwp_region rfl ?_
      simp -implicitDefEqProofs only [go_sem, ↓reduceIte, Nat.reduceEqDiff, Nat.reduceAdd, Nat.reduceLeDiff, Nat.reduceMul, Nat.reduceSub, Int.reduceLE, Int.reduceLT, Int.reduceEq, Int.reduceToNat, Int.reducePow, Int.reduceNeg, hlt', hto']
      refine hK _ ?_; clear hK
      refine bwp_cond false (by simp [ev, fget]) (fun h => nomatch h) (fun _ => ?_)
      refine bwp_leads (S' := twS s at' c i) (Leads.ent [(0, 0), (1, 1), (2, 2)] ⟨by simp [entT, fget, AV.ren, renL, pget, twS, nxM, hren], by simp [entM, pinv, mget, mset, renL, AV.ren, pget, renL_append, -List.map_map, twS, nxM, hren], rfl, rfl⟩) ?_
      exact bwp_exit (hE i (fun h => absurd h hto))
  · have hlt' : ¬ (i : Int) < 4 := by omega
    have hin : i = 4 := by omega
    subst hin
    refine bwp_seq fun K1 hK1 => ?_
    refine bwp_seq fun K hK => bwp_region rfl ?_
    simp -implicitDefEqProofs only [go_sem, ↓reduceIte, Nat.reduceEqDiff, Nat.reduceAdd, Nat.reduceLeDiff, Nat.reduceMul, Nat.reduceSub, Int.reduceLE, Int.reduceLT, Int.reduceEq, Int.reduceToNat, Int.reducePow, Int.reduceNeg, hlt']
    refine hK _ ?_; clear hK
    refine bwp_cond false (by simp [ev, fget]) (fun h => nomatch h) (fun _ => ?_)
    refine bwp_leads (S' := twS s at' c 4) (Leads.ent [(0, 0), (1, 1), (2, 2)] ⟨by simp [entT, fget, AV.ren, renL, pget, twS, nxM, hren], by simp [entM, pinv, mget, mset, renL, AV.ren, pget, renL_append, -List.map_map, twS, nxM, hren], rfl, rfl⟩) ?_
    exact bwp_exit (hE 4 (fun _ => hp))

theorem ones_at {i : Nat} (hi : i < 12) : (ones.take (i + 1)).drop i = [ones.getD i 0] := by
  have key : ∀ q : Fin 12, (ones.take (q.1 + 1)).drop q.1 = [ones.getD q.1 0] := by decide
  exact key ⟨i, hi⟩

def onS (s : List UInt8) (at' : Nat) (c : UInt8) (i : Nat) : St := ⟨[(15, .d (.int .i64 i)), (14, .d (.str ones)), (9, .d (.int .i64 (at' + 1 : Nat))), (7, .d (.int .i64 at')), (8, .d (.int .u8 c.toNat)), (4, .ptr 0 0), (6, .ptr 1 0)], nxM, 2⟩

set_option maxHeartbeats 4000000 in
theorem one_loop (s : List UInt8) {at' : Nat} {c : UInt8} {Q : Exit → St → Prop}
    (hR : c ∈ ones → ∀ t : Fr, fget t 5 = .d (.int .i64 (at' + 1 : Nat)) → fget t 4 = .ptr 0 0 → fget t 6 = .ptr 1 0 → Q .ret ⟨t, [(0, [.d (.int .i64 3), .d (.str [c]), .d (.int .i64 at')]), (1, [.d (.int .i64 0), .d (.int .i64 0)])], 2⟩)
    (hE : ¬ c ∈ ones → Q (.exit 6) (onS s at' c 12)) :
    BWP Tryd.prog (mbound []) 174 (.loop ac23L3) (onS s at' c 0) Q := by
  refine bwp_countI (fun i => onS s at' c i) (fun i => ∀ j, j < i → ones.getD j 0 ≠ c) 12 (fun j h => by omega) ?_
  intro i hi hp
  unfold ac23L3 onS nxM
  have hlen : ones.length = 12 := rfl
  by_cases hlt : i < 12
  · have hlt' : (i : Int) < 12 := by omega
    have hi0 : (0 : Int) ≤ (i : Int) := Int.natCast_nonneg _
    have hi1 : (0 : Int) ≤ ((i + 1 : Nat) : Int) := Int.natCast_nonneg _
    have hw2 : IntKind.i64.wrap ((i : Int) + 1) = ((i + 1 : Nat) : Int) := by rw [wrap_i64 (by omega) (by omega)]; rfl
    have h4 : i ≤ i + 1 := by omega
    have h5 : i + 1 ≤ 12 := by omega
    have h6 : i ≤ i + 1 ∧ i + 1 ≤ 12 := ⟨h4, h5⟩
    have hpc := ones_at hlt
    generalize hd : ones.getD i 0 = d at *
    have hmem : d ∈ ones := by
      rw [← hd, List.getD_eq_getElem?_getD, List.getElem?_eq_getElem (by rw [hlen]; exact hlt), Option.getD_some]
      exact List.getElem_mem _
    refine bwp_seq fun K1 hK1 => ?_
    refine bwp_seq fun K hK => bwp_region rfl ?_
    simp -implicitDefEqProofs only [go_sem, ↓reduceIte, Nat.reduceEqDiff, Nat.reduceAdd, Nat.reduceLeDiff, Nat.reduceMul, Nat.reduceSub, Int.reduceLE, Int.reduceLT, Int.reduceEq, Int.reduceToNat, Int.reducePow, Int.reduceNeg, hlen, hlt']
    refine hK _ ?_; clear hK
    refine bwp_cond true (by simp [ev, fget]) (fun _ => ?_) (fun h => nomatch h)
    refine bwp_skip ?_
    refine hK1 _ ?_; clear hK1
    refine bwp_seq fun K1 hK1 => ?_
    refine bwp_block ?_
    by_cases he : (d.toNat : Int) = c.toNat
    · have hdc : d = c := UInt8.toNat_inj.1 (by exact_mod_cast he)
      subst hdc
      refine bwp_seq fun K hK => bwp_region rfl ?_
      simp -implicitDefEqProofs only [go_sem, ↓reduceIte, Nat.reduceEqDiff, Nat.reduceAdd, Nat.reduceLeDiff, Nat.reduceMul, Nat.reduceSub, Int.reduceLE, Int.reduceLT, Int.reduceEq, Int.reduceToNat, Int.reducePow, Int.reduceNeg, hlen, hlt', hi0, Int.toNat_natCast, hd]
      refine hK _ ?_; clear hK
      refine bwp_cond true (by simp [ev, fget]) (fun _ => ?_) (fun h => nomatch h)
      refine bwp_seq fun K hK => bwp_region rfl ?_
      simp -implicitDefEqProofs only [go_sem, ↓reduceIte, Nat.reduceEqDiff, Nat.reduceAdd, Nat.reduceLeDiff, Nat.reduceMul, Nat.reduceSub, Int.reduceLE, Int.reduceLT, Int.reduceEq, Int.reduceToNat, Int.reducePow, Int.reduceNeg, hw2, hi0, hi1, Int.toNat_natCast, hlen, h4, h5, h6, hpc]
      refine hK _ ?_; clear hK
      refine bwp_ret ?_
      simp -implicitDefEqProofs only [go_sem, ↓reduceIte, Nat.reduceEqDiff, Nat.reduceAdd, Nat.reduceLeDiff, Nat.reduceMul, Nat.reduceSub, Int.reduceLE, Int.reduceLT, Int.reduceEq, Int.reduceToNat, Int.reducePow, Int.reduceNeg]
      exact hR hmem _ rfl rfl rfl
    · refine bwp_seq fun K hK => bwp_region rfl ?_
      simp -implicitDefEqProofs only [go_sem, ↓reduceIte, Nat.reduceEqDiff, Nat.reduceAdd, Nat.reduceLeDiff, Nat.reduceMul, Nat.reduceSub, Int.reduceLE, Int.reduceLT, Int.reduceEq, Int.reduceToNat, Int.reducePow, Int.reduceNeg, hlen, hlt', hi0, Int.toNat_natCast, hd, he]
      refine hK _ ?_; clear hK
      refine bwp_cond false (by simp [ev, fget]) (fun h => nomatch h) (fun _ => ?_)
      refine bwp_skip ?_
      refine hK1 _ ?_; clear hK1
      refine bwp_region rfl ?_
      simp -implicitDefEqProofs only [go_sem, ↓reduceIte, Nat.reduceEqDiff, Nat.reduceAdd, Nat.reduceLeDiff, Nat.reduceMul, Nat.reduceSub, Int.reduceLE, Int.reduceLT, Int.reduceEq, Int.reduceToNat, Int.reducePow, Int.reduceNeg, hw2]
      refine ⟨hlt, fun j hj => ?_, Leads.ent [(0, 0), (1, 1)] ⟨by simp [entT, fget, AV.ren, renL, pget], by simp [entM, pinv, mget, renL, AV.ren], rfl, rfl⟩⟩
      by_cases hji : j = i
      · subst hji; rw [hd]; intro h; exact he (by rw [h])
      · exact hp j (by omega)
  · have hlt' : ¬ (i : Int) < 12 := by omega
    have hin : i = 12 := by omega
    subst hin
    refine bwp_seq fun K1 hK1 => ?_
    refine bwp_seq fun K hK => bwp_region rfl ?_
    simp -implicitDefEqProofs only [go_sem, ↓reduceIte, Nat.reduceEqDiff, Nat.reduceAdd, Nat.reduceLeDiff, Nat.reduceMul, Nat.reduceSub, Int.reduceLE, Int.reduceLT, Int.reduceEq, Int.reduceToNat, Int.reducePow, Int.reduceNeg, hlen, hlt']
    refine hK _ ?_; clear hK
    refine bwp_cond false (by simp [ev, fget]) (fun h => nomatch h) (fun _ => ?_)
    refine bwp_leads (S' := onS s at' c 12) (Leads.ent [(0, 0), (1, 1)] ⟨by simp [entT, fget, AV.ren, renL, pget, onS, nxM], by simp [entM, pinv, mget, mset, renL, AV.ren, pget, renL_append, -List.map_map, onS, nxM], rfl, rfl⟩) ?_
    refine bwp_exit (hE ?_)
    intro hm
    obtain ⟨j, hj, e⟩ := List.getElem_of_mem hm
    refine hp j (by rw [hlen] at hj; exact hj) ?_
    rw [List.getD_eq_getElem?_getD, List.getElem?_eq_getElem hj, Option.getD_some]
    exact e

/-! ### The next token -/

theorem sign_two {c : UInt8} {r : List UInt8} : signL (c :: r) = 2 ↔ ∃ i, i < 4 ∧ tw.getD i [] = (c :: r).take 2 ∧ 1 ≤ r.length := by
  constructor
  · intro h
    rw [signL] at h
    split at h
    · rename_i h1
      cases r with
      | nil => simp at h1
      | cons d r =>
        simp only [List.head?_cons, Option.some.injEq] at h1
        rcases h1 with ⟨rfl, rfl⟩ | ⟨rfl, rfl⟩ | ⟨rfl | rfl, rfl⟩
        · exact ⟨0, by omega, rfl, by simp⟩
        · exact ⟨1, by omega, rfl, by simp⟩
        · exact ⟨2, by omega, rfl, by simp⟩
        · exact ⟨3, by omega, rfl, by simp⟩
    · split at h <;> omega
  · rintro ⟨i, hi, h1, h2⟩
    cases r with
    | nil => simp at h2
    | cons d r =>
      simp only [List.take_succ_cons, List.take_zero] at h1
      have : (c = 60 ∧ d = 60) ∨ (c = 62 ∧ d = 62) ∨ ((c = 61 ∨ c = 33) ∧ d = 61) := by
        match i, hi with
        | 0, _ => simp [tw] at h1; exact .inl ⟨h1.1.symm, h1.2.symm⟩
        | 1, _ => simp [tw] at h1; exact .inr (.inl ⟨h1.1.symm, h1.2.symm⟩)
        | 2, _ => simp [tw] at h1; exact .inr (.inr ⟨.inl h1.1.symm, h1.2.symm⟩)
        | 3, _ => simp [tw] at h1; exact .inr (.inr ⟨.inr h1.1.symm, h1.2.symm⟩)
      rw [signL, if_pos (by simpa using this)]

set_option maxHeartbeats 16000000 in
theorem refNext_pure {s : List UInt8} (hs : s.length ≤ 140737488351232) {a : Nat} (ha : a ≤ s.length) : Pure Tryd.prog 23 [.d (.str s), .d (.int .i64 a)] (nxV s a) := by
  have hskl := skipA_le ha
  have k1 := skip_pure hs ha
  have hnw : nextW s a = tokAt (skipA s a) (s.drop (skipA s a)) := rfl
  generalize hp : skipA s a = p at *
  have h34 : ldk Tryd.prog 34 = some (some 3) := by kernel_rfl
  have h26 : ldk Tryd.prog 26 = some (some 2) := by kernel_rfl
  refine acalls_of Tryd.func23 ac23_ok Tryd.ntmps23 Tryd.results23 rfl ?_
  unfold ac23
  refine bwp_seq fun K hK => bwp_region rfl ?_
  simp -implicitDefEqProofs only [go_sem, ↓reduceIte, Nat.reduceEqDiff, Nat.reduceAdd, Nat.reduceLeDiff, Nat.reduceMul, Nat.reduceSub, Int.reduceLE, Int.reduceLT, Int.reduceEq, Int.reduceToNat, Int.reducePow, Int.reduceNeg]
  refine hK _ ?_; clear hK
  refine bwp_seq fun K hK => bwp_region rfl ?_
  simp -implicitDefEqProofs only [go_sem, ↓reduceIte, Nat.reduceEqDiff, Nat.reduceAdd, Nat.reduceLeDiff, Nat.reduceMul, Nat.reduceSub, Int.reduceLE, Int.reduceLT, Int.reduceEq, Int.reduceToNat, Int.reducePow, Int.reduceNeg]
  repeat' (first
    | (refine gateK_split (fun hb => ?_) (fun hb => ?_) <;> simp -implicitDefEqProofs only [go_sem, ↓reduceIte, Nat.reduceEqDiff, Nat.reduceAdd, Nat.reduceLeDiff, Nat.reduceMul, Nat.reduceSub, Int.reduceLE, Int.reduceLT, Int.reduceEq, Int.reduceToNat, Int.reducePow, Int.reduceNeg, hb])
    | (refine dGateK_split (fun hb => ?_) (fun hb => ?_) <;> simp -implicitDefEqProofs only [go_sem, ↓reduceIte, Nat.reduceEqDiff, Nat.reduceAdd, Nat.reduceLeDiff, Nat.reduceMul, Nat.reduceSub, Int.reduceLE, Int.reduceLT, Int.reduceEq, Int.reduceToNat, Int.reducePow, Int.reduceNeg, hb])
    | (refine callK_pure (k1) rfl rfl ?_; simp -implicitDefEqProofs only [go_sem, ↓reduceIte, Nat.reduceEqDiff, Nat.reduceAdd, Nat.reduceLeDiff, Nat.reduceMul, Nat.reduceSub, Int.reduceLE, Int.reduceLT, Int.reduceEq, Int.reduceToNat, Int.reducePow, Int.reduceNeg])
    | (refine dCallK_pure (k1) rfl rfl ?_; simp -implicitDefEqProofs only [go_sem, ↓reduceIte, Nat.reduceEqDiff, Nat.reduceAdd, Nat.reduceLeDiff, Nat.reduceMul, Nat.reduceSub, Int.reduceLE, Int.reduceLT, Int.reduceEq, Int.reduceToNat, Int.reducePow, Int.reduceNeg])
    | (rw [if_pos (by (try simp only [List.length_append, List.length_cons, List.length_nil, List.length_map]); omega)]; simp -implicitDefEqProofs only [go_sem, ↓reduceIte, Nat.reduceEqDiff, Nat.reduceAdd, Nat.reduceLeDiff, Nat.reduceMul, Nat.reduceSub, Int.reduceLE, Int.reduceLT, Int.reduceEq, Int.reduceToNat, Int.reducePow, Int.reduceNeg]))
  refine hK _ ?_; clear hK
  refine bwp_seq fun K1 hK1 => ?_
  by_cases he : p = s.length
  · have he' : (p : Int) = (s.length : Int) := by omega
    have hn : nextW s a = (⟨4, [], p⟩, p, 0) := by rw [hnw, he, List.drop_length]; rfl
    refine bwp_seq fun K hK => bwp_region rfl ?_
    simp -implicitDefEqProofs only [go_sem, ↓reduceIte, Nat.reduceEqDiff, Nat.reduceAdd, Nat.reduceLeDiff, Nat.reduceMul, Nat.reduceSub, Int.reduceLE, Int.reduceLT, Int.reduceEq, Int.reduceToNat, Int.reducePow, Int.reduceNeg, he']
    refine hK _ ?_; clear hK
    refine bwp_cond true (by simp [ev, fget]) (fun _ => ?_) (fun h => nomatch h)
    refine bwp_seq fun K hK => bwp_region rfl ?_
    simp -implicitDefEqProofs only [go_sem, ↓reduceIte, Nat.reduceEqDiff, Nat.reduceAdd, Nat.reduceLeDiff, Nat.reduceMul, Nat.reduceSub, Int.reduceLE, Int.reduceLT, Int.reduceEq, Int.reduceToNat, Int.reducePow, Int.reduceNeg]
    refine hK _ ?_; clear hK
    refine bwp_ret ?_
    simp -implicitDefEqProofs only [go_sem, ↓reduceIte, Nat.reduceEqDiff, Nat.reduceAdd, Nat.reduceLeDiff, Nat.reduceMul, Nat.reduceSub, Int.reduceLE, Int.reduceLT, Int.reduceEq, Int.reduceToNat, Int.reducePow, Int.reduceNeg]
    refine aend_ret (nxV s a) ?_ (nxV_ren s a) ⟨rfl, rfl⟩
    rw [nxV_ok hn]
    simp [resA, resVs, resV, fget, mget, mset, loadA, h34, h26, he]
  have he' : ¬ (p : Int) = (s.length : Int) := by omega
  have hlt : p < s.length := by omega
  have hlt' : (p : Int) < s.length := by omega
  have hi0 : (0 : Int) ≤ (p : Int) := Int.natCast_nonneg _
  have hd := drop_at hlt
  have hw : IntKind.i64.wrap ((p : Int) + 1) = ((p + 1 : Nat) : Int) := by rw [wrap_i64 (by omega) (by omega)]; rfl
  generalize hcd : s.getD p 0 = c at hd
  have hrl := runL_le (s.drop (p + 1))
  rw [List.length_drop] at hrl
  rw [hd] at hnw
  refine bwp_seq fun K hK => bwp_region rfl ?_
  simp -implicitDefEqProofs only [go_sem, ↓reduceIte, Nat.reduceEqDiff, Nat.reduceAdd, Nat.reduceLeDiff, Nat.reduceMul, Nat.reduceSub, Int.reduceLE, Int.reduceLT, Int.reduceEq, Int.reduceToNat, Int.reducePow, Int.reduceNeg, he']
  refine hK _ ?_; clear hK
  refine bwp_cond false (by simp [ev, fget]) (fun h => nomatch h) (fun _ => ?_)
  refine bwp_skip ?_
  refine hK1 _ ?_; clear hK1
  refine bwp_seq fun K hK => bwp_region rfl ?_
  simp -implicitDefEqProofs only [go_sem, ↓reduceIte, Nat.reduceEqDiff, Nat.reduceAdd, Nat.reduceLeDiff, Nat.reduceMul, Nat.reduceSub, Int.reduceLE, Int.reduceLT, Int.reduceEq, Int.reduceToNat, Int.reducePow, Int.reduceNeg, hi0, hlt', Int.toNat_natCast, hcd]
  refine hK _ ?_; clear hK
  refine bwp_seq fun K hK => bwp_region rfl ?_
  simp -implicitDefEqProofs only [go_sem, ↓reduceIte, Nat.reduceEqDiff, Nat.reduceAdd, Nat.reduceLeDiff, Nat.reduceMul, Nat.reduceSub, Int.reduceLE, Int.reduceLT, Int.reduceEq, Int.reduceToNat, Int.reducePow, Int.reduceNeg, hw]
  refine hK _ ?_; clear hK
  refine bwp_seq fun K1 hK1 => ?_
  have q1 := letter_pure c
  have q2 := digit_pure c
  have hw2 : p + 1 + runL (s.drop (p + 1)) = p + (1 + runL (s.drop (p + 1))) := by omega
  have slc : ∀ e, e = p + (1 + runL (s.drop (p + 1))) → (s.take e).drop p = c :: (s.drop (p + 1)).take (runL (s.drop (p + 1))) := fun e h => by
    rw [slice_eq, hd, h, show p + (1 + runL (s.drop (p + 1))) - p = runL (s.drop (p + 1)) + 1 by omega, List.take_succ_cons]
  by_cases h1 : letB c = true
  · rw [h1] at q1
    refine bwp_seq fun K hK => bwp_region rfl ?_
    simp -implicitDefEqProofs only [go_sem, ↓reduceIte, Nat.reduceEqDiff, Nat.reduceAdd, Nat.reduceLeDiff, Nat.reduceMul, Nat.reduceSub, Int.reduceLE, Int.reduceLT, Int.reduceEq, Int.reduceToNat, Int.reducePow, Int.reduceNeg]
    repeat' (first
      | (refine gateK_split (fun hb => ?_) (fun hb => ?_) <;> simp -implicitDefEqProofs only [go_sem, ↓reduceIte, Nat.reduceEqDiff, Nat.reduceAdd, Nat.reduceLeDiff, Nat.reduceMul, Nat.reduceSub, Int.reduceLE, Int.reduceLT, Int.reduceEq, Int.reduceToNat, Int.reducePow, Int.reduceNeg, hb])
      | (refine dGateK_split (fun hb => ?_) (fun hb => ?_) <;> simp -implicitDefEqProofs only [go_sem, ↓reduceIte, Nat.reduceEqDiff, Nat.reduceAdd, Nat.reduceLeDiff, Nat.reduceMul, Nat.reduceSub, Int.reduceLE, Int.reduceLT, Int.reduceEq, Int.reduceToNat, Int.reducePow, Int.reduceNeg, hb])
      | (refine callK_pure (q1) rfl rfl ?_; simp -implicitDefEqProofs only [go_sem, ↓reduceIte, Nat.reduceEqDiff, Nat.reduceAdd, Nat.reduceLeDiff, Nat.reduceMul, Nat.reduceSub, Int.reduceLE, Int.reduceLT, Int.reduceEq, Int.reduceToNat, Int.reducePow, Int.reduceNeg])
      | (refine dCallK_pure (q1) rfl rfl ?_; simp -implicitDefEqProofs only [go_sem, ↓reduceIte, Nat.reduceEqDiff, Nat.reduceAdd, Nat.reduceLeDiff, Nat.reduceMul, Nat.reduceSub, Int.reduceLE, Int.reduceLT, Int.reduceEq, Int.reduceToNat, Int.reducePow, Int.reduceNeg])
      | (rw [if_pos (by (try simp only [List.length_append, List.length_cons, List.length_nil, List.length_map]); omega)]; simp -implicitDefEqProofs only [go_sem, ↓reduceIte, Nat.reduceEqDiff, Nat.reduceAdd, Nat.reduceLeDiff, Nat.reduceMul, Nat.reduceSub, Int.reduceLE, Int.reduceLT, Int.reduceEq, Int.reduceToNat, Int.reducePow, Int.reduceNeg]))
    refine hK _ ?_; clear hK
    refine bwp_cond true (by simp [ev, fget]) (fun _ => ?_) (fun h => nomatch h)
    refine bwp_seq fun K2 hK2 => ?_
    refine bwp_block ?_
    refine bwp_leads (S' := rnS s p c (p + 1)) (Leads.ent [(0, 0), (1, 1)] ⟨by simp [entT, fget, AV.ren, renL, pget, rnS, nxM], by simp [entM, pinv, mget, mset, renL, AV.ren, pget, renL_append, -List.map_map, rnS, nxM], rfl, rfl⟩) ?_
    refine rn_loop0 hs (by omega) ?_
    have hn : nextW s a = (⟨1, c :: (s.drop (p + 1)).take (runL (s.drop (p + 1))), p⟩, p + (1 + runL (s.drop (p + 1))), 0) := by rw [hnw, tokAt, if_pos h1]
    have hsl := slc _ rfl
    rw [hw2]
    generalize hq : p + (1 + runL (s.drop (p + 1))) = q at *
    have b0 : (0 : Int) ≤ (q : Int) := Int.natCast_nonneg _
    have b1 : p ≤ q := by omega
    have b2 : q ≤ s.length := by omega
    unfold rnS nxM
    simp -implicitDefEqProofs only [go_sem, ↓reduceIte, Nat.reduceEqDiff, Nat.reduceAdd, Nat.reduceLeDiff, Nat.reduceMul, Nat.reduceSub, Int.reduceLE, Int.reduceLT, Int.reduceEq, Int.reduceToNat, Int.reducePow, Int.reduceNeg]
    refine hK2 _ ?_; clear hK2
    refine bwp_seq fun K hK => bwp_region rfl ?_
    simp -implicitDefEqProofs only [go_sem, ↓reduceIte, Nat.reduceEqDiff, Nat.reduceAdd, Nat.reduceLeDiff, Nat.reduceMul, Nat.reduceSub, Int.reduceLE, Int.reduceLT, Int.reduceEq, Int.reduceToNat, Int.reducePow, Int.reduceNeg, hi0, b0, b1, b2, Int.toNat_natCast, hsl]
    refine hK _ ?_; clear hK
    refine bwp_ret ?_
    simp -implicitDefEqProofs only [go_sem, ↓reduceIte, Nat.reduceEqDiff, Nat.reduceAdd, Nat.reduceLeDiff, Nat.reduceMul, Nat.reduceSub, Int.reduceLE, Int.reduceLT, Int.reduceEq, Int.reduceToNat, Int.reducePow, Int.reduceNeg]
    refine aend_ret (nxV s a) ?_ (nxV_ren s a) ⟨rfl, rfl⟩
    rw [nxV_ok hn]
    simp [resA, resVs, resV, fget, mget, mset, loadA, h34, h26]
  have h1' : letB c = false := by simpa using h1
  rw [h1'] at q1
  refine bwp_seq fun K hK => bwp_region rfl ?_
  simp -implicitDefEqProofs only [go_sem, ↓reduceIte, Nat.reduceEqDiff, Nat.reduceAdd, Nat.reduceLeDiff, Nat.reduceMul, Nat.reduceSub, Int.reduceLE, Int.reduceLT, Int.reduceEq, Int.reduceToNat, Int.reducePow, Int.reduceNeg]
  repeat' (first
    | (refine gateK_split (fun hb => ?_) (fun hb => ?_) <;> simp -implicitDefEqProofs only [go_sem, ↓reduceIte, Nat.reduceEqDiff, Nat.reduceAdd, Nat.reduceLeDiff, Nat.reduceMul, Nat.reduceSub, Int.reduceLE, Int.reduceLT, Int.reduceEq, Int.reduceToNat, Int.reducePow, Int.reduceNeg, hb])
    | (refine dGateK_split (fun hb => ?_) (fun hb => ?_) <;> simp -implicitDefEqProofs only [go_sem, ↓reduceIte, Nat.reduceEqDiff, Nat.reduceAdd, Nat.reduceLeDiff, Nat.reduceMul, Nat.reduceSub, Int.reduceLE, Int.reduceLT, Int.reduceEq, Int.reduceToNat, Int.reducePow, Int.reduceNeg, hb])
    | (refine callK_pure (q1) rfl rfl ?_; simp -implicitDefEqProofs only [go_sem, ↓reduceIte, Nat.reduceEqDiff, Nat.reduceAdd, Nat.reduceLeDiff, Nat.reduceMul, Nat.reduceSub, Int.reduceLE, Int.reduceLT, Int.reduceEq, Int.reduceToNat, Int.reducePow, Int.reduceNeg])
    | (refine dCallK_pure (q1) rfl rfl ?_; simp -implicitDefEqProofs only [go_sem, ↓reduceIte, Nat.reduceEqDiff, Nat.reduceAdd, Nat.reduceLeDiff, Nat.reduceMul, Nat.reduceSub, Int.reduceLE, Int.reduceLT, Int.reduceEq, Int.reduceToNat, Int.reducePow, Int.reduceNeg])
    | (rw [if_pos (by (try simp only [List.length_append, List.length_cons, List.length_nil, List.length_map]); omega)]; simp -implicitDefEqProofs only [go_sem, ↓reduceIte, Nat.reduceEqDiff, Nat.reduceAdd, Nat.reduceLeDiff, Nat.reduceMul, Nat.reduceSub, Int.reduceLE, Int.reduceLT, Int.reduceEq, Int.reduceToNat, Int.reducePow, Int.reduceNeg]))
  refine hK _ ?_; clear hK
  refine bwp_cond false (by simp [ev, fget]) (fun h => nomatch h) (fun _ => ?_)
  refine bwp_skip ?_
  refine hK1 _ ?_; clear hK1
  have pw : ∀ x, (parseW x).2 = (refW x).2 := fun x => by
    rw [← numW_eq]; unfold numW
    cases h : (refW x).2 with
    | true => rw [if_pos rfl, h]
    | false => rw [if_neg (by decide)]
  refine bwp_seq fun K1 hK1 => ?_
  refine bwp_seq fun K hK => bwp_region rfl ?_
  simp -implicitDefEqProofs only [go_sem, ↓reduceIte, Nat.reduceEqDiff, Nat.reduceAdd, Nat.reduceLeDiff, Nat.reduceMul, Nat.reduceSub, Int.reduceLE, Int.reduceLT, Int.reduceEq, Int.reduceToNat, Int.reducePow, Int.reduceNeg]
  have yes : (digB c = true ∨ (c = 45 ∧ ((s.drop (p + 1)).head?.map digB).getD false = true)) → ∀ t : Fr, fget t 77 = .d (.bool true) → fget t 9 = .d (.int .i64 (p + 1 : Nat)) → fget t 0 = .d (.str s) → fget t 7 = .d (.int .i64 p) → fget t 8 = .d (.int .u8 c.toNat) → fget t 4 = .ptr 0 0 → fget t 6 = .ptr 1 0 → K ⟨t, nxM, 2⟩ := by
    intro hdg t g77 g9 g0 g7 g8 g4 g6
    refine hK _ ?_; clear hK
    refine bwp_cond true (by simp [ev, fget, g77]) (fun _ => ?_) (fun h => nomatch h)
    refine bwp_seq fun K2 hK2 => ?_
    refine bwp_block ?_
    refine bwp_leads (S' := rnS s p c (p + 1)) (Leads.ent [(0, 0), (1, 1)] ⟨by simp [entT, fget, AV.ren, renL, pget, rnS, nxM, g9, g0, g7, g8, g4, g6], by simp [entM, pinv, mget, mset, renL, AV.ren, pget, renL_append, -List.map_map, rnS, nxM, g9, g0, g7, g8, g4, g6], rfl, rfl⟩) ?_
    refine rn_loop1 hs (by omega) ?_
    have hn1 := hnw
    rw [tokAt, if_neg h1, if_pos hdg, pw] at hn1
    have hsl := slc _ rfl
    have hwl : (c :: (s.drop (p + 1)).take (runL (s.drop (p + 1)))).length ≤ maxLen := by
      rw [List.length_cons, List.length_take, List.length_drop]
      exact Nat.le_trans (by omega : _ ≤ 140737488351233) (by decide)
    have kp := refParse_pure hwl
    rw [hw2]
    generalize c :: (s.drop (p + 1)).take (runL (s.drop (p + 1))) = w at *
    generalize hq : p + (1 + runL (s.drop (p + 1))) = q at *
    generalize refW w = rw' at *
    obtain ⟨rn, rb⟩ := rw'
    have b0 : (0 : Int) ≤ (q : Int) := Int.natCast_nonneg _
    have b1 : p ≤ q := by omega
    have b2 : q ≤ s.length := by omega
    unfold rnS nxM
    simp -implicitDefEqProofs only [go_sem, ↓reduceIte, Nat.reduceEqDiff, Nat.reduceAdd, Nat.reduceLeDiff, Nat.reduceMul, Nat.reduceSub, Int.reduceLE, Int.reduceLT, Int.reduceEq, Int.reduceToNat, Int.reducePow, Int.reduceNeg]
    refine hK2 _ ?_; clear hK2
    refine bwp_seq fun K2 hK2 => ?_
    refine bwp_seq fun K hK => bwp_region rfl ?_
    simp -implicitDefEqProofs only [go_sem, ↓reduceIte, Nat.reduceEqDiff, Nat.reduceAdd, Nat.reduceLeDiff, Nat.reduceMul, Nat.reduceSub, Int.reduceLE, Int.reduceLT, Int.reduceEq, Int.reduceToNat, Int.reducePow, Int.reduceNeg, hi0, b0, b1, b2, Int.toNat_natCast, hsl]
    repeat' (first
      | (refine gateK_split (fun hb => ?_) (fun hb => ?_) <;> simp -implicitDefEqProofs only [go_sem, ↓reduceIte, Nat.reduceEqDiff, Nat.reduceAdd, Nat.reduceLeDiff, Nat.reduceMul, Nat.reduceSub, Int.reduceLE, Int.reduceLT, Int.reduceEq, Int.reduceToNat, Int.reducePow, Int.reduceNeg, hb, hi0, b0, b1, b2, Int.toNat_natCast, hsl])
      | (refine dGateK_split (fun hb => ?_) (fun hb => ?_) <;> simp -implicitDefEqProofs only [go_sem, ↓reduceIte, Nat.reduceEqDiff, Nat.reduceAdd, Nat.reduceLeDiff, Nat.reduceMul, Nat.reduceSub, Int.reduceLE, Int.reduceLT, Int.reduceEq, Int.reduceToNat, Int.reducePow, Int.reduceNeg, hb, hi0, b0, b1, b2, Int.toNat_natCast, hsl])
      | (refine callK_pure (kp) rfl rfl ?_; simp -implicitDefEqProofs only [go_sem, ↓reduceIte, Nat.reduceEqDiff, Nat.reduceAdd, Nat.reduceLeDiff, Nat.reduceMul, Nat.reduceSub, Int.reduceLE, Int.reduceLT, Int.reduceEq, Int.reduceToNat, Int.reducePow, Int.reduceNeg, hi0, b0, b1, b2, Int.toNat_natCast, hsl])
      | (refine dCallK_pure (kp) rfl rfl ?_; simp -implicitDefEqProofs only [go_sem, ↓reduceIte, Nat.reduceEqDiff, Nat.reduceAdd, Nat.reduceLeDiff, Nat.reduceMul, Nat.reduceSub, Int.reduceLE, Int.reduceLT, Int.reduceEq, Int.reduceToNat, Int.reducePow, Int.reduceNeg, hi0, b0, b1, b2, Int.toNat_natCast, hsl])
      | (rw [if_pos (by (try simp only [List.length_append, List.length_cons, List.length_nil, List.length_map]); omega)]; simp -implicitDefEqProofs only [go_sem, ↓reduceIte, Nat.reduceEqDiff, Nat.reduceAdd, Nat.reduceLeDiff, Nat.reduceMul, Nat.reduceSub, Int.reduceLE, Int.reduceLT, Int.reduceEq, Int.reduceToNat, Int.reducePow, Int.reduceNeg, hi0, b0, b1, b2, Int.toNat_natCast, hsl]))
    refine hK _ ?_; clear hK
    cases rb with
    | false =>
      rw [if_neg (by exact Bool.false_ne_true)] at hn1
      refine bwp_seq fun K hK => bwp_region rfl ?_
      simp -implicitDefEqProofs only [go_sem, ↓reduceIte, Nat.reduceEqDiff, Nat.reduceAdd, Nat.reduceLeDiff, Nat.reduceMul, Nat.reduceSub, Int.reduceLE, Int.reduceLT, Int.reduceEq, Int.reduceToNat, Int.reducePow, Int.reduceNeg]
      refine hK _ ?_; clear hK
      refine bwp_cond true (by simp [ev, fget]) (fun _ => ?_) (fun h => nomatch h)
      refine bwp_seq fun K hK => bwp_region rfl ?_
      simp -implicitDefEqProofs only [go_sem, ↓reduceIte, Nat.reduceEqDiff, Nat.reduceAdd, Nat.reduceLeDiff, Nat.reduceMul, Nat.reduceSub, Int.reduceLE, Int.reduceLT, Int.reduceEq, Int.reduceToNat, Int.reducePow, Int.reduceNeg]
      refine hK _ ?_; clear hK
      refine bwp_ret ?_
      simp -implicitDefEqProofs only [go_sem, ↓reduceIte, Nat.reduceEqDiff, Nat.reduceAdd, Nat.reduceLeDiff, Nat.reduceMul, Nat.reduceSub, Int.reduceLE, Int.reduceLT, Int.reduceEq, Int.reduceToNat, Int.reducePow, Int.reduceNeg]
      refine aend_ret (nxV s a) ?_ (nxV_ren s a) ⟨rfl, rfl⟩
      rw [nxV_bad (by decide) hn1, hp]
      simp [resA, resVs, resV, fget, mget, mset, loadA, h34, h26]
    | true =>
      rw [if_pos rfl] at hn1
      refine bwp_seq fun K hK => bwp_region rfl ?_
      simp -implicitDefEqProofs only [go_sem, ↓reduceIte, Nat.reduceEqDiff, Nat.reduceAdd, Nat.reduceLeDiff, Nat.reduceMul, Nat.reduceSub, Int.reduceLE, Int.reduceLT, Int.reduceEq, Int.reduceToNat, Int.reducePow, Int.reduceNeg]
      refine hK _ ?_; clear hK
      refine bwp_cond false (by simp [ev, fget]) (fun h => nomatch h) (fun _ => ?_)
      refine bwp_skip ?_
      refine hK2 _ ?_; clear hK2
      refine bwp_seq fun K hK => bwp_region rfl ?_
      simp -implicitDefEqProofs only [go_sem, ↓reduceIte, Nat.reduceEqDiff, Nat.reduceAdd, Nat.reduceLeDiff, Nat.reduceMul, Nat.reduceSub, Int.reduceLE, Int.reduceLT, Int.reduceEq, Int.reduceToNat, Int.reducePow, Int.reduceNeg, hi0, b0, b1, b2, Int.toNat_natCast, hsl]
      refine hK _ ?_; clear hK
      refine bwp_ret ?_
      simp -implicitDefEqProofs only [go_sem, ↓reduceIte, Nat.reduceEqDiff, Nat.reduceAdd, Nat.reduceLeDiff, Nat.reduceMul, Nat.reduceSub, Int.reduceLE, Int.reduceLT, Int.reduceEq, Int.reduceToNat, Int.reducePow, Int.reduceNeg]
      refine aend_ret (nxV s a) ?_ (nxV_ren s a) ⟨rfl, rfl⟩
      rw [nxV_ok hn1]
      simp [resA, resVs, resV, fget, mget, mset, loadA, h34, h26]
  have no : ¬ (digB c = true ∨ (c = 45 ∧ ((s.drop (p + 1)).head?.map digB).getD false = true)) → ∀ t : Fr, fget t 77 = .d (.bool false) → fget t 9 = .d (.int .i64 (p + 1 : Nat)) → fget t 0 = .d (.str s) → fget t 7 = .d (.int .i64 p) → fget t 8 = .d (.int .u8 c.toNat) → fget t 4 = .ptr 0 0 → fget t 6 = .ptr 1 0 → K ⟨t, nxM, 2⟩ := by
    intro hdg t g77 g9 g0 g7 g8 g4 g6
    refine hK _ ?_; clear hK
    refine bwp_cond false (by simp [ev, fget, g77]) (fun h => nomatch h) (fun _ => ?_)
    refine bwp_skip ?_
    refine hK1 _ ?_; clear hK1
    rw [tokAt, if_neg h1, if_neg hdg] at hnw
    unfold nxM
    refine bwp_seq fun K hK => bwp_region rfl ?_
    simp -implicitDefEqProofs only [go_sem, ↓reduceIte, Nat.reduceEqDiff, Nat.reduceAdd, Nat.reduceLeDiff, Nat.reduceMul, Nat.reduceSub, Int.reduceLE, Int.reduceLT, Int.reduceEq, Int.reduceToNat, Int.reducePow, Int.reduceNeg]
    refine hK _ ?_; clear hK
    refine bwp_seq fun K2 hK2 => ?_
    refine bwp_seq fun K3 hK3 => ?_
    refine bwp_region rfl ?_
    simp -implicitDefEqProofs only [go_sem, ↓reduceIte, Nat.reduceEqDiff, Nat.reduceAdd, Nat.reduceLeDiff, Nat.reduceMul, Nat.reduceSub, Int.reduceLE, Int.reduceLT, Int.reduceEq, Int.reduceToNat, Int.reducePow, Int.reduceNeg]
    refine hK3 _ ?_; clear hK3
    refine bwp_block ?_
    have hrt : ∀ f, renL f twC = twC := fun _ => rfl
    refine bwp_leads (S' := twS s p c 0) (Leads.ent [(0, 0), (1, 1), (2, 2)] ⟨by simp [entT, fget, AV.ren, renL, pget, twS, nxM, g9, g0, g7, g8, g4, g6, twC, tw], by simp [entM, pinv, mget, mset, renL, AV.ren, pget, renL_append, -List.map_map, twS, nxM, g9, g0, g7, g8, g4, g6, twC, tw], rfl, rfl⟩) ?_
    refine two_loop hs hlt ?_ ?_
    · intro i hi he t n g5 g4 g6
      have h2 : signL (c :: s.drop (p + 1)) = 2 ∨ s.drop (p + 1) = [] := by
        by_cases hnil : s.drop (p + 1) = []
        · exact .inr hnil
        · refine .inl (sign_two.2 ⟨i, hi, by rw [he, hd], ?_⟩)
          cases hx : s.drop (p + 1) with
          | nil => exact absurd hx hnil
          | cons d r => simp
      have h2 : signL (c :: s.drop (p + 1)) = 2 := by
        rcases h2 with h2 | h2
        · exact h2
        · rw [hd, h2] at he
          exfalso
          match i, hi with
          | 0, _ => simp [tw] at he
          | 1, _ => simp [tw] at he
          | 2, _ => simp [tw] at he
          | 3, _ => simp [tw] at he
      rw [h2, if_neg (by decide), ← hd] at hnw
      simp -implicitDefEqProofs only [go_sem, ↓reduceIte, Nat.reduceEqDiff, Nat.reduceAdd, Nat.reduceLeDiff, Nat.reduceMul, Nat.reduceSub, Int.reduceLE, Int.reduceLT, Int.reduceEq, Int.reduceToNat, Int.reducePow, Int.reduceNeg]
      refine aend_ret (nxV s a) ?_ (nxV_ren s a) ⟨rfl, rfl⟩
      rw [nxV_ok hnw]
      simp [resA, resVs, resV, fget, mget, mset, loadA, h34, h26, g4, g5, g6]
    · intro i hne
      have h2 : signL (c :: s.drop (p + 1)) ≠ 2 := by
        intro h
        obtain ⟨j, hj, e, hl⟩ := sign_two.1 h
        rw [List.length_drop] at hl
        exact hne (by omega) j hj (by rw [hd]; exact e)
      unfold twS nxM
      simp -implicitDefEqProofs only [go_sem, ↓reduceIte, Nat.reduceEqDiff, Nat.reduceAdd, Nat.reduceLeDiff, Nat.reduceMul, Nat.reduceSub, Int.reduceLE, Int.reduceLT, Int.reduceEq, Int.reduceToNat, Int.reducePow, Int.reduceNeg]
      refine hK2 _ ?_; clear hK2
      refine bwp_seq fun K hK => bwp_region rfl ?_
      simp -implicitDefEqProofs only [go_sem, ↓reduceIte, Nat.reduceEqDiff, Nat.reduceAdd, Nat.reduceLeDiff, Nat.reduceMul, Nat.reduceSub, Int.reduceLE, Int.reduceLT, Int.reduceEq, Int.reduceToNat, Int.reducePow, Int.reduceNeg]
      refine hK _ ?_; clear hK
      refine bwp_seq fun K2 hK2 => ?_
      refine bwp_seq fun K3 hK3 => ?_
      refine bwp_region rfl ?_
      simp -implicitDefEqProofs only [go_sem, ↓reduceIte, Nat.reduceEqDiff, Nat.reduceAdd, Nat.reduceLeDiff, Nat.reduceMul, Nat.reduceSub, Int.reduceLE, Int.reduceLT, Int.reduceEq, Int.reduceToNat, Int.reducePow, Int.reduceNeg]
      refine hK3 _ ?_; clear hK3
      refine bwp_block ?_
      refine bwp_leads (S' := onS s p c 0) (Leads.ent [(0, 0), (1, 1)] ⟨by simp [entT, fget, AV.ren, renL, pget, onS, nxM, ones], by simp [entM, pinv, mget, mset, renL, AV.ren, pget, renL_append, -List.map_map, onS, nxM, ones], rfl, rfl⟩) ?_
      have h12 : signL (c :: s.drop (p + 1)) = if c ∈ ones then 1 else 0 := by
        rw [signL]
        split
        · rename_i hx
          exfalso
          apply h2
          rw [signL, if_pos hx]
        · rfl
      refine one_loop s ?_ ?_
      · intro hm t g5 g4 g6
        rw [h12, if_pos hm, if_neg (by decide)] at hnw
        simp -implicitDefEqProofs only [go_sem, ↓reduceIte, Nat.reduceEqDiff, Nat.reduceAdd, Nat.reduceLeDiff, Nat.reduceMul, Nat.reduceSub, Int.reduceLE, Int.reduceLT, Int.reduceEq, Int.reduceToNat, Int.reducePow, Int.reduceNeg]
        refine aend_ret (nxV s a) ?_ (nxV_ren s a) ⟨rfl, rfl⟩
        rw [nxV_ok hnw]
        simp [resA, resVs, resV, fget, mget, mset, loadA, h34, h26, g4, g5, g6]
      · intro hm
        rw [h12, if_neg hm, if_pos rfl] at hnw
        unfold onS nxM
        simp -implicitDefEqProofs only [go_sem, ↓reduceIte, Nat.reduceEqDiff, Nat.reduceAdd, Nat.reduceLeDiff, Nat.reduceMul, Nat.reduceSub, Int.reduceLE, Int.reduceLT, Int.reduceEq, Int.reduceToNat, Int.reducePow, Int.reduceNeg]
        refine hK2 _ ?_; clear hK2
        refine bwp_seq fun K hK => bwp_region rfl ?_
        simp -implicitDefEqProofs only [go_sem, ↓reduceIte, Nat.reduceEqDiff, Nat.reduceAdd, Nat.reduceLeDiff, Nat.reduceMul, Nat.reduceSub, Int.reduceLE, Int.reduceLT, Int.reduceEq, Int.reduceToNat, Int.reducePow, Int.reduceNeg]
        refine hK _ ?_; clear hK
        refine bwp_ret ?_
        simp -implicitDefEqProofs only [go_sem, ↓reduceIte, Nat.reduceEqDiff, Nat.reduceAdd, Nat.reduceLeDiff, Nat.reduceMul, Nat.reduceSub, Int.reduceLE, Int.reduceLT, Int.reduceEq, Int.reduceToNat, Int.reducePow, Int.reduceNeg]
        refine aend_ret (nxV s a) ?_ (nxV_ren s a) ⟨rfl, rfl⟩
        rw [nxV_bad (by decide) hnw, hp]
        simp [resA, resVs, resV, fget, mget, mset, loadA, h34, h26]
  cases hdc : digB c with
  | true =>
    rw [hdc] at q2
    repeat' (first
      | (refine gateK_split (fun hb => ?_) (fun hb => ?_) <;> simp -implicitDefEqProofs only [go_sem, ↓reduceIte, Nat.reduceEqDiff, Nat.reduceAdd, Nat.reduceLeDiff, Nat.reduceMul, Nat.reduceSub, Int.reduceLE, Int.reduceLT, Int.reduceEq, Int.reduceToNat, Int.reducePow, Int.reduceNeg, hb])
      | (refine dGateK_split (fun hb => ?_) (fun hb => ?_) <;> simp -implicitDefEqProofs only [go_sem, ↓reduceIte, Nat.reduceEqDiff, Nat.reduceAdd, Nat.reduceLeDiff, Nat.reduceMul, Nat.reduceSub, Int.reduceLE, Int.reduceLT, Int.reduceEq, Int.reduceToNat, Int.reducePow, Int.reduceNeg, hb])
      | (refine callK_pure (q2) rfl rfl ?_; simp -implicitDefEqProofs only [go_sem, ↓reduceIte, Nat.reduceEqDiff, Nat.reduceAdd, Nat.reduceLeDiff, Nat.reduceMul, Nat.reduceSub, Int.reduceLE, Int.reduceLT, Int.reduceEq, Int.reduceToNat, Int.reducePow, Int.reduceNeg])
      | (refine dCallK_pure (q2) rfl rfl ?_; simp -implicitDefEqProofs only [go_sem, ↓reduceIte, Nat.reduceEqDiff, Nat.reduceAdd, Nat.reduceLeDiff, Nat.reduceMul, Nat.reduceSub, Int.reduceLE, Int.reduceLT, Int.reduceEq, Int.reduceToNat, Int.reducePow, Int.reduceNeg])
      | (rw [if_pos (by (try simp only [List.length_append, List.length_cons, List.length_nil, List.length_map]); omega)]; simp -implicitDefEqProofs only [go_sem, ↓reduceIte, Nat.reduceEqDiff, Nat.reduceAdd, Nat.reduceLeDiff, Nat.reduceMul, Nat.reduceSub, Int.reduceLE, Int.reduceLT, Int.reduceEq, Int.reduceToNat, Int.reducePow, Int.reduceNeg]))
    exact yes (.inl hdc) _ rfl rfl rfl rfl rfl rfl rfl
  | false =>
    rw [hdc] at q2
    by_cases h45 : (c.toNat : Int) = 45
    · have hc45 := u8eq (k := 45) h45
      by_cases hto : p + 1 < s.length
      · have hto' : ((p + 1 : Nat) : Int) < s.length := by omega
        have hi1 : (0 : Int) ≤ ((p + 1 : Nat) : Int) := Int.natCast_nonneg _
        have hd2 := drop_at hto
        have q3 := digit_pure (s.getD (p + 1) 0)
        cases hdd : digB (s.getD (p + 1) 0) with
        | true =>
          rw [hdd] at q3
          repeat' (first
            | (refine gateK_split (fun hb => ?_) (fun hb => ?_) <;> simp -implicitDefEqProofs only [go_sem, ↓reduceIte, Nat.reduceEqDiff, Nat.reduceAdd, Nat.reduceLeDiff, Nat.reduceMul, Nat.reduceSub, Int.reduceLE, Int.reduceLT, Int.reduceEq, Int.reduceToNat, Int.reducePow, Int.reduceNeg, hb, h45, hto', hi1, Int.toNat_natCast])
            | (refine dGateK_split (fun hb => ?_) (fun hb => ?_) <;> simp -implicitDefEqProofs only [go_sem, ↓reduceIte, Nat.reduceEqDiff, Nat.reduceAdd, Nat.reduceLeDiff, Nat.reduceMul, Nat.reduceSub, Int.reduceLE, Int.reduceLT, Int.reduceEq, Int.reduceToNat, Int.reducePow, Int.reduceNeg, hb, h45, hto', hi1, Int.toNat_natCast])
            | (refine callK_pure (q2) rfl rfl ?_; simp -implicitDefEqProofs only [go_sem, ↓reduceIte, Nat.reduceEqDiff, Nat.reduceAdd, Nat.reduceLeDiff, Nat.reduceMul, Nat.reduceSub, Int.reduceLE, Int.reduceLT, Int.reduceEq, Int.reduceToNat, Int.reducePow, Int.reduceNeg, h45, hto', hi1, Int.toNat_natCast])
            | (refine dCallK_pure (q2) rfl rfl ?_; simp -implicitDefEqProofs only [go_sem, ↓reduceIte, Nat.reduceEqDiff, Nat.reduceAdd, Nat.reduceLeDiff, Nat.reduceMul, Nat.reduceSub, Int.reduceLE, Int.reduceLT, Int.reduceEq, Int.reduceToNat, Int.reducePow, Int.reduceNeg, h45, hto', hi1, Int.toNat_natCast])
            | (refine callK_pure (q3) rfl rfl ?_; simp -implicitDefEqProofs only [go_sem, ↓reduceIte, Nat.reduceEqDiff, Nat.reduceAdd, Nat.reduceLeDiff, Nat.reduceMul, Nat.reduceSub, Int.reduceLE, Int.reduceLT, Int.reduceEq, Int.reduceToNat, Int.reducePow, Int.reduceNeg, h45, hto', hi1, Int.toNat_natCast])
            | (refine dCallK_pure (q3) rfl rfl ?_; simp -implicitDefEqProofs only [go_sem, ↓reduceIte, Nat.reduceEqDiff, Nat.reduceAdd, Nat.reduceLeDiff, Nat.reduceMul, Nat.reduceSub, Int.reduceLE, Int.reduceLT, Int.reduceEq, Int.reduceToNat, Int.reducePow, Int.reduceNeg, h45, hto', hi1, Int.toNat_natCast])
            | (rw [if_pos (by (try simp only [List.length_append, List.length_cons, List.length_nil, List.length_map]); omega)]; simp -implicitDefEqProofs only [go_sem, ↓reduceIte, Nat.reduceEqDiff, Nat.reduceAdd, Nat.reduceLeDiff, Nat.reduceMul, Nat.reduceSub, Int.reduceLE, Int.reduceLT, Int.reduceEq, Int.reduceToNat, Int.reducePow, Int.reduceNeg, h45, hto', hi1, Int.toNat_natCast]))
          exact yes (.inr ⟨hc45, by rw [hd2]; simpa using hdd⟩) _ rfl rfl rfl rfl (by rw [h45]; rfl) rfl rfl
        | false =>
          rw [hdd] at q3
          repeat' (first
            | (refine gateK_split (fun hb => ?_) (fun hb => ?_) <;> simp -implicitDefEqProofs only [go_sem, ↓reduceIte, Nat.reduceEqDiff, Nat.reduceAdd, Nat.reduceLeDiff, Nat.reduceMul, Nat.reduceSub, Int.reduceLE, Int.reduceLT, Int.reduceEq, Int.reduceToNat, Int.reducePow, Int.reduceNeg, hb, h45, hto', hi1, Int.toNat_natCast])
            | (refine dGateK_split (fun hb => ?_) (fun hb => ?_) <;> simp -implicitDefEqProofs only [go_sem, ↓reduceIte, Nat.reduceEqDiff, Nat.reduceAdd, Nat.reduceLeDiff, Nat.reduceMul, Nat.reduceSub, Int.reduceLE, Int.reduceLT, Int.reduceEq, Int.reduceToNat, Int.reducePow, Int.reduceNeg, hb, h45, hto', hi1, Int.toNat_natCast])
            | (refine callK_pure (q2) rfl rfl ?_; simp -implicitDefEqProofs only [go_sem, ↓reduceIte, Nat.reduceEqDiff, Nat.reduceAdd, Nat.reduceLeDiff, Nat.reduceMul, Nat.reduceSub, Int.reduceLE, Int.reduceLT, Int.reduceEq, Int.reduceToNat, Int.reducePow, Int.reduceNeg, h45, hto', hi1, Int.toNat_natCast])
            | (refine dCallK_pure (q2) rfl rfl ?_; simp -implicitDefEqProofs only [go_sem, ↓reduceIte, Nat.reduceEqDiff, Nat.reduceAdd, Nat.reduceLeDiff, Nat.reduceMul, Nat.reduceSub, Int.reduceLE, Int.reduceLT, Int.reduceEq, Int.reduceToNat, Int.reducePow, Int.reduceNeg, h45, hto', hi1, Int.toNat_natCast])
            | (refine callK_pure (q3) rfl rfl ?_; simp -implicitDefEqProofs only [go_sem, ↓reduceIte, Nat.reduceEqDiff, Nat.reduceAdd, Nat.reduceLeDiff, Nat.reduceMul, Nat.reduceSub, Int.reduceLE, Int.reduceLT, Int.reduceEq, Int.reduceToNat, Int.reducePow, Int.reduceNeg, h45, hto', hi1, Int.toNat_natCast])
            | (refine dCallK_pure (q3) rfl rfl ?_; simp -implicitDefEqProofs only [go_sem, ↓reduceIte, Nat.reduceEqDiff, Nat.reduceAdd, Nat.reduceLeDiff, Nat.reduceMul, Nat.reduceSub, Int.reduceLE, Int.reduceLT, Int.reduceEq, Int.reduceToNat, Int.reducePow, Int.reduceNeg, h45, hto', hi1, Int.toNat_natCast])
            | (rw [if_pos (by (try simp only [List.length_append, List.length_cons, List.length_nil, List.length_map]); omega)]; simp -implicitDefEqProofs only [go_sem, ↓reduceIte, Nat.reduceEqDiff, Nat.reduceAdd, Nat.reduceLeDiff, Nat.reduceMul, Nat.reduceSub, Int.reduceLE, Int.reduceLT, Int.reduceEq, Int.reduceToNat, Int.reducePow, Int.reduceNeg, h45, hto', hi1, Int.toNat_natCast]))
          exact no (by rintro (h | ⟨_, h⟩); rw [hdc] at h; cases h; rw [hd2] at h; simp at h; rw [← List.getD_eq_getElem?_getD, hdd] at h; cases h) _ rfl rfl rfl rfl (by rw [h45]; rfl) rfl rfl
      · have hto' : ¬ ((p + 1 : Nat) : Int) < s.length := by omega
        have hnil : s.drop (p + 1) = [] := List.drop_eq_nil_of_le (by omega)
        repeat' (first
          | (refine gateK_split (fun hb => ?_) (fun hb => ?_) <;> simp -implicitDefEqProofs only [go_sem, ↓reduceIte, Nat.reduceEqDiff, Nat.reduceAdd, Nat.reduceLeDiff, Nat.reduceMul, Nat.reduceSub, Int.reduceLE, Int.reduceLT, Int.reduceEq, Int.reduceToNat, Int.reducePow, Int.reduceNeg, hb, h45, hto'])
          | (refine dGateK_split (fun hb => ?_) (fun hb => ?_) <;> simp -implicitDefEqProofs only [go_sem, ↓reduceIte, Nat.reduceEqDiff, Nat.reduceAdd, Nat.reduceLeDiff, Nat.reduceMul, Nat.reduceSub, Int.reduceLE, Int.reduceLT, Int.reduceEq, Int.reduceToNat, Int.reducePow, Int.reduceNeg, hb, h45, hto'])
          | (refine callK_pure (q2) rfl rfl ?_; simp -implicitDefEqProofs only [go_sem, ↓reduceIte, Nat.reduceEqDiff, Nat.reduceAdd, Nat.reduceLeDiff, Nat.reduceMul, Nat.reduceSub, Int.reduceLE, Int.reduceLT, Int.reduceEq, Int.reduceToNat, Int.reducePow, Int.reduceNeg, h45, hto'])
          | (refine dCallK_pure (q2) rfl rfl ?_; simp -implicitDefEqProofs only [go_sem, ↓reduceIte, Nat.reduceEqDiff, Nat.reduceAdd, Nat.reduceLeDiff, Nat.reduceMul, Nat.reduceSub, Int.reduceLE, Int.reduceLT, Int.reduceEq, Int.reduceToNat, Int.reducePow, Int.reduceNeg, h45, hto'])
          | (rw [if_pos (by (try simp only [List.length_append, List.length_cons, List.length_nil, List.length_map]); omega)]; simp -implicitDefEqProofs only [go_sem, ↓reduceIte, Nat.reduceEqDiff, Nat.reduceAdd, Nat.reduceLeDiff, Nat.reduceMul, Nat.reduceSub, Int.reduceLE, Int.reduceLT, Int.reduceEq, Int.reduceToNat, Int.reducePow, Int.reduceNeg, h45, hto']))
        exact no (by rintro (h | ⟨_, h⟩); rw [hdc] at h; cases h; rw [hnil] at h; simp at h) _ rfl rfl rfl rfl (by rw [h45]; rfl) rfl rfl
    · have hc45 := u8ne (k := 45) h45
      repeat' (first
        | (refine gateK_split (fun hb => ?_) (fun hb => ?_) <;> simp -implicitDefEqProofs only [go_sem, ↓reduceIte, Nat.reduceEqDiff, Nat.reduceAdd, Nat.reduceLeDiff, Nat.reduceMul, Nat.reduceSub, Int.reduceLE, Int.reduceLT, Int.reduceEq, Int.reduceToNat, Int.reducePow, Int.reduceNeg, hb, h45])
        | (refine dGateK_split (fun hb => ?_) (fun hb => ?_) <;> simp -implicitDefEqProofs only [go_sem, ↓reduceIte, Nat.reduceEqDiff, Nat.reduceAdd, Nat.reduceLeDiff, Nat.reduceMul, Nat.reduceSub, Int.reduceLE, Int.reduceLT, Int.reduceEq, Int.reduceToNat, Int.reducePow, Int.reduceNeg, hb, h45])
        | (refine callK_pure (q2) rfl rfl ?_; simp -implicitDefEqProofs only [go_sem, ↓reduceIte, Nat.reduceEqDiff, Nat.reduceAdd, Nat.reduceLeDiff, Nat.reduceMul, Nat.reduceSub, Int.reduceLE, Int.reduceLT, Int.reduceEq, Int.reduceToNat, Int.reducePow, Int.reduceNeg, h45])
        | (refine dCallK_pure (q2) rfl rfl ?_; simp -implicitDefEqProofs only [go_sem, ↓reduceIte, Nat.reduceEqDiff, Nat.reduceAdd, Nat.reduceLeDiff, Nat.reduceMul, Nat.reduceSub, Int.reduceLE, Int.reduceLT, Int.reduceEq, Int.reduceToNat, Int.reducePow, Int.reduceNeg, h45])
        | (rw [if_pos (by (try simp only [List.length_append, List.length_cons, List.length_nil, List.length_map]); omega)]; simp -implicitDefEqProofs only [go_sem, ↓reduceIte, Nat.reduceEqDiff, Nat.reduceAdd, Nat.reduceLeDiff, Nat.reduceMul, Nat.reduceSub, Int.reduceLE, Int.reduceLT, Int.reduceEq, Int.reduceToNat, Int.reducePow, Int.reduceNeg, h45]))
      exact no (by rintro (h | ⟨h, _⟩); rw [hdc] at h; cases h; exact hc45 h) _ rfl rfl rfl rfl rfl rfl rfl

end Go.Proofs.YtpfbljkfbjjlkaaDoor
