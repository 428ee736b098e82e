/- What the functions of package cond come to, told without a heap: a condition at one end, at many. -/
import Derived.Test.YtjfghjakpjfgpaaC2
namespace Go.Proofs.Ytjfghjakpjfgpaa
open Go Go.Jq
set_option maxRecDepth 100000
set_option linter.unusedSimpArgs false

section
variable {L I T : DV} {locs : List UInt8} {nt : Nat} (hL : IsBytes L locs) (hT : lenA (.d T) = some nt) {f : List Int} (hf : f.length = 20)
include hL hT hf

theorem holds11_pure (a : Atom) : Pure Try.prog 25 [.agg (a.cells.map .d), .dptr [L, I, T], .dptr (finD f)] (.d (.bool (!atomHolds locs nt a f))) := by
  have h20 : (finD f).length = 20 := by simp [finD, hf]
  have ht : ((finD f).map AV.d).take 20 = (finD f).map AV.d := List.take_of_length_le (by simp [h20])
  refine acalls_of Try.func25 ac25_ok Try.ntmps25 Try.results25 rfl ?_
  unfold ac25
  refine bwp_seq fun K hK => bwp_region rfl ?_
  simp -implicitDefEqProofs only [go_sem, ↓reduceIte, Nat.reduceEqDiff, Nat.reduceAdd, Nat.reduceLeDiff, Nat.reduceMul, Nat.reduceSub, Int.reduceLE, Int.reduceLT, Int.reduceEq, Int.reduceToNat, Int.reducePow, Int.reduceNeg, Atom.cells]
  refine hK _ ?_; clear hK
  refine bwp_seq fun K hK => bwp_region rfl ?_
  simp -implicitDefEqProofs only [go_sem, ↓reduceIte, Nat.reduceEqDiff, Nat.reduceAdd, Nat.reduceLeDiff, Nat.reduceMul, Nat.reduceSub, Int.reduceLE, Int.reduceLT, Int.reduceEq, Int.reduceToNat, Int.reducePow, Int.reduceNeg, List.length_map, h20, List.length_cons, List.length_nil, Nat.le_refl, List.take, ht]
  refine callK_pure (atom_pure hL hT a hf) (by simp [inL, inB, finAV]) rfl ?_
  simp -implicitDefEqProofs only [go_sem, ↓reduceIte, Nat.reduceEqDiff, Nat.reduceAdd, Nat.reduceLeDiff, Nat.reduceMul, Nat.reduceSub, Int.reduceLE, Int.reduceLT, Int.reduceEq, Int.reduceToNat, Int.reducePow, Int.reduceNeg]
  refine hK _ ?_; clear hK
  refine bwp_ret ?_
  simp only [go_sem]
  refine aend_ret _ rfl rfl ⟨?_, rfl⟩
  simp only [fget, ↓reduceIte]

theorem holds1_pure {l : List Atom} {X : DV} (hX : IsSl Atom.cells l X) : Pure Try.prog 23 [.d X, .dptr [L, I, T], .dptr (finD f)] (.d (.bool (l.all fun a => atomHolds locs nt a f))) := by
  have h1 : Pure Try.prog 43 [.d X, .fn 25 [.dptr [L, I, T], .dptr (finD f)]] _ := indexFunc Try.func43 ac43_ok Try.ntmps43 rfl Try.results43
    (slE_agg (k := 4) (fun _ => rfl) (by omega) hX) rfl rfl (fun i hi => by simp [eltA, hi, inB]) (p := fun i => (l[i]?.map fun a => !atomHolds locs nt a f).getD false)
    (fun i hi => by simp only [eltA, List.getElem?_eq_getElem hi, Option.map_some, Option.getD_some]; exact holds11_pure hL hT hf _)
  have h2 := containsFunc Try.func24 ac24_ok Try.ntmps24 rfl Try.results24 rfl h1
  rw [any_idx] at h2
  refine acalls_of Try.func23 ac23_ok Try.ntmps23 Try.results23 rfl ?_
  unfold ac23
  refine bwp_seq fun K hK => bwp_region rfl ?_
  simp -implicitDefEqProofs only [go_sem, ↓reduceIte, Nat.reduceEqDiff, Nat.reduceAdd, Nat.reduceLeDiff, Nat.reduceMul, Nat.reduceSub, Int.reduceLE, Int.reduceLT, Int.reduceEq, Int.reduceToNat, Int.reducePow, Int.reduceNeg]
  refine hK _ ?_; clear hK
  refine bwp_seq fun K hK => bwp_region rfl ?_
  simp -implicitDefEqProofs only [go_sem, ↓reduceIte, Nat.reduceEqDiff, Nat.reduceAdd, Nat.reduceLeDiff, Nat.reduceMul, Nat.reduceSub, Int.reduceLE, Int.reduceLT, Int.reduceEq, Int.reduceToNat, Int.reducePow, Int.reduceNeg]
  refine callK_pure h2 rfl rfl ?_
  simp -implicitDefEqProofs only [go_sem, ↓reduceIte, Nat.reduceEqDiff, Nat.reduceAdd, Nat.reduceLeDiff, Nat.reduceMul, Nat.reduceSub, Int.reduceLE, Int.reduceLT, Int.reduceEq, Int.reduceToNat, Int.reducePow, Int.reduceNeg]
  refine hK _ ?_; clear hK
  refine bwp_ret ?_
  simp only [go_sem]
  refine aend_ret _ rfl rfl ⟨?_, rfl⟩
  simp only [fget, ↓reduceIte, List.not_any_eq_all_not, Bool.not_not]

/-- Whether a condition holds of an end. -/
def holdsC (locs : List UInt8) (nt : Nat) (kind : Int) (rows : List (List Atom)) (f : List Int) : Bool :=
  decide (kind = 0) || rows.any fun l => l.all fun a => atomHolds locs nt a f

theorem rows_pure {rows : List (List Atom)} {A : DV} (hA : IsSl2 Atom.cells rows A) :
    Pure Try.prog 27 [.d A, .fn 23 [.dptr [L, I, T], .dptr (finD f)]] (.d (.bool (rows.any fun l => l.all fun a => atomHolds locs nt a f))) := by
  obtain ⟨ds, h1, h2⟩ := hA
  have hl := h2.length
  have h3 : Pure Try.prog 45 [.d A, .fn 23 [.dptr [L, I, T], .dptr (finD f)]] _ := indexFunc Try.func45 ac45_ok Try.ntmps45 rfl Try.results45
    (slE_one h1) rfl rfl (fun i hi => by simp [eltD, hi, inB]) (p := fun i => (rows[i]?.map fun l => l.all fun a => atomHolds locs nt a f).getD false)
    (fun i hi => by
      have hi' : i < rows.length := by omega
      obtain ⟨d, h4, h5⟩ := h2.get i _ (List.getElem?_eq_getElem hi')
      simp only [eltD, h4, List.getElem?_eq_getElem hi', Option.map_some, Option.getD_some]
      exact holds1_pure hL hT hf h5)
  have h4 := containsFunc Try.func27 ac27_ok Try.ntmps27 rfl Try.results27 rfl h3
  rw [hl, any_idx] at h4
  exact h4

theorem holds_pure {rows : List (List Atom)} {A : DV} (hA : IsSl2 Atom.cells rows A) (kind : Int) :
    Pure Try.prog 10 [.agg [.d L, .d I, .d T], .agg [.d (.int .i64 kind), .d A], finAV f] (.d (.bool (holdsC locs nt kind rows f))) := by
  refine acalls_of Try.func10 ac10_ok Try.ntmps10 Try.results10 rfl ?_
  unfold ac10
  unfold finAV
  refine bwp_seq fun K hK => bwp_region rfl ?_
  simp -implicitDefEqProofs only [go_sem, ↓reduceIte, Nat.reduceEqDiff, Nat.reduceAdd, Nat.reduceLeDiff, Nat.reduceMul, Nat.reduceSub, Int.reduceLE, Int.reduceLT, Int.reduceEq, Int.reduceToNat, Int.reducePow, Int.reduceNeg]
  refine hK _ ?_; clear hK
  refine bwp_leads (Leads.frz (S' := ⟨[(3, .dptr [L, I, T]), (4, .dptr [.int .i64 kind, A]), (5, .dptr (finD f))], [], 0⟩) [] [(0, [L, I, T]), (1, [.int .i64 kind, A]), (2, finD f)] ⟨?_, trivial, rfl, rfl, ?_⟩) ?_
  · simp [frzT, fget, AV.cv, zget]
  · simp [zokFrom, mget, cvL, AV.cv, cvL_d]
  refine bwp_seq fun K hK => bwp_region rfl ?_
  simp -implicitDefEqProofs only [go_sem, ↓reduceIte, Nat.reduceEqDiff, Nat.reduceAdd, Nat.reduceLeDiff, Nat.reduceMul, Nat.reduceSub, Int.reduceLE, Int.reduceLT, Int.reduceEq, Int.reduceToNat, Int.reducePow, Int.reduceNeg]
  refine hK _ ?_; clear hK
  by_cases hk : kind = 0
  · refine bwp_seq fun K hK => bwp_region rfl ?_
    simp -implicitDefEqProofs only [go_sem, ↓reduceIte, Nat.reduceEqDiff, Nat.reduceAdd, Nat.reduceLeDiff, Nat.reduceMul, Nat.reduceSub, Int.reduceLE, Int.reduceLT, Int.reduceEq, Int.reduceToNat, Int.reducePow, Int.reduceNeg, hk, decide_true, List.map_cons]
    refine hK _ ?_; clear hK
    refine bwp_ret ?_
    simp only [go_sem]
    refine aend_ret _ rfl rfl ⟨?_, rfl⟩
    simp only [fget, ↓reduceIte, holdsC, hk, decide_true, Bool.true_or]
  · refine bwp_seq fun K hK => bwp_region rfl ?_
    simp -implicitDefEqProofs only [go_sem, ↓reduceIte, Nat.reduceEqDiff, Nat.reduceAdd, Nat.reduceLeDiff, Nat.reduceMul, Nat.reduceSub, Int.reduceLE, Int.reduceLT, Int.reduceEq, Int.reduceToNat, Int.reducePow, Int.reduceNeg, hk, decide_false, List.map_cons]
    refine callK_pure (rows_pure hL hT hf hA) rfl rfl ?_
    simp -implicitDefEqProofs only [go_sem, ↓reduceIte, Nat.reduceEqDiff, Nat.reduceAdd, Nat.reduceLeDiff, Nat.reduceMul, Nat.reduceSub, Int.reduceLE, Int.reduceLT, Int.reduceEq, Int.reduceToNat, Int.reducePow, Int.reduceNeg]
    refine hK _ ?_; clear hK
    refine bwp_ret ?_
    simp only [go_sem]
    refine aend_ret _ rfl rfl ⟨?_, rfl⟩
    simp only [fget, ↓reduceIte, holdsC, hk, decide_false, Bool.false_or]

end

end Go.Proofs.Ytjfghjakpjfgpaa
