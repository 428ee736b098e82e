/- Signs of numbers. -/
import Derived.Test.YtcpelgjafifkaaaDoorXG
import Derived.Test.YtcpelgjafifkaaaDoorAc
namespace Go.Proofs.YtcpelgjafifkaaaDoor
open Go Go.Jq
set_option maxRecDepth 100000
set_option linter.unusedSimpArgs false

def signsT : List (List UInt8) := [[], [43], [45], [42], [38], [124], [94], [60, 60], [62, 62], [61, 61], [33, 61], [60]]
def signT (op : Int) : List UInt8 := if 1 ≤ op ∧ op ≤ 11 then signsT.getD op.toNat [] else []

theorem signs_pure : Pure Tryd.prog 28 [] (.agg (signsT.map fun s => .d (.str s))) := by
  refine acalls_of Tryd.func28 ac28_ok Tryd.ntmps28 Tryd.results28 rfl ?_
  unfold ac28
  refine bwp_seq fun K hK => bwp_region rfl ?_
  simp -implicitDefEqProofs only [go_sem, ↓reduceIte, Nat.reduceEqDiff, Nat.reduceAdd, Nat.reduceLeDiff, Nat.reduceMul, Nat.reduceSub, Int.reduceLE, Int.reduceLT, Int.reduceEq, Int.reduceToNat, Int.reducePow, Int.reduceNeg]
  refine hK _ ?_; clear hK
  refine bwp_seq fun K hK => bwp_region rfl ?_
  simp -implicitDefEqProofs only [go_sem, ↓reduceIte, Nat.reduceEqDiff, Nat.reduceAdd, Nat.reduceLeDiff, Nat.reduceMul, Nat.reduceSub, Int.reduceLE, Int.reduceLT, Int.reduceEq, Int.reduceToNat, Int.reducePow, Int.reduceNeg]
  refine hK _ ?_; clear hK
  refine bwp_ret ?_
  simp only [go_sem]
  refine aend_mem (.agg (signsT.map fun s => .d (.str s))) [] [] ?_ rfl rfl trivial ⟨rfl, rfl⟩
  rfl

theorem sign_pure (op : Int) : Pure Tryd.prog 20 [.d (.int .i64 op)] (.d (.str (signT op))) := by
  refine acalls_of Tryd.func20 ac20_ok Tryd.ntmps20 Tryd.results20 rfl ?_
  unfold ac20
  refine bwp_seq fun K hK => bwp_region rfl ?_
  simp -implicitDefEqProofs only [go_sem, ↓reduceIte, Nat.reduceEqDiff, Nat.reduceAdd, Nat.reduceLeDiff, Nat.reduceMul, Nat.reduceSub, Int.reduceLE, Int.reduceLT, Int.reduceEq, Int.reduceToNat, Int.reducePow, Int.reduceNeg]
  refine hK _ ?_; clear hK
  refine bwp_seq fun K1 hK1 => ?_
  by_cases h1 : op < 1
  · refine bwp_seq fun K hK => bwp_region rfl ?_
    simp -implicitDefEqProofs only [go_sem, ↓reduceIte, Nat.reduceEqDiff, Nat.reduceAdd, Nat.reduceLeDiff, Nat.reduceMul, Nat.reduceSub, Int.reduceLE, Int.reduceLT, Int.reduceEq, Int.reduceToNat, Int.reducePow, Int.reduceNeg, h1]
    refine hK _ ?_; clear hK
    refine bwp_cond true (by simp [ev, fget, h1]) (fun _ => ?_) (fun h => nomatch h)
    refine bwp_seq fun K hK => bwp_region rfl ?_
    simp -implicitDefEqProofs only [go_sem, ↓reduceIte, Nat.reduceEqDiff, Nat.reduceAdd, Nat.reduceLeDiff, Nat.reduceMul, Nat.reduceSub, Int.reduceLE, Int.reduceLT, Int.reduceEq, Int.reduceToNat, Int.reducePow, Int.reduceNeg]
    refine hK _ ?_; clear hK
    refine bwp_ret ?_
    simp only [go_sem]
    refine aend_ret _ rfl rfl ⟨?_, rfl⟩
    have : ¬ 1 ≤ op := by omega
    simp [fget, signT, this]
  · by_cases h2 : 11 < op
    · refine bwp_seq fun K hK => bwp_region rfl ?_
      simp -implicitDefEqProofs only [go_sem, ↓reduceIte, Nat.reduceEqDiff, Nat.reduceAdd, Nat.reduceLeDiff, Nat.reduceMul, Nat.reduceSub, Int.reduceLE, Int.reduceLT, Int.reduceEq, Int.reduceToNat, Int.reducePow, Int.reduceNeg, h1, h2]
      refine hK _ ?_; clear hK
      refine bwp_cond true (by simp [ev, fget, h1, h2]) (fun _ => ?_) (fun h => nomatch h)
      refine bwp_seq fun K hK => bwp_region rfl ?_
      simp -implicitDefEqProofs only [go_sem, ↓reduceIte, Nat.reduceEqDiff, Nat.reduceAdd, Nat.reduceLeDiff, Nat.reduceMul, Nat.reduceSub, Int.reduceLE, Int.reduceLT, Int.reduceEq, Int.reduceToNat, Int.reducePow, Int.reduceNeg]
      refine hK _ ?_; clear hK
      refine bwp_ret ?_
      simp only [go_sem]
      refine aend_ret _ rfl rfl ⟨?_, rfl⟩
      have : ¬ op ≤ 11 := by omega
      simp [fget, signT, this]
    · refine bwp_seq fun K hK => bwp_region rfl ?_
      simp -implicitDefEqProofs only [go_sem, ↓reduceIte, Nat.reduceEqDiff, Nat.reduceAdd, Nat.reduceLeDiff, Nat.reduceMul, Nat.reduceSub, Int.reduceLE, Int.reduceLT, Int.reduceEq, Int.reduceToNat, Int.reducePow, Int.reduceNeg, h1, h2]
      refine hK _ ?_; clear hK
      refine bwp_cond false (by simp [ev, fget, h1, h2]) (fun h => nomatch h) (fun _ => ?_)
      refine bwp_skip ?_
      refine hK1 _ ?_; clear hK1
      refine bwp_seq fun K hK => bwp_region rfl ?_
      simp -implicitDefEqProofs only [go_sem, ↓reduceIte, Nat.reduceEqDiff, Nat.reduceAdd, Nat.reduceLeDiff, Nat.reduceMul, Nat.reduceSub, Int.reduceLE, Int.reduceLT, Int.reduceEq, Int.reduceToNat, Int.reducePow, Int.reduceNeg]
      refine callK_pure signs_pure rfl rfl ?_
      simp -implicitDefEqProofs only [go_sem, ↓reduceIte, Nat.reduceEqDiff, Nat.reduceAdd, Nat.reduceLeDiff, Nat.reduceMul, Nat.reduceSub, Int.reduceLE, Int.reduceLT, Int.reduceEq, Int.reduceToNat, Int.reducePow, Int.reduceNeg, signsT]
      refine hK _ ?_; clear hK
      obtain ⟨q, rfl⟩ : ∃ q : Nat, op = q := ⟨op.toNat, by omega⟩
      have hq : (q : Int) < 12 := by omega
      have hq0 : (0 : Int) ≤ q := by omega
      have hq2 : q < 12 := by omega
      have hcell : [AV.d (DV.str []), AV.d (DV.str [43]), AV.d (DV.str [45]), AV.d (DV.str [42]), AV.d (DV.str [38]), AV.d (DV.str [124]), AV.d (DV.str [94]), AV.d (DV.str [60, 60]), AV.d (DV.str [62, 62]), AV.d (DV.str [61, 61]), AV.d (DV.str [33, 61]), AV.d (DV.str [60])][q]? = some (.d (.str (signT q))) := by
        have : q ∈ List.range 12 := by simp [hq2]
        have key : ∀ q ∈ List.range 12, 1 ≤ q → [AV.d (DV.str []), AV.d (DV.str [43]), AV.d (DV.str [45]), AV.d (DV.str [42]), AV.d (DV.str [38]), AV.d (DV.str [124]), AV.d (DV.str [94]), AV.d (DV.str [60, 60]), AV.d (DV.str [62, 62]), AV.d (DV.str [61, 61]), AV.d (DV.str [33, 61]), AV.d (DV.str [60])][q]? = some (.d (.str (signT q))) := by
          intro q hq hq1
          simp only [List.mem_range] at hq
          match q, hq, hq1 with
          | 1, _, _ => rfl | 2, _, _ => rfl | 3, _, _ => rfl | 4, _, _ => rfl | 5, _, _ => rfl | 6, _, _ => rfl | 7, _, _ => rfl | 8, _, _ => rfl | 9, _, _ => rfl | 10, _, _ => rfl | 11, _, _ => rfl
        exact key q this (by omega)
      refine bwp_seq fun K hK => bwp_region rfl ?_
      simp -implicitDefEqProofs only [go_sem, ↓reduceIte, Nat.reduceEqDiff, Nat.reduceAdd, Nat.reduceLeDiff, Nat.reduceMul, Nat.reduceSub, Int.reduceLE, Int.reduceLT, Int.reduceEq, Int.reduceToNat, Int.reducePow, Int.reduceNeg, hq, hq0, hq2, Int.toNat_natCast, Int.natCast_nonneg, List.getElem?_drop, Nat.add_zero, hcell]
      refine hK _ ?_; clear hK
      refine bwp_ret ?_
      simp only [go_sem]
      refine aend_ret _ rfl rfl ⟨?_, rfl⟩
      simp [fget]


end Go.Proofs.YtcpelgjafifkaaaDoor
