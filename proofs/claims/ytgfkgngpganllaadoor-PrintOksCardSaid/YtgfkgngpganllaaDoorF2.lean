/- Which instructions may be, told without a heap. -/
import Derived.Test.YtgfkgngpganllaaDoorF1
namespace Go.Proofs.YtgfkgngpganllaaDoor
open Go Go.Jq
set_option maxRecDepth 100000
set_option linter.unusedSimpArgs false

def eqIns (x w : Ins) : Bool := decide (x.kind = w.kind) && (decide (x.reg = w.reg) && (decide (x.loc = w.loc) && (decide (x.a.reg = w.a.reg) && (decide (x.a.value = w.a.value) && (decide (x.op = w.op) && (decide (x.b.reg = w.b.reg) && (decide (x.b.value = w.b.value) && (decide (x.n = w.n) && true))))))))

def okInsB (x : Ins) : Bool :=
  if x.kind = 1 then (isLocB x.loc && isOpB x.a) && eqIns x ⟨x.kind, 0, x.loc, x.a, 0, ⟨0, 0⟩, 0⟩
  else if x.kind = 2 then (isLocB x.loc && isRegB x.reg) && eqIns x ⟨x.kind, x.reg, x.loc, ⟨0, 0⟩, 0, ⟨0, 0⟩, 0⟩
  else if x.kind = 3 then eqIns x ⟨x.kind, 0, 0, ⟨0, 0⟩, 0, ⟨0, 0⟩, 0⟩
  else if x.kind = 4 then (isLocB x.loc && isRegB x.reg && isOpB x.a && isOpB x.b) && eqIns x ⟨x.kind, x.reg, x.loc, x.a, 0, x.b, 0⟩
  else if x.kind = 5 then (isRegB x.reg && isOpB x.a && isOpB x.b && decide (0 ≤ x.op) && decide (x.op ≤ 11) && (decide (0 < x.op) || (decide (x.b.reg = -1) && decide (x.b.value = 0)))) && eqIns x ⟨x.kind, x.reg, 0, x.a, x.op, x.b, 0⟩
  else if x.kind = 6 then (decide (0 ≤ x.n) && isOpB x.a && isOpB x.b) && eqIns x ⟨x.kind, 0, 0, x.a, 0, x.b, x.n⟩
  else false

set_option maxHeartbeats 4000000 in
theorem fields_pure (x : Ins) : Pure Tryd.prog 57 [.agg (x.cells.map .d), .fn 30 []] (.d (.bool (okInsB x))) := by
  refine acalls_of Tryd.func57 ac57_ok Tryd.ntmps57 Tryd.results57 rfl ?_
  unfold ac57
  refine bwp_seq fun K hK => bwp_region rfl ?_
  simp -implicitDefEqProofs only [go_sem, ↓reduceIte, Nat.reduceEqDiff, Nat.reduceAdd, Nat.reduceLeDiff, Nat.reduceMul, Nat.reduceSub, Int.reduceLE, Int.reduceLT, Int.reduceEq, Int.reduceToNat, Int.reducePow, Int.reduceNeg, Ins.cells]
  refine hK _ ?_; clear hK
  refine bwp_seq fun K hK => bwp_region rfl ?_
  simp -implicitDefEqProofs only [go_sem, ↓reduceIte, Nat.reduceEqDiff, Nat.reduceAdd, Nat.reduceLeDiff, Nat.reduceMul, Nat.reduceSub, Int.reduceLE, Int.reduceLT, Int.reduceEq, Int.reduceToNat, Int.reducePow, Int.reduceNeg]
  refine hK _ ?_; clear hK
  refine bwp_seq fun K hK => bwp_region rfl ?_
  simp -implicitDefEqProofs only [go_sem, ↓reduceIte, Nat.reduceEqDiff, Nat.reduceAdd, Nat.reduceLeDiff, Nat.reduceMul, Nat.reduceSub, Int.reduceLE, Int.reduceLT, Int.reduceEq, Int.reduceToNat, Int.reducePow, Int.reduceNeg]
  refine hK _ ?_; clear hK
  refine bwp_seq fun K1 hK1 => ?_
  have tail : ∀ (t : Fr) (n : Nat) (w : Ins) (ok : Bool), fget t 6 = .d (.bool ok) → fget t 2 = .ptr 0 0 → fget t 5 = .ptr 1 0 → okInsB x = (ok && eqIns x w) → K1 ⟨t, [(0, x.cells.map .d), (1, w.cells.map .d)], n⟩ := by
    intro t n w ok h6 h2 h5 hok
    refine hK1 _ ?_; clear hK1
    refine bwp_seq fun K hK => bwp_region (by simp [mbound]) ?_
    cases ok
    · simp -implicitDefEqProofs only [go_sem, ↓reduceIte, Nat.reduceEqDiff, Nat.reduceAdd, Nat.reduceLeDiff, Nat.reduceMul, Nat.reduceSub, Int.reduceLE, Int.reduceLT, Int.reduceEq, Int.reduceToNat, Int.reducePow, Int.reduceNeg, h6, h2, h5, Ins.cells]
      refine hK _ ?_; clear hK
      refine bwp_ret ?_
      simp only [go_sem]
      refine aend_ret _ rfl rfl ⟨?_, rfl⟩
      simp [fget, hok]
    · simp -implicitDefEqProofs only [go_sem, ↓reduceIte, Nat.reduceEqDiff, Nat.reduceAdd, Nat.reduceLeDiff, Nat.reduceMul, Nat.reduceSub, Int.reduceLE, Int.reduceLT, Int.reduceEq, Int.reduceToNat, Int.reducePow, Int.reduceNeg, h6, h2, h5, Ins.cells]
      refine hK _ ?_; clear hK
      refine bwp_ret ?_
      simp only [go_sem]
      refine aend_ret _ rfl rfl ⟨?_, rfl⟩
      simp [fget, hok, eqIns]
  refine bwp_seq fun K hK => bwp_region rfl ?_
  simp -implicitDefEqProofs only [go_sem, ↓reduceIte, Nat.reduceEqDiff, Nat.reduceAdd, Nat.reduceLeDiff, Nat.reduceMul, Nat.reduceSub, Int.reduceLE, Int.reduceLT, Int.reduceEq, Int.reduceToNat, Int.reducePow, Int.reduceNeg]
  refine hK _ ?_; clear hK
  refine bwp_block ?_
  refine bwp_seq fun K hK => bwp_region rfl ?_
  simp -implicitDefEqProofs only [go_sem, ↓reduceIte, Nat.reduceEqDiff, Nat.reduceAdd, Nat.reduceLeDiff, Nat.reduceMul, Nat.reduceSub, Int.reduceLE, Int.reduceLT, Int.reduceEq, Int.reduceToNat, Int.reducePow, Int.reduceNeg]
  refine hK _ ?_; clear hK
  by_cases h1 : x.kind = 1
  · refine bwp_cond true (by simp [ev, fget, h1]) (fun _ => ?_) (fun h => nomatch h)
    refine bwp_seq fun K hK => bwp_region_draw rfl rfl ?_
    simp -implicitDefEqProofs only [go_sem, ↓reduceIte, Nat.reduceEqDiff, Nat.reduceAdd, Nat.reduceLeDiff, Nat.reduceMul, Nat.reduceSub, Int.reduceLE, Int.reduceLT, Int.reduceEq, Int.reduceToNat, Int.reducePow, Int.reduceNeg]
    refine ⟨rfl, hK _ ?_⟩; clear hK
    refine bwp_region rfl ?_
    simp -implicitDefEqProofs only [go_sem, ↓reduceIte, Nat.reduceEqDiff, Nat.reduceAdd, Nat.reduceLeDiff, Nat.reduceMul, Nat.reduceSub, Int.reduceLE, Int.reduceLT, Int.reduceEq, Int.reduceToNat, Int.reducePow, Int.reduceNeg]
    refine ⟨rfl, callK_pure (isLoc_pure x.loc) rfl rfl ?_⟩
    cases hb : isLocB x.loc
    · simp -implicitDefEqProofs only [go_sem, ↓reduceIte, Nat.reduceEqDiff, Nat.reduceAdd, Nat.reduceLeDiff, Nat.reduceMul, Nat.reduceSub, Int.reduceLE, Int.reduceLT, Int.reduceEq, Int.reduceToNat, Int.reducePow, Int.reduceNeg]
      exact tail _ _ ⟨x.kind, 0, x.loc, x.a, 0, ⟨0, 0⟩, 0⟩ false rfl rfl rfl (by simp [okInsB, h1, hb])
    · simp -implicitDefEqProofs only [go_sem, ↓reduceIte, Nat.reduceEqDiff, Nat.reduceAdd, Nat.reduceLeDiff, Nat.reduceMul, Nat.reduceSub, Int.reduceLE, Int.reduceLT, Int.reduceEq, Int.reduceToNat, Int.reducePow, Int.reduceNeg]
      refine callK_pure (isOp_pure x.a) rfl rfl ?_
      simp -implicitDefEqProofs only [go_sem, ↓reduceIte, Nat.reduceEqDiff, Nat.reduceAdd, Nat.reduceLeDiff, Nat.reduceMul, Nat.reduceSub, Int.reduceLE, Int.reduceLT, Int.reduceEq, Int.reduceToNat, Int.reducePow, Int.reduceNeg]
      exact tail _ _ ⟨x.kind, 0, x.loc, x.a, 0, ⟨0, 0⟩, 0⟩ (isOpB x.a) (by simp [fget]) rfl rfl (by simp [okInsB, h1, hb])
  refine bwp_cond false (by simp [ev, fget, h1]) (fun h => nomatch h) (fun _ => ?_)
  refine bwp_seq fun K hK => bwp_region rfl ?_
  simp -implicitDefEqProofs only [go_sem, ↓reduceIte, Nat.reduceEqDiff, Nat.reduceAdd, Nat.reduceLeDiff, Nat.reduceMul, Nat.reduceSub, Int.reduceLE, Int.reduceLT, Int.reduceEq, Int.reduceToNat, Int.reducePow, Int.reduceNeg]
  refine hK _ ?_; clear hK
  by_cases h2 : x.kind = 2
  · refine bwp_cond true (by simp [ev, fget, h2]) (fun _ => ?_) (fun h => nomatch h)
    refine bwp_seq fun K hK => bwp_region_draw rfl rfl ?_
    simp -implicitDefEqProofs only [go_sem, ↓reduceIte, Nat.reduceEqDiff, Nat.reduceAdd, Nat.reduceLeDiff, Nat.reduceMul, Nat.reduceSub, Int.reduceLE, Int.reduceLT, Int.reduceEq, Int.reduceToNat, Int.reducePow, Int.reduceNeg]
    refine ⟨rfl, hK _ ?_⟩; clear hK
    refine bwp_region rfl ?_
    simp -implicitDefEqProofs only [go_sem, ↓reduceIte, Nat.reduceEqDiff, Nat.reduceAdd, Nat.reduceLeDiff, Nat.reduceMul, Nat.reduceSub, Int.reduceLE, Int.reduceLT, Int.reduceEq, Int.reduceToNat, Int.reducePow, Int.reduceNeg]
    refine ⟨rfl, callK_pure (isLoc_pure x.loc) rfl rfl ?_⟩
    cases hb : isLocB x.loc
    · simp -implicitDefEqProofs only [go_sem, ↓reduceIte, Nat.reduceEqDiff, Nat.reduceAdd, Nat.reduceLeDiff, Nat.reduceMul, Nat.reduceSub, Int.reduceLE, Int.reduceLT, Int.reduceEq, Int.reduceToNat, Int.reducePow, Int.reduceNeg]
      exact tail _ _ ⟨x.kind, x.reg, x.loc, ⟨0, 0⟩, 0, ⟨0, 0⟩, 0⟩ false rfl rfl rfl (by simp [okInsB, h2, hb])
    · simp -implicitDefEqProofs only [go_sem, ↓reduceIte, Nat.reduceEqDiff, Nat.reduceAdd, Nat.reduceLeDiff, Nat.reduceMul, Nat.reduceSub, Int.reduceLE, Int.reduceLT, Int.reduceEq, Int.reduceToNat, Int.reducePow, Int.reduceNeg]
      refine callK_pure (isReg_pure x.reg) rfl rfl ?_
      simp -implicitDefEqProofs only [go_sem, ↓reduceIte, Nat.reduceEqDiff, Nat.reduceAdd, Nat.reduceLeDiff, Nat.reduceMul, Nat.reduceSub, Int.reduceLE, Int.reduceLT, Int.reduceEq, Int.reduceToNat, Int.reducePow, Int.reduceNeg]
      exact tail _ _ ⟨x.kind, x.reg, x.loc, ⟨0, 0⟩, 0, ⟨0, 0⟩, 0⟩ (isRegB x.reg) (by simp [fget]) rfl rfl (by simp [okInsB, h2, hb])
  refine bwp_cond false (by simp [ev, fget, h2]) (fun h => nomatch h) (fun _ => ?_)
  refine bwp_seq fun K hK => bwp_region rfl ?_
  simp -implicitDefEqProofs only [go_sem, ↓reduceIte, Nat.reduceEqDiff, Nat.reduceAdd, Nat.reduceLeDiff, Nat.reduceMul, Nat.reduceSub, Int.reduceLE, Int.reduceLT, Int.reduceEq, Int.reduceToNat, Int.reducePow, Int.reduceNeg]
  refine hK _ ?_; clear hK
  by_cases h3 : x.kind = 3
  · refine bwp_cond true (by simp [ev, fget, h3]) (fun _ => ?_) (fun h => nomatch h)
    refine bwp_skip ?_
    simp -implicitDefEqProofs only [go_sem, ↓reduceIte, Nat.reduceEqDiff, Nat.reduceAdd, Nat.reduceLeDiff, Nat.reduceMul, Nat.reduceSub, Int.reduceLE, Int.reduceLT, Int.reduceEq, Int.reduceToNat, Int.reducePow, Int.reduceNeg]
    exact tail _ _ ⟨x.kind, 0, 0, ⟨0, 0⟩, 0, ⟨0, 0⟩, 0⟩ true rfl rfl rfl (by simp [okInsB, h3])
  refine bwp_cond false (by simp [ev, fget, h3]) (fun h => nomatch h) (fun _ => ?_)
  refine bwp_seq fun K hK => bwp_region rfl ?_
  simp -implicitDefEqProofs only [go_sem, ↓reduceIte, Nat.reduceEqDiff, Nat.reduceAdd, Nat.reduceLeDiff, Nat.reduceMul, Nat.reduceSub, Int.reduceLE, Int.reduceLT, Int.reduceEq, Int.reduceToNat, Int.reducePow, Int.reduceNeg]
  refine hK _ ?_; clear hK
  by_cases h4 : x.kind = 4
  · refine bwp_cond true (by simp [ev, fget, h4]) (fun _ => ?_) (fun h => nomatch h)
    refine bwp_seq fun K hK => bwp_region_draw rfl rfl ?_
    simp -implicitDefEqProofs only [go_sem, ↓reduceIte, Nat.reduceEqDiff, Nat.reduceAdd, Nat.reduceLeDiff, Nat.reduceMul, Nat.reduceSub, Int.reduceLE, Int.reduceLT, Int.reduceEq, Int.reduceToNat, Int.reducePow, Int.reduceNeg]
    refine ⟨rfl, hK _ ?_⟩; clear hK
    refine bwp_region rfl ?_
    simp -implicitDefEqProofs only [go_sem, ↓reduceIte, Nat.reduceEqDiff, Nat.reduceAdd, Nat.reduceLeDiff, Nat.reduceMul, Nat.reduceSub, Int.reduceLE, Int.reduceLT, Int.reduceEq, Int.reduceToNat, Int.reducePow, Int.reduceNeg]
    refine ⟨rfl, callK_pure (isLoc_pure x.loc) rfl rfl ?_⟩
    cases hb : isLocB x.loc
    · simp -implicitDefEqProofs only [go_sem, ↓reduceIte, Nat.reduceEqDiff, Nat.reduceAdd, Nat.reduceLeDiff, Nat.reduceMul, Nat.reduceSub, Int.reduceLE, Int.reduceLT, Int.reduceEq, Int.reduceToNat, Int.reducePow, Int.reduceNeg]
      exact tail _ _ ⟨x.kind, x.reg, x.loc, x.a, 0, x.b, 0⟩ false rfl rfl rfl (by simp [okInsB, h4, hb])
    · simp -implicitDefEqProofs only [go_sem, ↓reduceIte, Nat.reduceEqDiff, Nat.reduceAdd, Nat.reduceLeDiff, Nat.reduceMul, Nat.reduceSub, Int.reduceLE, Int.reduceLT, Int.reduceEq, Int.reduceToNat, Int.reducePow, Int.reduceNeg]
      refine callK_pure (isReg_pure x.reg) rfl rfl ?_
      cases hb2 : isRegB x.reg
      · simp -implicitDefEqProofs only [go_sem, ↓reduceIte, Nat.reduceEqDiff, Nat.reduceAdd, Nat.reduceLeDiff, Nat.reduceMul, Nat.reduceSub, Int.reduceLE, Int.reduceLT, Int.reduceEq, Int.reduceToNat, Int.reducePow, Int.reduceNeg]
        exact tail _ _ ⟨x.kind, x.reg, x.loc, x.a, 0, x.b, 0⟩ false rfl rfl rfl (by simp [okInsB, h4, hb2])
      · simp -implicitDefEqProofs only [go_sem, ↓reduceIte, Nat.reduceEqDiff, Nat.reduceAdd, Nat.reduceLeDiff, Nat.reduceMul, Nat.reduceSub, Int.reduceLE, Int.reduceLT, Int.reduceEq, Int.reduceToNat, Int.reducePow, Int.reduceNeg]
        refine callK_pure (isOp_pure x.a) rfl rfl ?_
        cases hb3 : isOpB x.a
        · simp -implicitDefEqProofs only [go_sem, ↓reduceIte, Nat.reduceEqDiff, Nat.reduceAdd, Nat.reduceLeDiff, Nat.reduceMul, Nat.reduceSub, Int.reduceLE, Int.reduceLT, Int.reduceEq, Int.reduceToNat, Int.reducePow, Int.reduceNeg]
          exact tail _ _ ⟨x.kind, x.reg, x.loc, x.a, 0, x.b, 0⟩ false rfl rfl rfl (by simp [okInsB, h4, hb3])
        · simp -implicitDefEqProofs only [go_sem, ↓reduceIte, Nat.reduceEqDiff, Nat.reduceAdd, Nat.reduceLeDiff, Nat.reduceMul, Nat.reduceSub, Int.reduceLE, Int.reduceLT, Int.reduceEq, Int.reduceToNat, Int.reducePow, Int.reduceNeg]
          refine callK_pure (isOp_pure x.b) rfl rfl ?_
          simp -implicitDefEqProofs only [go_sem, ↓reduceIte, Nat.reduceEqDiff, Nat.reduceAdd, Nat.reduceLeDiff, Nat.reduceMul, Nat.reduceSub, Int.reduceLE, Int.reduceLT, Int.reduceEq, Int.reduceToNat, Int.reducePow, Int.reduceNeg]
          exact tail _ _ ⟨x.kind, x.reg, x.loc, x.a, 0, x.b, 0⟩ (isOpB x.b) (by simp [fget]) rfl rfl (by simp [okInsB, h4, hb, hb2, hb3])
  refine bwp_cond false (by simp [ev, fget, h4]) (fun h => nomatch h) (fun _ => ?_)
  refine bwp_seq fun K hK => bwp_region rfl ?_
  simp -implicitDefEqProofs only [go_sem, ↓reduceIte, Nat.reduceEqDiff, Nat.reduceAdd, Nat.reduceLeDiff, Nat.reduceMul, Nat.reduceSub, Int.reduceLE, Int.reduceLT, Int.reduceEq, Int.reduceToNat, Int.reducePow, Int.reduceNeg]
  refine hK _ ?_; clear hK
  by_cases h5 : x.kind = 5
  · refine bwp_cond true (by simp [ev, fget, h5]) (fun _ => ?_) (fun h => nomatch h)
    refine bwp_seq fun K hK => bwp_region_draw rfl rfl ?_
    simp -implicitDefEqProofs only [go_sem, ↓reduceIte, Nat.reduceEqDiff, Nat.reduceAdd, Nat.reduceLeDiff, Nat.reduceMul, Nat.reduceSub, Int.reduceLE, Int.reduceLT, Int.reduceEq, Int.reduceToNat, Int.reducePow, Int.reduceNeg]
    refine ⟨rfl, hK _ ?_⟩; clear hK
    refine bwp_region rfl ?_
    simp -implicitDefEqProofs only [go_sem, ↓reduceIte, Nat.reduceEqDiff, Nat.reduceAdd, Nat.reduceLeDiff, Nat.reduceMul, Nat.reduceSub, Int.reduceLE, Int.reduceLT, Int.reduceEq, Int.reduceToNat, Int.reducePow, Int.reduceNeg]
    refine callK_pure (isReg_pure x.reg) rfl rfl ?_
    cases hb : isRegB x.reg
    · simp -implicitDefEqProofs only [go_sem, ↓reduceIte, Nat.reduceEqDiff, Nat.reduceAdd, Nat.reduceLeDiff, Nat.reduceMul, Nat.reduceSub, Int.reduceLE, Int.reduceLT, Int.reduceEq, Int.reduceToNat, Int.reducePow, Int.reduceNeg]
      exact tail _ _ ⟨x.kind, x.reg, 0, x.a, x.op, x.b, 0⟩ false rfl rfl rfl (by simp [okInsB, h5, hb])
    · simp -implicitDefEqProofs only [go_sem, ↓reduceIte, Nat.reduceEqDiff, Nat.reduceAdd, Nat.reduceLeDiff, Nat.reduceMul, Nat.reduceSub, Int.reduceLE, Int.reduceLT, Int.reduceEq, Int.reduceToNat, Int.reducePow, Int.reduceNeg]
      refine callK_pure (isOp_pure x.a) rfl rfl ?_
      cases hb3 : isOpB x.a
      · simp -implicitDefEqProofs only [go_sem, ↓reduceIte, Nat.reduceEqDiff, Nat.reduceAdd, Nat.reduceLeDiff, Nat.reduceMul, Nat.reduceSub, Int.reduceLE, Int.reduceLT, Int.reduceEq, Int.reduceToNat, Int.reducePow, Int.reduceNeg]
        exact tail _ _ ⟨x.kind, x.reg, 0, x.a, x.op, x.b, 0⟩ false rfl rfl rfl (by simp [okInsB, h5, hb3])
      · simp -implicitDefEqProofs only [go_sem, ↓reduceIte, Nat.reduceEqDiff, Nat.reduceAdd, Nat.reduceLeDiff, Nat.reduceMul, Nat.reduceSub, Int.reduceLE, Int.reduceLT, Int.reduceEq, Int.reduceToNat, Int.reducePow, Int.reduceNeg]
        refine callK_pure (isOp_pure x.b) rfl rfl ?_
        cases hb4 : isOpB x.b
        · simp -implicitDefEqProofs only [go_sem, ↓reduceIte, Nat.reduceEqDiff, Nat.reduceAdd, Nat.reduceLeDiff, Nat.reduceMul, Nat.reduceSub, Int.reduceLE, Int.reduceLT, Int.reduceEq, Int.reduceToNat, Int.reducePow, Int.reduceNeg]
          exact tail _ _ ⟨x.kind, x.reg, 0, x.a, x.op, x.b, 0⟩ false rfl rfl rfl (by simp [okInsB, h5, hb4])
        · by_cases g1 : 0 ≤ x.op
          · by_cases g2 : x.op ≤ 11
            · by_cases g3 : 0 < x.op
              · simp -implicitDefEqProofs only [go_sem, ↓reduceIte, Nat.reduceEqDiff, Nat.reduceAdd, Nat.reduceLeDiff, Nat.reduceMul, Nat.reduceSub, Int.reduceLE, Int.reduceLT, Int.reduceEq, Int.reduceToNat, Int.reducePow, Int.reduceNeg, g1, g2, g3]
                exact tail _ _ ⟨x.kind, x.reg, 0, x.a, x.op, x.b, 0⟩ true rfl rfl rfl (by simp [okInsB, h5, hb, hb3, hb4, g1, g2, g3])
              · simp -implicitDefEqProofs only [go_sem, ↓reduceIte, Nat.reduceEqDiff, Nat.reduceAdd, Nat.reduceLeDiff, Nat.reduceMul, Nat.reduceSub, Int.reduceLE, Int.reduceLT, Int.reduceEq, Int.reduceToNat, Int.reducePow, Int.reduceNeg, g1, g2, g3]
                exact tail _ _ ⟨x.kind, x.reg, 0, x.a, x.op, x.b, 0⟩ (decide (x.b.reg = -1) && decide (x.b.value = 0)) (by simp [fget]) rfl rfl (by simp [okInsB, h5, hb, hb3, hb4, g1, g2, g3])
            · simp -implicitDefEqProofs only [go_sem, ↓reduceIte, Nat.reduceEqDiff, Nat.reduceAdd, Nat.reduceLeDiff, Nat.reduceMul, Nat.reduceSub, Int.reduceLE, Int.reduceLT, Int.reduceEq, Int.reduceToNat, Int.reducePow, Int.reduceNeg, g1, g2]
              exact tail _ _ ⟨x.kind, x.reg, 0, x.a, x.op, x.b, 0⟩ false rfl rfl rfl (by simp [okInsB, h5, g2])
          · simp -implicitDefEqProofs only [go_sem, ↓reduceIte, Nat.reduceEqDiff, Nat.reduceAdd, Nat.reduceLeDiff, Nat.reduceMul, Nat.reduceSub, Int.reduceLE, Int.reduceLT, Int.reduceEq, Int.reduceToNat, Int.reducePow, Int.reduceNeg, g1]
            exact tail _ _ ⟨x.kind, x.reg, 0, x.a, x.op, x.b, 0⟩ false rfl rfl rfl (by simp [okInsB, h5, g1])
  refine bwp_cond false (by simp [ev, fget, h5]) (fun h => nomatch h) (fun _ => ?_)
  refine bwp_seq fun K hK => bwp_region rfl ?_
  simp -implicitDefEqProofs only [go_sem, ↓reduceIte, Nat.reduceEqDiff, Nat.reduceAdd, Nat.reduceLeDiff, Nat.reduceMul, Nat.reduceSub, Int.reduceLE, Int.reduceLT, Int.reduceEq, Int.reduceToNat, Int.reducePow, Int.reduceNeg]
  refine hK _ ?_; clear hK
  by_cases h6 : x.kind = 6
  · refine bwp_cond true (by simp [ev, fget, h6]) (fun _ => ?_) (fun h => nomatch h)
    refine bwp_seq fun K hK => bwp_region_draw rfl rfl ?_
    simp -implicitDefEqProofs only [go_sem, ↓reduceIte, Nat.reduceEqDiff, Nat.reduceAdd, Nat.reduceLeDiff, Nat.reduceMul, Nat.reduceSub, Int.reduceLE, Int.reduceLT, Int.reduceEq, Int.reduceToNat, Int.reducePow, Int.reduceNeg]
    refine ⟨rfl, hK _ ?_⟩; clear hK
    by_cases g1 : 0 ≤ x.n
    · refine bwp_region rfl ?_
      simp -implicitDefEqProofs only [go_sem, ↓reduceIte, Nat.reduceEqDiff, Nat.reduceAdd, Nat.reduceLeDiff, Nat.reduceMul, Nat.reduceSub, Int.reduceLE, Int.reduceLT, Int.reduceEq, Int.reduceToNat, Int.reducePow, Int.reduceNeg, g1]
      refine callK_pure (isOp_pure x.a) rfl rfl ?_
      cases hb3 : isOpB x.a
      · simp -implicitDefEqProofs only [go_sem, ↓reduceIte, Nat.reduceEqDiff, Nat.reduceAdd, Nat.reduceLeDiff, Nat.reduceMul, Nat.reduceSub, Int.reduceLE, Int.reduceLT, Int.reduceEq, Int.reduceToNat, Int.reducePow, Int.reduceNeg]
        exact tail _ _ ⟨x.kind, 0, 0, x.a, 0, x.b, x.n⟩ false rfl rfl rfl (by simp [okInsB, h6, hb3])
      · simp -implicitDefEqProofs only [go_sem, ↓reduceIte, Nat.reduceEqDiff, Nat.reduceAdd, Nat.reduceLeDiff, Nat.reduceMul, Nat.reduceSub, Int.reduceLE, Int.reduceLT, Int.reduceEq, Int.reduceToNat, Int.reducePow, Int.reduceNeg]
        refine callK_pure (isOp_pure x.b) rfl rfl ?_
        simp -implicitDefEqProofs only [go_sem, ↓reduceIte, Nat.reduceEqDiff, Nat.reduceAdd, Nat.reduceLeDiff, Nat.reduceMul, Nat.reduceSub, Int.reduceLE, Int.reduceLT, Int.reduceEq, Int.reduceToNat, Int.reducePow, Int.reduceNeg]
        exact tail _ _ ⟨x.kind, 0, 0, x.a, 0, x.b, x.n⟩ (isOpB x.b) (by simp [fget]) rfl rfl (by simp [okInsB, h6, hb3, g1])
    · refine bwp_region rfl ?_
      simp -implicitDefEqProofs only [go_sem, ↓reduceIte, Nat.reduceEqDiff, Nat.reduceAdd, Nat.reduceLeDiff, Nat.reduceMul, Nat.reduceSub, Int.reduceLE, Int.reduceLT, Int.reduceEq, Int.reduceToNat, Int.reducePow, Int.reduceNeg, g1]
      exact tail _ _ ⟨x.kind, 0, 0, x.a, 0, x.b, x.n⟩ false rfl rfl rfl (by simp [okInsB, h6, g1])
  refine bwp_cond false (by simp [ev, fget, h6]) (fun h => nomatch h) (fun _ => ?_)
  refine bwp_seq fun K hK => bwp_region rfl ?_
  simp -implicitDefEqProofs only [go_sem, ↓reduceIte, Nat.reduceEqDiff, Nat.reduceAdd, Nat.reduceLeDiff, Nat.reduceMul, Nat.reduceSub, Int.reduceLE, Int.reduceLT, Int.reduceEq, Int.reduceToNat, Int.reducePow, Int.reduceNeg]
  refine hK _ ?_; clear hK
  refine bwp_ret ?_
  simp only [go_sem]
  refine aend_ret _ rfl rfl ⟨?_, rfl⟩
  simp [fget, okInsB, h1, h2, h3, h4, h5, h6]

theorem okIns_pure (x : Ins) : Pure Tryd.prog 26 [.agg (x.cells.map .d)] (.d (.bool (okInsB x))) := by
  refine acalls_of Tryd.func26 ac26_ok Tryd.ntmps26 Tryd.results26 rfl ?_
  unfold ac26
  refine bwp_seq fun K hK => bwp_region rfl ?_
  simp -implicitDefEqProofs only [go_sem, ↓reduceIte, Nat.reduceEqDiff, Nat.reduceAdd, Nat.reduceLeDiff, Nat.reduceMul, Nat.reduceSub, Int.reduceLE, Int.reduceLT, Int.reduceEq, Int.reduceToNat, Int.reducePow, Int.reduceNeg, Ins.cells]
  refine hK _ ?_; clear hK
  refine bwp_seq fun K hK => bwp_region rfl ?_
  simp -implicitDefEqProofs only [go_sem, ↓reduceIte, Nat.reduceEqDiff, Nat.reduceAdd, Nat.reduceLeDiff, Nat.reduceMul, Nat.reduceSub, Int.reduceLE, Int.reduceLT, Int.reduceEq, Int.reduceToNat, Int.reducePow, Int.reduceNeg]
  refine callK_pure (fields_pure x) rfl rfl ?_
  simp -implicitDefEqProofs only [go_sem, ↓reduceIte, Nat.reduceEqDiff, Nat.reduceAdd, Nat.reduceLeDiff, Nat.reduceMul, Nat.reduceSub, Int.reduceLE, Int.reduceLT, Int.reduceEq, Int.reduceToNat, Int.reducePow, Int.reduceNeg]
  refine hK _ ?_; clear hK
  refine bwp_ret ?_
  simp only [go_sem]
  refine aend_ret _ rfl rfl ⟨?_, rfl⟩
  rfl

end Go.Proofs.YtgfkgngpganllaaDoor
