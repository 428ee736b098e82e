/- What the test made of numbers comes to, told without a heap: the whole. -/
import Derived.Test.YtgfkgngpganllaaDoorD5
namespace Go.Proofs.YtgfkgngpganllaaDoor
open Go Go.Jq
set_option maxRecDepth 100000
set_option linter.unusedSimpArgs false

set_option maxHeartbeats 4000000 in
theorem small_calls {ls : List Int} {X : DV} (hX : IsInts ls X) {most : Nat} (hmost : most ≤ 1000) :
    ACalls Tryd.prog 8 [.d X, .d (.int .i64 most)] [] fun r m' => (∃ cs, r = .agg (cs.map .d) ∧ IsTest (small ls most) cs) ∧ m' = [] := by
  refine acalls_of Tryd.func8 ac8_ok Tryd.ntmps8 Tryd.results8 rfl ?_
  unfold ac8
  refine bwp_seq fun K hK => bwp_region rfl ?_
  simp -implicitDefEqProofs only [go_sem, ↓reduceIte, Nat.reduceEqDiff, Nat.reduceAdd, Nat.reduceLeDiff, Nat.reduceMul, Nat.reduceSub, Int.reduceLE, Int.reduceLT, Int.reduceEq, Int.reduceToNat, Int.reducePow, Int.reduceNeg]
  refine hK _ ?_; clear hK
  refine bwp_seq fun K hK => bwp_region rfl ?_
  simp -implicitDefEqProofs only [go_sem, ↓reduceIte, Nat.reduceEqDiff, Nat.reduceAdd, Nat.reduceLeDiff, Nat.reduceMul, Nat.reduceSub, Int.reduceLE, Int.reduceLT, Int.reduceEq, Int.reduceToNat, Int.reducePow, Int.reduceNeg]
  refine hK _ ?_; clear hK
  refine bwp_seq fun K hK => bwp_region rfl ?_
  simp -implicitDefEqProofs only [go_sem, ↓reduceIte, Nat.reduceEqDiff, Nat.reduceAdd, Nat.reduceLeDiff, Nat.reduceMul, Nat.reduceSub, Int.reduceLE, Int.reduceLT, Int.reduceEq, Int.reduceToNat, Int.reducePow, Int.reduceNeg]
  refine hK _ ?_; clear hK
  refine bwp_seq fun K hK => bwp_region rfl ?_
  simp -implicitDefEqProofs only [go_sem, ↓reduceIte, Nat.reduceEqDiff, Nat.reduceAdd, Nat.reduceLeDiff, Nat.reduceMul, Nat.reduceSub, Int.reduceLE, Int.reduceLT, Int.reduceEq, Int.reduceToNat, Int.reducePow, Int.reduceNeg]
  refine hK _ ?_; clear hK
  refine bwp_leads (Leads.frz (S' := ⟨[(1, .d (.int .i64 most)), (4, .ptr 0 0), (5, .ptr 1 0), (7, .fn 22 [.ptr 2 0, .dptr [X]])],
    [(0, [.d (.str []), .d .nsl, .d .nsl, .d (.int .i64 0), .d .nsl]), (1, [.d (.str [116]), .d .nsl, .d .nsl, .d (.int .i64 0), .d .nsl]), (2, [.d (.int .i64 (0 : Nat))])], 3⟩) [(1, 0), (2, 1), (3, 2)] [(0, [X])] ⟨?_, ?_, rfl, rfl, ?_⟩) ?_
  · simp [frzT, fget, AV.cv, cvL, zget, pget]
  · simp [frzM, pinv, zget, mget, cvL, AV.cv]
  · simp [zokFrom, mget, cvL, AV.cv]
  have hw2 : ∀ q : Nat, q ≤ 10 → IntKind.i64.wrap ((q : Int) + 2) = ((q + 2 : Nat) : Int) := fun q hq => by rw [wrap_i64 (by omega) (by omega)]; rfl
  have hn : smallN ls ≤ 3 := by unfold smallN; omega
  have hl : smallLocs ls ≤ 10 := by unfold smallLocs; omega
  have hl0 : 0 < smallLocs ls := by unfold smallLocs; omega
  refine bwp_seq fun K hK => bwp_region rfl ?_
  simp -implicitDefEqProofs only [go_sem, ↓reduceIte, Nat.reduceEqDiff, Nat.reduceAdd, Nat.reduceLeDiff, Nat.reduceMul, Nat.reduceSub, Int.reduceLE, Int.reduceLT, Int.reduceEq, Int.reduceToNat, Int.reducePow, Int.reduceNeg]
  refine ⟨rfl, next_callK (a := 0) hX (by omega) rfl ?_⟩
  simp -implicitDefEqProofs only [go_sem, ↓reduceIte, Nat.reduceEqDiff, Nat.reduceAdd, Nat.reduceLeDiff, Nat.reduceMul, Nat.reduceSub, Int.reduceLE, Int.reduceLT, Int.reduceEq, Int.reduceToNat, Int.reducePow, Int.reduceNeg, tm2, hw2 (nxN ls 0 % 2) (by omega)]
  refine hK _ ?_; clear hK
  refine bwp_seq fun K hK => bwp_region rfl ?_
  simp -implicitDefEqProofs only [go_sem, ↓reduceIte, Nat.reduceEqDiff, Nat.reduceAdd, Nat.reduceLeDiff, Nat.reduceMul, Nat.reduceSub, Int.reduceLE, Int.reduceLT, Int.reduceEq, Int.reduceToNat, Int.reducePow, Int.reduceNeg]
  refine ⟨rfl, next_callK (a := 1) hX (by omega) rfl ?_⟩
  simp -implicitDefEqProofs only [go_sem, ↓reduceIte, Nat.reduceEqDiff, Nat.reduceAdd, Nat.reduceLeDiff, Nat.reduceMul, Nat.reduceSub, Int.reduceLE, Int.reduceLT, Int.reduceEq, Int.reduceToNat, Int.reducePow, Int.reduceNeg, tm2, hw2 (nxN ls 1 % 2) (by omega)]
  refine hK _ ?_; clear hK
  refine bwp_seq fun K1 hK1 => ?_
  refine bwp_seq fun K hK => bwp_region rfl ?_
  simp -implicitDefEqProofs only [go_sem, ↓reduceIte, Nat.reduceEqDiff, Nat.reduceAdd, Nat.reduceLeDiff, Nat.reduceMul, Nat.reduceSub, Int.reduceLE, Int.reduceLT, Int.reduceEq, Int.reduceToNat, Int.reducePow, Int.reduceNeg]
  refine ⟨rfl, next_callK (a := 2) hX (by omega) rfl ?_⟩
  simp -implicitDefEqProofs only [go_sem, ↓reduceIte, Nat.reduceEqDiff, Nat.reduceAdd, Nat.reduceLeDiff, Nat.reduceMul, Nat.reduceSub, Int.reduceLE, Int.reduceLT, Int.reduceEq, Int.reduceToNat, Int.reducePow, Int.reduceNeg, tm4]
  refine hK _ ?_; clear hK
  have mid : ∀ (S : St) (Iv : DV), Leads (mbound []) 184 S ⟨[(1, .d (.int .i64 most)), (4, .ptr 0 0), (5, .ptr 1 0), (7, .fn 22 [.ptr 2 0, .dptr [X]]), (8, .d (.int .i64 (smallN ls))), (9, .d (.int .i64 (smallLocs ls)))],
      [(0, [.d (.str []), .d .nsl, .d .nsl, .d (.int .i64 0), .d .nsl]), (1, [.d (.str [116]), .d Iv, .d .nsl, .d (.int .i64 0), .d .nsl]), (2, [.d (.int .i64 (smallAt ls))])], 3⟩ → IsSl Init.cells (smallInits ls) Iv → K1 S := by
    intro S Iv hS hIv
    refine hK1 _ ?_; clear hK1
    refine bwp_leads hS ?_
    refine bwp_leads (Leads.nilCell 1 2 1 rfl rfl rfl rfl) ?_
    refine bwp_seq fun K hK => bwp_region rfl ?_
    simp -implicitDefEqProofs only [go_sem, ↓reduceIte, Nat.reduceEqDiff, Nat.reduceAdd, Nat.reduceLeDiff, Nat.reduceMul, Nat.reduceSub, Int.reduceLE, Int.reduceLT, Int.reduceEq, Int.reduceToNat, Int.reducePow, Int.reduceNeg]
    refine hK _ ?_; clear hK
    refine bwp_seq fun K1 hK1 => ?_
    refine bwp_seq fun K2 hK2 => ?_
    refine bwp_region rfl ?_
    simp -implicitDefEqProofs only [go_sem, ↓reduceIte, Nat.reduceEqDiff, Nat.reduceAdd, Nat.reduceLeDiff, Nat.reduceMul, Nat.reduceSub, Int.reduceLE, Int.reduceLT, Int.reduceEq, Int.reduceToNat, Int.reducePow, Int.reduceNeg]
    refine hK2 _ ?_; clear hK2
    refine bwp_block ?_
    refine bwp_leads (S' := smO X Iv [] (smallN ls) (smallLocs ls) most 0 (smallAt ls) 0) (Leads.ent [(0, 0), (1, 1), (2, 2), (3, 3)] ⟨?_, ?_, rfl, rfl⟩) ?_
    · simp [smO, entT, fget, AV.ren, renL, pget]
    · simp [smO, entM, pinv, mget, mset, renL, AV.ren, pget]
    refine small_threads hX hn hl0 hl hmost (by unfold smallAt; split <;> omega) ?_
    intro ds hds hdl hat mem
    simp -implicitDefEqProofs only [go_sem, ↓reduceIte, Nat.reduceEqDiff, Nat.reduceAdd, Nat.reduceLeDiff, Nat.reduceMul, Nat.reduceSub, Int.reduceLE, Int.reduceLT, Int.reduceEq, Int.reduceToNat, Int.reducePow, Int.reduceNeg]
    refine hK1 _ ?_; clear hK1
    have hts : smallThreads ls (smallLocs ls) most (smallN ls) (smallAt ls) 0 [] = smallTs ls most := rfl
    rw [hts] at hds hat ⊢
    have htk : ds.take (smallN ls) = ds := List.take_of_length_le (by omega)
    refine bwp_leads (S' := smL X Iv ds (smallN ls) (smallTs ls most).1) (Leads.frz [(0, 0), (1, 1), (2, 2)] [(3, ds)] ⟨?_, ?_, rfl, rfl, ?_⟩) ?_
    · simp [smL, smO, frzT, fget, AV.cv, cvL, zget, pget]
    · simp [smL, smO, frzM, pinv, zget, mget, cvL, AV.cv, htk]
    · simp [smO, zokFrom, mget, cvL_d]
    refine small_tail (x := smallC ls most) hX (by omega) rfl hdl ?_
    intro Av hAv
    have hc : ∀ l : List DV, (AV.agg (l.map .d)).ren (pget []) = .agg (l.map .d) := fun l => by simp [AV.ren]
    exact ⟨⟨[.str [116], Iv, .sl (smallN ls) ds, .int .i64 (smallKind (smallC ls most)), Av], rfl, Iv, .sl (smallN ls) ds, Av, rfl, hIv, ⟨ds, ⟨by omega, .inr (by simp [hdl])⟩, hds⟩, hAv⟩, rfl⟩
  by_cases hz : nxN ls 2 % 4 = 0
  · refine bwp_cond true (by simp [ev, fget, hz]) (fun _ => ?_) (fun h => nomatch h)
    refine bwp_region_draw rfl rfl ?_
    simp -implicitDefEqProofs only [go_sem, ↓reduceIte, Nat.reduceEqDiff, Nat.reduceAdd, Nat.reduceLeDiff, Nat.reduceMul, Nat.reduceSub, Int.reduceLE, Int.reduceLT, Int.reduceEq, Int.reduceToNat, Int.reducePow, Int.reduceNeg]
    refine ⟨rfl, next_dCallK (a := 3) hX (by omega) rfl ?_⟩
    simp -implicitDefEqProofs only [go_sem, ↓reduceIte, Nat.reduceEqDiff, Nat.reduceAdd, Nat.reduceLeDiff, Nat.reduceMul, Nat.reduceSub, Int.reduceLE, Int.reduceLT, Int.reduceEq, Int.reduceToNat, Int.reducePow, Int.reduceNeg, tm3]
    refine ⟨rfl, mid _ (.sl 1 [.int .i64 120, .int .i64 (nxN ls 3 % 3 : Nat)]) (Leads.frz [(0, 0), (1, 1), (2, 2)] [(13, [.int .i64 120, .int .i64 (nxN ls 3 % 3 : Nat)])] ⟨?_, ?_, rfl, rfl, ?_⟩) ?_⟩
    · simp [frzT, fget, AV.cv, cvL, zget, pget, smallN, smallLocs]
    · simp [frzM, pinv, zget, mget, cvL, AV.cv, smallAt, hz]
    · simp [zokFrom, mget, cvL, AV.cv]
    · simp [smallInits, hz, IsSl, Init.cells]
  · refine bwp_cond false (by simp [ev, fget]; omega) (fun h => nomatch h) (fun _ => ?_)
    refine bwp_skip ?_
    refine mid _ .nsl (Leads.ent [(0, 0), (1, 1), (2, 2)] ⟨?_, ?_, rfl, rfl⟩) ?_
    · simp [entT, fget, AV.ren, renL, pget, smallN, smallLocs]
    · simp [entM, pinv, mget, renL, AV.ren, smallAt, hz]
    · simp [smallInits, hz, IsSl]

end Go.Proofs.YtgfkgngpganllaaDoor
