/- What the test made of numbers comes to, told without a heap: its threads. -/
import Derived.Test.YtgfkgngpganllaaDoorD2
namespace Go.Proofs.YtgfkgngpganllaaDoor
open Go Go.Jq
set_option maxRecDepth 100000
set_option linter.unusedSimpArgs false

theorem smallIns_len (locs x : Nat) : (smallIns locs x).length ≤ 2 := by
  unfold smallIns
  repeat' split
  all_goals simp

theorem smallMem_le (x : Nat) : smallMem x ≤ 1 := by unfold smallMem; split <;> omega

theorem smallThread_bounds (ls : List Int) (locs most : Nat) : ∀ (k a mem : Nat) (s : List Ins), (smallThread ls locs most k a mem s).1 ≤ a + k ∧ (smallThread ls locs most k a mem s).2.1 ≤ mem + k ∧ (smallThread ls locs most k a mem s).2.2.length ≤ s.length + 2 * k
  | 0, a, mem, s => by simp [smallThread]
  | k + 1, a, mem, s => by
    simp only [smallThread]
    split
    · have h := smallThread_bounds ls locs most k (a + 1) (mem + smallMem (nxN ls a)) (s ++ smallIns locs (nxN ls a))
      have h1 := smallIns_len locs (nxN ls a)
      have h2 := smallMem_le (nxN ls a)
      simp only [List.length_append] at h
      omega
    · simp only; omega

/-- The state in the threads' loop. -/
def smO (X Iv : DV) (ds : List DV) (n locs most i a mem : Nat) : St :=
  ⟨[(1, .d (.int .i64 most)), (4, .ptr 0 0), (5, .ptr 1 0), (7, .fn 22 [.ptr 2 0, .dptr [X]]), (8, .d (.int .i64 n)), (9, .d (.int .i64 locs)), (10, .d (.int .i64 mem)), (11, .d (.int .i64 i))],
    [(0, [.d (.str []), .d .nsl, .d .nsl, .d (.int .i64 0), .d .nsl]), (1, [.d (.str [116]), .d Iv, .sl 3 1 0 i, .d (.int .i64 0), .d .nsl]), (2, [.d (.int .i64 a)]), (3, ds.map .d)], 4⟩

set_option maxHeartbeats 4000000 in
theorem small_threads {ls : List Int} {X Iv : DV} (hX : IsInts ls X) {n locs most : Nat} (hn : n ≤ 3) (hl0 : 0 < locs) (hl : locs ≤ 10) (hmost : most ≤ 1000) {Q : Exit → St → Prop} {a0 : Nat} (ha0 : a0 ≤ 10)
    (hQ : ∀ ds, IsSls Ins.cells (smallThreads ls locs most n a0 0 []).2 ds → ds.length = n → (smallThreads ls locs most n a0 0 []).1 ≤ 100 → ∀ mem, Q (.exit 0) (smO X Iv ds n locs most n (smallThreads ls locs most n a0 0 []).1 mem)) :
    BWP Tryd.prog (mbound []) 184 (.loop ac8L1) (smO X Iv [] n locs most 0 a0 0) Q := by
  refine bwp_loop (fun S => ∃ i a mem ts ds, IsSls Ins.cells ts ds ∧ ts.length = i ∧ i ≤ n ∧ a ≤ 10 + 10 * i ∧ mem ≤ 10 * i ∧ smallThreads ls locs most (n - i) a mem ts = smallThreads ls locs most n a0 0 [] ∧ S = smO X Iv ds n locs most i a mem)
    (fun S => match fget S.t 11 with
      | .d (.int _ i) => n - i.toNat
      | _ => 0) ⟨0, a0, 0, [], [], trivial, rfl, Nat.zero_le _, by omega, by omega, rfl, rfl⟩ ?_
  rintro S ⟨i, a, mem, ts, ds, hds, htl, hi, ha, hme, hrec, rfl⟩
  have hdl : ds.length = i := by rw [hds.length, htl]
  unfold ac8L1
  refine bwp_seq fun K1 hK1 => ?_
  by_cases hlt : i < n
  · have hlt' : (i : Int) < n := by omega
    unfold smO
    refine bwp_seq fun K hK => bwp_region rfl ?_
    simp -implicitDefEqProofs only [go_sem, ↓reduceIte, Nat.reduceEqDiff, Nat.reduceAdd, Nat.reduceLeDiff, Nat.reduceMul, Nat.reduceSub, Int.reduceLE, Int.reduceLT, Int.reduceEq, Int.reduceToNat, Int.reducePow, Int.reduceNeg, hlt']
    refine hK _ ?_; clear hK
    refine bwp_cond true (by simp [ev, fget]) (fun _ => ?_) (fun h => nomatch h)
    refine bwp_skip ?_
    refine hK1 _ ?_; clear hK1
    refine bwp_seq fun K1 hK1 => ?_
    refine bwp_block ?_
    refine bwp_seq fun K hK => bwp_region rfl ?_
    simp -implicitDefEqProofs only [go_sem, ↓reduceIte, Nat.reduceEqDiff, Nat.reduceAdd, Nat.reduceLeDiff, Nat.reduceMul, Nat.reduceSub, Int.reduceLE, Int.reduceLT, Int.reduceEq, Int.reduceToNat, Int.reducePow, Int.reduceNeg]
    refine hK _ ?_; clear hK
    refine bwp_seq fun K2 hK2 => ?_
    refine bwp_seq fun K hK => bwp_region rfl ?_
    simp -implicitDefEqProofs only [go_sem, ↓reduceIte, Nat.reduceEqDiff, Nat.reduceAdd, Nat.reduceLeDiff, Nat.reduceMul, Nat.reduceSub, Int.reduceLE, Int.reduceLT, Int.reduceEq, Int.reduceToNat, Int.reducePow, Int.reduceNeg]
    refine ⟨rfl, next_callK hX (by omega) rfl ?_⟩
    have hk4 : nxN ls a % 3 + 1 ≤ 10 := by omega
    have hw3 : IntKind.i64.wrap (((nxN ls a % 3 : Nat) : Int) + 1) = ((nxN ls a % 3 + 1 : Nat) : Int) := by rw [wrap_i64 (by omega) (by omega)]; rfl
    simp -implicitDefEqProofs only [go_sem, ↓reduceIte, Nat.reduceEqDiff, Nat.reduceAdd, Nat.reduceLeDiff, Nat.reduceMul, Nat.reduceSub, Int.reduceLE, Int.reduceLT, Int.reduceEq, Int.reduceToNat, Int.reducePow, Int.reduceNeg, tm3, hw3]
    refine hK _ ?_; clear hK
    refine bwp_block ?_
    refine bwp_leads (S' := ⟨[(12, .d .nsl), (13, .d (.int .i64 (nxN ls a % 3 + 1 : Nat))), (1, .d (.int .i64 most)), (4, .ptr 0 0), (5, .ptr 1 0), (7, .fn 22 [.ptr 2 0, .dptr [X]]), (8, .d (.int .i64 n)), (9, .d (.int .i64 locs)), (10, .d (.int .i64 mem)), (11, .d (.int .i64 i))],
      [(0, [.d (.str []), .d .nsl, .d .nsl, .d (.int .i64 0), .d .nsl]), (1, [.d (.str [116]), .d Iv, .sl 3 1 0 i, .d (.int .i64 0), .d .nsl]), (2, [.d (.int .i64 (a + 1 : Nat))]), (3, ds.map .d)], 4⟩) (Leads.ent [(0, 0), (1, 1), (2, 2), (3, 3)] ⟨?_, ?_, rfl, rfl⟩) ?_
    · simp [entT, fget, AV.ren, renL, pget]
    · simp [entM, pinv, mget, renL, AV.ren, pget]
    refine bwp_leads (Leads.nil 12 9 rfl rfl) ?_
    refine bwp_leads (S' := smS X Iv ds n locs most i (nxN ls a % 3 + 1) (a + 1) mem []) (Leads.ent [(0, 0), (1, 1), (2, 2), (3, 3), (4, 4)] ⟨?_, ?_, rfl, rfl⟩) ?_
    · simp [smS, smT, entT, fget, AV.ren, renL, pget]
    · simp [smS, smM, entM, pinv, mget, mset, renL, AV.ren, pget]
    refine small_loop hX hl0 hl hmost _ _ _ _ hk4 (by omega) (by omega) (by simp; omega) ?_
    have hb := smallThread_bounds ls locs most (nxN ls a % 3 + 1) (a + 1) mem []
    have hrec2 : smallThreads ls locs most (n - i) a mem ts = smallThreads ls locs most (n - (i + 1)) (smallThread ls locs most (nxN ls a % 3 + 1) (a + 1) mem []).1 (smallThread ls locs most (nxN ls a % 3 + 1) (a + 1) mem []).2.1 (ts ++ [(smallThread ls locs most (nxN ls a % 3 + 1) (a + 1) mem []).2.2]) := by
      rw [show n - i = (n - (i + 1)) + 1 by omega]
      rfl
    generalize smallThread ls locs most (nxN ls a % 3 + 1) (a + 1) mem [] = r at hb hrec2
    obtain ⟨a', mem', s'⟩ := r
    simp only [List.length_nil, Nat.zero_add] at hb
    simp -implicitDefEqProofs only [go_sem, ↓reduceIte, Nat.reduceEqDiff, Nat.reduceAdd, Nat.reduceLeDiff, Nat.reduceMul, Nat.reduceSub, Int.reduceLE, Int.reduceLT, Int.reduceEq, Int.reduceToNat, Int.reducePow, Int.reduceNeg]
    refine hK2 _ ?_; clear hK2
    have htk : (s'.flatMap Ins.cells).take (s'.length * 9) = s'.flatMap Ins.cells := List.take_of_length_le (by rw [insLen]; omega)
    refine bwp_leads (Leads.frz (S' := ⟨[(12, .d (.sl s'.length (s'.flatMap Ins.cells))), (1, .d (.int .i64 most)), (4, .ptr 0 0), (5, .ptr 1 0), (7, .fn 22 [.ptr 2 0, .dptr [X]]), (8, .d (.int .i64 n)), (9, .d (.int .i64 locs)), (10, .d (.int .i64 mem')), (11, .d (.int .i64 i))],
      [(0, [.d (.str []), .d .nsl, .d .nsl, .d (.int .i64 0), .d .nsl]), (1, [.d (.str [116]), .d Iv, .sl 3 1 0 i, .d (.int .i64 0), .d .nsl]), (2, [.d (.int .i64 a')]), (3, ds.map .d)], 4⟩) [(0, 0), (1, 1), (2, 2), (3, 3)] [(4, s'.flatMap Ins.cells)] ⟨?_, ?_, rfl, rfl, ?_⟩) ?_
    · simp [smE, smT, frzT, fget, AV.cv, cvL, zget, pget, htk]
    · simp [smE, smM, frzM, pinv, zget, mget, cvL, AV.cv, pget, cvL_d]
    · simp [smE, smM, zokFrom, mget, cvL_d]
    have hi24 : (i + 1) * 24 ≤ 140737488351232 := by omega
    refine bwp_region rfl ?_
    simp -implicitDefEqProofs only [go_sem, ↓reduceIte, Nat.reduceEqDiff, Nat.reduceAdd, Nat.reduceLeDiff, Nat.reduceMul, Nat.reduceSub, Int.reduceLE, Int.reduceLT, Int.reduceEq, Int.reduceToNat, Int.reducePow, Int.reduceNeg, List.length_append, hdl, hi24]
    refine hK1 _ ?_; clear hK1
    have hwi : IntKind.i64.wrap ((i : Int) + 1) = ((i + 1 : Nat) : Int) := by rw [wrap_i64 (by omega) (by omega)]; rfl
    refine bwp_region rfl ?_
    simp -implicitDefEqProofs only [go_sem, ↓reduceIte, Nat.reduceEqDiff, Nat.reduceAdd, Nat.reduceLeDiff, Nat.reduceMul, Nat.reduceSub, Int.reduceLE, Int.reduceLT, Int.reduceEq, Int.reduceToNat, Int.reducePow, Int.reduceNeg, hwi]
    refine ⟨smO X Iv (ds ++ [.sl s'.length (s'.flatMap Ins.cells)]) n locs most (i + 1) a' mem', Leads.ent [(0, 0), (1, 1), (2, 2), (5, 3)] ⟨?_, ?_, rfl, rfl⟩, ⟨i + 1, a', mem', ts ++ [s'], _, hds.append ⟨by omega, .inr rfl⟩, by simp [htl], by omega, by omega, by omega, hrec2.symm.trans hrec, rfl⟩, ?_⟩
    · simp [smO, entT, fget, AV.ren, renL, pget]
    · simp [smO, entM, pinv, mget, renL, AV.ren, pget, renL_append]
    · simp only [smO, fget, ↓reduceIte, Nat.reduceEqDiff, Int.toNat_natCast]
      omega
  · have hlt' : ¬ (i : Int) < n := by omega
    have hin : i = n := by omega
    unfold smO
    refine bwp_seq fun K hK => bwp_region rfl ?_
    simp -implicitDefEqProofs only [go_sem, ↓reduceIte, Nat.reduceEqDiff, Nat.reduceAdd, Nat.reduceLeDiff, Nat.reduceMul, Nat.reduceSub, Int.reduceLE, Int.reduceLT, Int.reduceEq, Int.reduceToNat, Int.reducePow, Int.reduceNeg, hlt']
    refine hK _ ?_; clear hK
    refine bwp_cond false (by simp [ev, fget]) (fun h => nomatch h) (fun _ => ?_)
    subst hin
    refine bwp_leads (S' := smO X Iv ds i locs most i a mem) (Leads.ent [(0, 0), (1, 1), (2, 2), (3, 3)] ⟨?_, ?_, rfl, rfl⟩) (bwp_exit ?_)
    · simp [smO, entT, fget, AV.ren, renL, pget]
    · simp [smO, entM, pinv, mget, renL, AV.ren, pget]
    · rw [Nat.sub_self] at hrec
      simp only [smallThreads] at hrec
      simp -implicitDefEqProofs only [go_sem, ↓reduceIte, Nat.reduceEqDiff, Nat.reduceAdd, Nat.reduceLeDiff, Nat.reduceMul, Nat.reduceSub, Int.reduceLE, Int.reduceLT, Int.reduceEq, Int.reduceToNat, Int.reducePow, Int.reduceNeg]
      rw [← hrec] at hQ
      exact hQ ds hds hdl (by simp only; omega) mem

end Go.Proofs.YtgfkgngpganllaaDoor
