/- WellLocs comes to true, whatever it is given. -/
import Derived.Test.YtjfghjakpjfgpaaG10
namespace Go.Proofs.Ytjfghjakpjfgpaa
open Go Go.Jq
set_option maxRecDepth 100000
set_option linter.unusedSimpArgs false

theorem wellLocsLaw_pure {a b c : List UInt8} {A B C : DV} (hA : IsBs a A) (hB : IsBs b B) (hC : IsBs c C) : Pure Try.prog 5 [.d A, .d B, .d C] (.d (.bool true)) := by
  have l1 : (a.take 10).length ≤ 10 := by rw [List.length_take]; omega
  have l2 : (b.take 10).length ≤ 10 := by rw [List.length_take]; omega
  have l3 : (c.take 8).length ≤ 8 := by rw [List.length_take]; omega
  refine acalls_of Try.func5 ac5_ok Try.ntmps5 Try.results5 rfl ?_
  unfold ac5
  refine bwp_seq fun K hK => bwp_region rfl ?_
  simp -implicitDefEqProofs only [go_sem, ↓reduceIte, Nat.reduceEqDiff, Nat.reduceAdd, Nat.reduceLeDiff, Nat.reduceMul, Nat.reduceSub, Int.reduceLE, Int.reduceLT, Int.reduceEq, Int.reduceToNat, Int.reducePow, Int.reduceNeg]
  refine hK _ ?_; clear hK
  refine bwp_seq fun K hK => bwp_region rfl ?_
  simp -implicitDefEqProofs only [go_sem, ↓reduceIte, Nat.reduceEqDiff, Nat.reduceAdd, Nat.reduceLeDiff, Nat.reduceMul, Nat.reduceSub, Int.reduceLE, Int.reduceLT, Int.reduceEq, Int.reduceToNat, Int.reducePow, Int.reduceNeg]
  refine hK _ ?_; clear hK
  refine bwp_seq fun K hK => bwp_region rfl ?_
  simp -implicitDefEqProofs only [go_sem, ↓reduceIte, Nat.reduceEqDiff, Nat.reduceAdd, Nat.reduceLeDiff, Nat.reduceMul, Nat.reduceSub, Int.reduceLE, Int.reduceLT, Int.reduceEq, Int.reduceToNat, Int.reducePow, Int.reduceNeg]
  refine hK _ ?_; clear hK
  refine bwp_leads (S' := ⟨lwF A B C [], [(0, [.d .nsl]), (1, [.d (.str [110]), .d .nsl, .sl 0 1 0 1, .d (.int .i64 0), .d .nsl]), (2, bcells noLocs)], 3⟩) (Leads.ent [(0, 0), (1, 1), (2, 2)] ⟨by simp [entT, fget, AV.ren, renL, pget, lwF, bcells, noLocs], by simp [entM, pinv, mget, mset, renL, AV.ren, pget, renL_append, -List.map_map, lwF, bcells, noLocs], rfl, rfl⟩) ?_
  refine bwp_leads (Leads.nilCell 1 1 2 rfl rfl rfl rfl) ?_
  unfold lwF
  refine bwp_seq fun K1 hK1 => ?_
  refine bwp_seq fun K2 hK2 => ?_
  refine bwp_region rfl ?_
  simp -implicitDefEqProofs only [go_sem, ↓reduceIte, Nat.reduceEqDiff, Nat.reduceAdd, Nat.reduceLeDiff, Nat.reduceMul, Nat.reduceSub, Int.reduceLE, Int.reduceLT, Int.reduceEq, Int.reduceToNat, Int.reducePow, Int.reduceNeg]
  refine hK2 _ ?_; clear hK2
  refine bwp_block ?_
  refine bwp_leads (S' := lwA A B C [] noLocs 0) (Leads.ent [(0, 0), (1, 1), (2, 2), (3, 3)] ⟨by simp [entT, fget, AV.ren, renL, pget, lwA, lwF], by simp [entM, pinv, mget, mset, renL, AV.ren, pget, renL_append, -List.map_map, lwA, lwF], rfl, rfl⟩) ?_
  refine lw_a hA noLocs_len ?_
  generalize a.take 10 = a at *
  simp -implicitDefEqProofs only [go_sem, ↓reduceIte, Nat.reduceEqDiff, Nat.reduceAdd, Nat.reduceLeDiff, Nat.reduceMul, Nat.reduceSub, Int.reduceLE, Int.reduceLT, Int.reduceEq, Int.reduceToNat, Int.reducePow, Int.reduceNeg]
  refine hK1 _ ?_; clear hK1
  have t1 : ((a.map wlInit).flatMap Init.cells).take (a.length * 2) = (a.map wlInit).flatMap Init.cells := List.take_of_length_le (by rw [flat_len init_len, List.length_map]; exact Nat.le_refl _)
  have hI : IsSl Init.cells (a.map wlInit) (.sl a.length ((a.map wlInit).flatMap Init.cells)) := ⟨by rw [List.length_map]; omega, .inr (by rw [List.length_map])⟩
  have hth1 : (a.foldl setLoc noLocs).length = 26 := by rw [setLocs_len, noLocs_len]
  unfold lwA
  generalize (a.map wlInit).flatMap Init.cells = c1 at t1 hI
  generalize hth1e : a.foldl setLoc noLocs = th1 at *
  refine bwp_leads (S' := ⟨lwF A B C [], [(0, [.d .nsl]), (1, [.d (.str [110]), .d (.sl a.length c1), .sl 0 1 0 1, .d (.int .i64 0), .d .nsl]), (2, bcells th1)], 3⟩) (Leads.frz [(0, 0), (1, 1), (2, 2)] [(3, c1)] ⟨?_, ?_, rfl, rfl, ?_⟩) ?_
  · simp [lwF, frzT, fget, AV.cv, cvL, zget, pget]
  · simp [frzM, pinv, zget, mget, cvL, AV.cv, pget, t1]
  · simp [zokFrom, mget, cvL_d]
  generalize DV.sl a.length c1 = I at hI
  refine bwp_leads (Leads.nilCell 0 0 9 rfl rfl rfl rfl) ?_
  unfold lwF
  refine bwp_seq fun K1 hK1 => ?_
  refine bwp_seq fun K2 hK2 => ?_
  refine bwp_region rfl ?_
  simp -implicitDefEqProofs only [go_sem, ↓reduceIte, Nat.reduceEqDiff, Nat.reduceAdd, Nat.reduceLeDiff, Nat.reduceMul, Nat.reduceSub, Int.reduceLE, Int.reduceLT, Int.reduceEq, Int.reduceToNat, Int.reducePow, Int.reduceNeg]
  refine hK2 _ ?_; clear hK2
  refine bwp_block ?_
  refine bwp_leads (S' := lwB A B C I [] th1 0) (Leads.ent [(0, 0), (1, 1), (2, 2), (3, 3)] ⟨by simp [entT, fget, AV.ren, renL, pget, lwB, lwF], by simp [entM, pinv, mget, mset, renL, AV.ren, pget, renL_append, -List.map_map, lwB, lwF], rfl, rfl⟩) ?_
  refine lw_b hB hth1 ?_
  generalize b.take 10 = b at *
  simp -implicitDefEqProofs only [go_sem, ↓reduceIte, Nat.reduceEqDiff, Nat.reduceAdd, Nat.reduceLeDiff, Nat.reduceMul, Nat.reduceSub, Int.reduceLE, Int.reduceLT, Int.reduceEq, Int.reduceToNat, Int.reducePow, Int.reduceNeg]
  refine hK1 _ ?_; clear hK1
  have t2 : ((b.map wlIns).flatMap Ins.cells).take (b.length * 9) = (b.map wlIns).flatMap Ins.cells := List.take_of_length_le (by rw [flat_len ins_len, List.length_map]; exact Nat.le_refl _)
  have hT : IsSl2 Ins.cells [b.map wlIns] (.sl 1 [.sl b.length ((b.map wlIns).flatMap Ins.cells)]) := ⟨[.sl b.length ((b.map wlIns).flatMap Ins.cells)], ⟨by simp, .inr rfl⟩, ⟨by rw [List.length_map]; omega, .inr (by rw [List.length_map])⟩, trivial⟩
  have hth2 : (b.foldl setLoc th1).length = 26 := by rw [setLocs_len, hth1]
  unfold lwB
  generalize (b.map wlIns).flatMap Ins.cells = c2 at t2 hT
  generalize hth2e : b.foldl setLoc th1 = th2 at *
  refine bwp_leads (S' := ⟨lwG A B C [], [(0, [.d (.str [110]), .d I, .d (.sl 1 [.sl b.length c2]), .d (.int .i64 0), .d .nsl]), (1, bcells th2)], 2⟩) (Leads.frz [(1, 0), (2, 1)] [(3, c2), (0, [.sl b.length c2])] ⟨?_, ?_, rfl, rfl, ?_⟩) ?_
  · simp [lwF, lwG, frzT, fget, AV.cv, cvL, zget, pget]
  · simp [frzM, pinv, zget, mget, cvL, AV.cv, pget]
  · simp [zokFrom, mget, cvL, AV.cv, zget, cvL_d, t2]
  generalize DV.sl 1 [.sl b.length c2] = T at hT
  refine bwp_leads (Leads.nilCell 0 4 1 rfl rfl rfl rfl) ?_
  unfold lwG
  refine bwp_seq fun K1 hK1 => ?_
  refine bwp_seq fun K2 hK2 => ?_
  refine bwp_region rfl ?_
  simp -implicitDefEqProofs only [go_sem, ↓reduceIte, Nat.reduceEqDiff, Nat.reduceAdd, Nat.reduceLeDiff, Nat.reduceMul, Nat.reduceSub, Int.reduceLE, Int.reduceLT, Int.reduceEq, Int.reduceToNat, Int.reducePow, Int.reduceNeg]
  refine hK2 _ ?_; clear hK2
  refine bwp_block ?_
  refine bwp_leads (S' := lwC A B C I T [] th2 0) (Leads.ent [(0, 0), (1, 1), (2, 2)] ⟨by simp [entT, fget, AV.ren, renL, pget, lwC, lwG, wlKind], by simp [entM, pinv, mget, mset, renL, AV.ren, pget, renL_append, -List.map_map, lwC, lwG, wlKind], rfl, rfl⟩) ?_
  refine lw_c hC hth2 ?_
  generalize c.take 8 = c at *
  intro ds hds hdl
  simp -implicitDefEqProofs only [go_sem, ↓reduceIte, Nat.reduceEqDiff, Nat.reduceAdd, Nat.reduceLeDiff, Nat.reduceMul, Nat.reduceSub, Int.reduceLE, Int.reduceLT, Int.reduceEq, Int.reduceToNat, Int.reducePow, Int.reduceNeg]
  refine hK1 _ ?_; clear hK1
  have t3 : ds.take c.length = ds := List.take_of_length_le (by omega)
  have hR : IsSl2 Atom.cells (c.map fun x => [wlAtom x]) (.sl c.length ds) := ⟨ds, ⟨by omega, .inr (by simp [hdl])⟩, hds⟩
  have hth3 : (c.foldl setLoc th2).length = 26 := by rw [setLocs_len, hth2]
  unfold lwC
  generalize hth3e : c.foldl setLoc th2 = th3 at *
  have hthe : wlThere a b c = th3 := by unfold wlThere; rw [hth1e, hth2e, hth3e]
  refine bwp_leads (S' := ⟨lwG A B C [], [(0, [.d (.str [110]), .d I, .d T, .d (.int .i64 (wlKind c.length)), .d (.sl c.length ds)]), (1, bcells th3)], 2⟩) (Leads.frz [(0, 0), (1, 1)] [(2, ds)] ⟨?_, ?_, rfl, rfl, ?_⟩) ?_
  · simp [lwG, frzT, fget, AV.cv, cvL, zget, pget]
  · simp [frzM, pinv, zget, mget, cvL, AV.cv, pget, t3]
  · simp [zokFrom, mget, cvL_d]
  generalize DV.sl c.length ds = R at hR
  have hTest : IsTest (wlTest a b c) [.str [110], I, T, .int .i64 (wlKind c.length), R] := ⟨I, T, R, rfl, hI, hT, hR⟩
  have hck : 4 < (thLets th3 26).length → checkW (wlTest a b c) = 8 := fun h => wl_big a b c (by rw [hthe]; exact h)
  have hwl : wellLocs (wlTest a b c) = thLets th3 26 := by rw [wl_locs, hthe]
  have hnm : (wlTest a b c).name.length ≤ 9223372036854775807 := by simp [wlTest]
  have hthl : (wlTest a b c).threads.length ≤ 1000000 := by simp [wlTest]
  generalize wlKind c.length = kd at hTest
  generalize wlTest a b c = t at *
  unfold lwG
  refine bwp_seq fun K hK => bwp_region rfl ?_
  simp -implicitDefEqProofs only [go_sem, ↓reduceIte, Nat.reduceEqDiff, Nat.reduceAdd, Nat.reduceLeDiff, Nat.reduceMul, Nat.reduceSub, Int.reduceLE, Int.reduceLT, Int.reduceEq, Int.reduceToNat, Int.reducePow, Int.reduceNeg]
  refine hK _ ?_; clear hK
  refine bwp_leads (Leads.nil 12 1 rfl rfl) ?_
  refine bwp_seq fun K1 hK1 => ?_
  refine bwp_seq fun K2 hK2 => ?_
  refine bwp_region rfl ?_
  simp -implicitDefEqProofs only [go_sem, ↓reduceIte, Nat.reduceEqDiff, Nat.reduceAdd, Nat.reduceLeDiff, Nat.reduceMul, Nat.reduceSub, Int.reduceLE, Int.reduceLT, Int.reduceEq, Int.reduceToNat, Int.reducePow, Int.reduceNeg]
  refine hK2 _ ?_; clear hK2
  refine bwp_block ?_
  refine bwp_leads (S' := lwO A B C [.str [110], I, T, .int .i64 kd, R] th3 0) (Leads.ent [(0, 0), (1, 1), (2, 2)] ⟨by simp [entT, fget, AV.ren, renL, pget, lwO, lwG, thLets_zero], by simp [entM, pinv, mget, mset, renL, AV.ren, pget, renL_append, -List.map_map, lwO, lwG, thLets_zero], rfl, rfl⟩) ?_
  refine lw_o hth3 ?_
  simp -implicitDefEqProofs only [go_sem, ↓reduceIte, Nat.reduceEqDiff, Nat.reduceAdd, Nat.reduceLeDiff, Nat.reduceMul, Nat.reduceSub, Int.reduceLE, Int.reduceLT, Int.reduceEq, Int.reduceToNat, Int.reducePow, Int.reduceNeg]
  refine hK1 _ ?_; clear hK1
  unfold lwO
  have hwl26 := thLets_len th3 26
  generalize thLets th3 26 = want at *
  have t4 : (want.map byteD).take want.length = want.map byteD := List.take_of_length_le (by simp)
  have hcb := cellBytes_all want
  have hbd : bytesD want = .sl want.length (want.map byteD) := rfl
  have hel : (want.map byteD).length = want.length := by simp
  have hcb' : cellBytes ((want.map byteD).map .d) = some want := hcb
  generalize want.map byteD = wc at *
  refine bwp_leads (S' := ⟨lwG A B C [(12, .d (.sl want.length wc))], [(0, [.d (.str [110]), .d I, .d T, .d (.int .i64 kd), .d R]), (1, bcells th3)], 2⟩) (Leads.frz [(0, 0), (1, 1)] [(2, wc)] ⟨?_, ?_, rfl, rfl, ?_⟩) ?_
  · simp [lwG, frzT, fget, AV.cv, cvL, zget, pget, t4]
  · simp [frzM, pinv, zget, mget, cvL, AV.cv, pget]
  · simp [zokFrom, mget, cvL_d]
  unfold lwG
  refine bwp_seq fun K hK => bwp_region rfl ?_
  simp -implicitDefEqProofs only [go_sem, ↓reduceIte, Nat.reduceEqDiff, Nat.reduceAdd, Nat.reduceLeDiff, Nat.reduceMul, Nat.reduceSub, Int.reduceLE, Int.reduceLT, Int.reduceEq, Int.reduceToNat, Int.reducePow, Int.reduceNeg]
  refine callK_pure (check_pure hTest hnm hthl) rfl rfl ?_
  simp -implicitDefEqProofs only [go_sem, ↓reduceIte, Nat.reduceEqDiff, Nat.reduceAdd, Nat.reduceLeDiff, Nat.reduceMul, Nat.reduceSub, Int.reduceLE, Int.reduceLT, Int.reduceEq, Int.reduceToNat, Int.reducePow, Int.reduceNeg]
  refine hK _ ?_; clear hK
  generalize hce : checkW t = e at hck
  refine bwp_seq fun K hK => bwp_region_draw rfl rfl ?_
  simp -implicitDefEqProofs only [go_sem, ↓reduceIte, Nat.reduceEqDiff, Nat.reduceAdd, Nat.reduceLeDiff, Nat.reduceMul, Nat.reduceSub, Int.reduceLE, Int.reduceLT, Int.reduceEq, Int.reduceToNat, Int.reducePow, Int.reduceNeg]
  refine dCallK_pure (wellLocs_pure hTest) rfl rfl ?_
  rw [hwl, hbd]
  by_cases h4 : want.length ≤ 4
  · have h4' : (want.length : Int) ≤ 4 := by omega
    by_cases he : e = 0
    · simp -implicitDefEqProofs only [go_sem, ↓reduceIte, Nat.reduceEqDiff, Nat.reduceAdd, Nat.reduceLeDiff, Nat.reduceMul, Nat.reduceSub, Int.reduceLE, Int.reduceLT, Int.reduceEq, Int.reduceToNat, Int.reducePow, Int.reduceNeg, hel, hcb', h4', he]
      refine dCallK_pure awake5_pure rfl rfl ?_
      simp -implicitDefEqProofs only [go_sem, ↓reduceIte, Nat.reduceEqDiff, Nat.reduceAdd, Nat.reduceLeDiff, Nat.reduceMul, Nat.reduceSub, Int.reduceLE, Int.reduceLT, Int.reduceEq, Int.reduceToNat, Int.reducePow, Int.reduceNeg]
      refine ⟨rfl, hK _ ?_⟩; clear hK
      refine bwp_ret ?_
      simp only [go_sem]
      refine aend_ret _ rfl rfl ⟨?_, rfl⟩
      rfl
    · simp -implicitDefEqProofs only [go_sem, ↓reduceIte, Nat.reduceEqDiff, Nat.reduceAdd, Nat.reduceLeDiff, Nat.reduceMul, Nat.reduceSub, Int.reduceLE, Int.reduceLT, Int.reduceEq, Int.reduceToNat, Int.reducePow, Int.reduceNeg, hel, hcb', h4', he]
      refine dCallK_pure awake5_pure rfl rfl ?_
      simp -implicitDefEqProofs only [go_sem, ↓reduceIte, Nat.reduceEqDiff, Nat.reduceAdd, Nat.reduceLeDiff, Nat.reduceMul, Nat.reduceSub, Int.reduceLE, Int.reduceLT, Int.reduceEq, Int.reduceToNat, Int.reducePow, Int.reduceNeg]
      refine ⟨rfl, hK _ ?_⟩; clear hK
      refine bwp_ret ?_
      simp only [go_sem]
      refine aend_ret _ rfl rfl ⟨?_, rfl⟩
      rfl
  · have h4' : ¬ (want.length : Int) ≤ 4 := by omega
    have he := hck (by omega)
    subst he
    simp -implicitDefEqProofs only [go_sem, ↓reduceIte, Nat.reduceEqDiff, Nat.reduceAdd, Nat.reduceLeDiff, Nat.reduceMul, Nat.reduceSub, Int.reduceLE, Int.reduceLT, Int.reduceEq, Int.reduceToNat, Int.reducePow, Int.reduceNeg, hel, hcb', h4']
    refine dCallK_pure awake5_pure rfl rfl ?_
    simp -implicitDefEqProofs only [go_sem, ↓reduceIte, Nat.reduceEqDiff, Nat.reduceAdd, Nat.reduceLeDiff, Nat.reduceMul, Nat.reduceSub, Int.reduceLE, Int.reduceLT, Int.reduceEq, Int.reduceToNat, Int.reducePow, Int.reduceNeg]
    refine ⟨rfl, hK _ ?_⟩; clear hK
    refine bwp_ret ?_
    simp only [go_sem]
    refine aend_ret _ rfl rfl ⟨?_, rfl⟩
    rfl

end Go.Proofs.Ytjfghjakpjfgpaa
