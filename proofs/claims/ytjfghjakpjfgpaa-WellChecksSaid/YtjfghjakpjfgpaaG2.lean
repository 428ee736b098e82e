/- WellShort comes to true, whatever it is given. -/
import Derived.Test.YtjfghjakpjfgpaaG1
namespace Go.Proofs.Ytjfghjakpjfgpaa
open Go Go.Jq
set_option maxRecDepth 100000
set_option linter.unusedSimpArgs false

theorem isSl2_nil {α : Type} {enc : α → List DV} : IsSl2 enc ([] : List (List α)) .nsl := ⟨[], ⟨by simp, .inl ⟨rfl, rfl⟩⟩, trivial⟩

/-- The state in WellShort: the test's five cells. -/
def wsS (I T : DV) : St := ⟨[(3, .ptr 0 0), (2, .d (.bool false))], [(0, [.d (.str [116]), .d I, .d T, .d (.int .i64 0), .d .nsl])], 1⟩

theorem wellShort_pure {ls : List Int} {X : DV} (hX : IsInts ls X) : Pure Try.prog 6 [.d X] (.d (.bool true)) := by
  refine acalls_of Try.func6 ac6_ok Try.ntmps6 Try.results6 rfl ?_
  unfold ac6
  refine bwp_seq fun K hK => bwp_region rfl ?_
  simp -implicitDefEqProofs only [go_sem, ↓reduceIte, Nat.reduceEqDiff, Nat.reduceAdd, Nat.reduceLeDiff, Nat.reduceMul, Nat.reduceSub, Int.reduceLE, Int.reduceLT, Int.reduceEq, Int.reduceToNat, Int.reducePow, Int.reduceNeg]
  refine hK _ ?_; clear hK
  refine bwp_seq fun K hK => bwp_region rfl ?_
  simp -implicitDefEqProofs only [go_sem, ↓reduceIte, Nat.reduceEqDiff, Nat.reduceAdd, Nat.reduceLeDiff, Nat.reduceMul, Nat.reduceSub, Int.reduceLE, Int.reduceLT, Int.reduceEq, Int.reduceToNat, Int.reducePow, Int.reduceNeg]
  refine callK_pureQ (small_calls hX (most := 12) (by omega)) rfl (fun v ⟨cs, h, _⟩ => by subst h; exact inL_data cs) ?_
  rintro v ⟨cs, rfl, hT⟩
  obtain ⟨I, T, A, rfl, hI, hTh, hA⟩ := hT
  simp -implicitDefEqProofs only [go_sem, ↓reduceIte, Nat.reduceEqDiff, Nat.reduceAdd, Nat.reduceLeDiff, Nat.reduceMul, Nat.reduceSub, Int.reduceLE, Int.reduceLT, Int.reduceEq, Int.reduceToNat, Int.reducePow, Int.reduceNeg]
  refine hK _ ?_; clear hK
  have hG := small_goodTest ls 12
  have hn := small_len ls 12
  have hn3 := smallN_le ls
  have hn2 : 2 ≤ smallN ls := by unfold smallN; omega
  refine bwp_seq fun K hK => bwp_region rfl ?_
  simp -implicitDefEqProofs only [go_sem, ↓reduceIte, Nat.reduceEqDiff, Nat.reduceAdd, Nat.reduceLeDiff, Nat.reduceMul, Nat.reduceSub, Int.reduceLE, Int.reduceLT, Int.reduceEq, Int.reduceToNat, Int.reducePow, Int.reduceNeg]
  refine hK _ ?_; clear hK
  have hG1 : GoodTest ⟨[116], (small ls 12).inits, (small ls 12).threads, 0, []⟩ := ⟨hG.name, hG.short, hG.threads, hG.inits, hG.once, rfl, by simp, by simp, by simp⟩
  generalize (small ls 12).inits = inits at hI hG1
  generalize (small ls 12).threads = threads at hTh hG1 hn
  have hnm : (small ls 12).name = [116] := rfl
  rw [hnm]
  refine bwp_leads (S' := wsS I T) (Leads.ent [(0, 0)] ⟨by simp [entT, fget, AV.ren, renL, pget, wsS], by simp [entM, pinv, mget, mset, renL, AV.ren, pget, renL_append, -List.map_map, wsS], rfl, rfl⟩) ?_
  have hT1 : IsTest ⟨[116], inits, threads, 0, []⟩ [.str [116], I, T, .int .i64 0, .nsl] := ⟨I, T, .nsl, rfl, hI, hTh, isSl2_nil⟩
  have hc1 : checkW ⟨[116], inits, threads, 0, []⟩ = 0 := by
    rw [hG1.check (by simp only; omega)]
    have : ¬ threads.length = 0 := by omega
    simp [this]
  unfold wsS
  refine bwp_seq fun K1 hK1 => ?_
  refine bwp_seq fun K hK => bwp_region rfl ?_
  simp -implicitDefEqProofs only [go_sem, ↓reduceIte, Nat.reduceEqDiff, Nat.reduceAdd, Nat.reduceLeDiff, Nat.reduceMul, Nat.reduceSub, Int.reduceLE, Int.reduceLT, Int.reduceEq, Int.reduceToNat, Int.reducePow, Int.reduceNeg]
  refine callK_pure (check_pure hT1 (by simp) (by simp only; omega)) rfl rfl ?_
  rw [hc1]
  simp -implicitDefEqProofs only [go_sem, ↓reduceIte, Nat.reduceEqDiff, Nat.reduceAdd, Nat.reduceLeDiff, Nat.reduceMul, Nat.reduceSub, Int.reduceLE, Int.reduceLT, Int.reduceEq, Int.reduceToNat, Int.reducePow, Int.reduceNeg]
  refine hK _ ?_; clear hK
  refine bwp_cond false (by simp [ev, fget]) (fun h => nomatch h) (fun _ => ?_)
  refine bwp_skip ?_
  refine hK1 _ ?_; clear hK1
  have hTl := hTh.len
  obtain ⟨T', hTe, hT'⟩ := hTh.take (threads.length - 1) (by omega)
  have hw : IntKind.i64.wrap ((threads.length : Int) - 1) = ((threads.length - 1 : Nat) : Int) := by rw [wrap_i64 (by omega) (by omega)]; omega
  simp -implicitDefEqProofs only [go_sem, ↓reduceIte, Nat.reduceEqDiff, Nat.reduceAdd, Nat.reduceLeDiff, Nat.reduceMul, Nat.reduceSub, Int.reduceLE, Int.reduceLT, Int.reduceEq, Int.reduceToNat, Int.reducePow, Int.reduceNeg] at hTe
  refine bwp_seq fun K hK => bwp_region rfl ?_
  simp -implicitDefEqProofs only [go_sem, ↓reduceIte, Nat.reduceEqDiff, Nat.reduceAdd, Nat.reduceLeDiff, Nat.reduceMul, Nat.reduceSub, Int.reduceLE, Int.reduceLT, Int.reduceEq, Int.reduceToNat, Int.reducePow, Int.reduceNeg, hTl, hw, Int.natCast_nonneg, Int.toNat_natCast, hTe]
  refine hK _ ?_; clear hK
  have hG2 : ∀ l ∈ threads.take (threads.length - 1), GoodThread l := fun l hl => hG1.threads l (List.mem_of_mem_take hl)
  have hl2 : (threads.take (threads.length - 1)).length = threads.length - 1 := by rw [List.length_take]; omega
  generalize threads.take (threads.length - 1) = th2 at hT' hG2 hl2
  have hl2' : th2.length = 1 ∨ th2.length = 2 := by omega
  refine bwp_seq fun K hK => bwp_region rfl ?_
  simp -implicitDefEqProofs only [go_sem, ↓reduceIte, Nat.reduceEqDiff, Nat.reduceAdd, Nat.reduceLeDiff, Nat.reduceMul, Nat.reduceSub, Int.reduceLE, Int.reduceLT, Int.reduceEq, Int.reduceToNat, Int.reducePow, Int.reduceNeg]
  refine hK _ ?_; clear hK
  refine bwp_seq fun K hK => bwp_region rfl ?_
  simp -implicitDefEqProofs only [go_sem, ↓reduceIte, Nat.reduceEqDiff, Nat.reduceAdd, Nat.reduceLeDiff, Nat.reduceMul, Nat.reduceSub, Int.reduceLE, Int.reduceLT, Int.reduceEq, Int.reduceToNat, Int.reducePow, Int.reduceNeg]
  refine hK _ ?_; clear hK
  refine bwp_seq fun K hK => bwp_region rfl ?_
  simp -implicitDefEqProofs only [go_sem, ↓reduceIte, Nat.reduceEqDiff, Nat.reduceAdd, Nat.reduceLeDiff, Nat.reduceMul, Nat.reduceSub, Int.reduceLE, Int.reduceLT, Int.reduceEq, Int.reduceToNat, Int.reducePow, Int.reduceNeg]
  refine hK _ ?_; clear hK
  have hT2l := hT'.len
  refine bwp_seq fun K hK => bwp_region rfl ?_
  simp -implicitDefEqProofs only [go_sem, ↓reduceIte, Nat.reduceEqDiff, Nat.reduceAdd, Nat.reduceLeDiff, Nat.reduceMul, Nat.reduceSub, Int.reduceLE, Int.reduceLT, Int.reduceEq, Int.reduceToNat, Int.reducePow, Int.reduceNeg, hT2l]
  refine hK _ ?_; clear hK
  generalize hat : Atom.mk (th2.length : Int) 0 0 0 = at0
  have hcells : Atom.cells at0 = [.int .i64 th2.length, .int .i64 0, .int .i64 0, .int .i64 0] := by rw [← hat]; rfl
  refine bwp_leads (S' := ⟨[(3, .ptr 0 0), (4, .ptr 1 0), (5, .ptr 2 0), (2, .d (.bool false))],
    [(0, [.d (.str [116]), .d I, .d T', .d (.int .i64 0), .d .nsl]), (1, [.d (.str [116]), .d I, .d .nsl, .d (.int .i64 0), .d .nsl]), (2, [.d (.str [116]), .d I, .d T', .d (.int .i64 1), .d (.sl 1 [.sl 1 (Atom.cells at0)])])], 3⟩)
    (Leads.frz [(0, 0), (1, 1), (2, 2)] [(3, Atom.cells at0), (4, [.sl 1 (Atom.cells at0)])] ⟨?_, ?_, rfl, rfl, ?_⟩) ?_
  · simp [frzT, fget, AV.cv, cvL, zget, pget]
  · simp [frzM, pinv, zget, mget, cvL, AV.cv, pget]
  · simp [zokFrom, mget, cvL, AV.cv, zget, hcells]
  have hd2 : GoodTest ⟨[116], inits, th2, 0, []⟩ := ⟨hG1.name, hG1.short, hG2, hG1.inits, hG1.once, rfl, by simp, by simp, by simp⟩
  have hu2 : GoodTest ⟨[116], inits, [], 0, []⟩ := ⟨hG1.name, hG1.short, by simp, hG1.inits, hG1.once, rfl, by simp, by simp, by simp⟩
  have hatok : okAtomB at0 = true ∧ farB th2.length at0 = true ∧ at0.loc = 0 := by
    rw [← hat]
    rcases hl2' with h | h <;> rw [h] <;> decide
  have hcd : okCondB 1 [[at0]] = true := by simp [okCondB, badRowB, hatok.1]
  have hv2 : GoodTest ⟨[116], inits, th2, 1, [[at0]]⟩ := ⟨hG1.name, hG1.short, hG2, hG1.inits, hG1.once, hcd, by simp, by simp, by simp [hatok.2.2]⟩
  have c2 : checkW ⟨[116], inits, th2, 0, []⟩ = 0 := by
    rw [hd2.check (by simp only; omega)]
    have : ¬ th2.length = 0 := by omega
    simp [this]
  have cu : checkW ⟨[116], inits, [], 0, []⟩ = 8 := by
    rw [hu2.check (by simp)]
    simp
  have cv : checkW ⟨[116], inits, th2, 1, [[at0]]⟩ = 10 := by
    rw [hv2.check (by simp only; omega)]
    have : ¬ th2.length = 0 := by omega
    simp [this, hatok.2.1]
  have hA1 : IsSl2 Atom.cells [[at0]] (.sl 1 [.sl 1 (Atom.cells at0)]) := ⟨[.sl 1 (Atom.cells at0)], ⟨by simp, .inr rfl⟩, ⟨by simp, .inr (by simp)⟩, trivial⟩
  have i2 : IsTest ⟨[116], inits, th2, 0, []⟩ [.str [116], I, T', .int .i64 0, .nsl] := ⟨I, T', .nsl, rfl, hI, hT', isSl2_nil⟩
  have iu : IsTest ⟨[116], inits, [], 0, []⟩ [.str [116], I, .nsl, .int .i64 0, .nsl] := ⟨I, .nsl, .nsl, rfl, hI, isSl2_nil, isSl2_nil⟩
  have iv : IsTest ⟨[116], inits, th2, 1, [[at0]]⟩ [.str [116], I, T', .int .i64 1, .sl 1 [.sl 1 (Atom.cells at0)]] := ⟨I, T', _, rfl, hI, hT', hA1⟩
  refine bwp_seq fun K hK => bwp_region rfl ?_
  simp -implicitDefEqProofs only [go_sem, ↓reduceIte, Nat.reduceEqDiff, Nat.reduceAdd, Nat.reduceLeDiff, Nat.reduceMul, Nat.reduceSub, Int.reduceLE, Int.reduceLT, Int.reduceEq, Int.reduceToNat, Int.reducePow, Int.reduceNeg]
  refine callK_pure (check_pure i2 (by simp) (by simp only; omega)) rfl rfl ?_
  rw [c2]
  simp -implicitDefEqProofs only [go_sem, ↓reduceIte, Nat.reduceEqDiff, Nat.reduceAdd, Nat.reduceLeDiff, Nat.reduceMul, Nat.reduceSub, Int.reduceLE, Int.reduceLT, Int.reduceEq, Int.reduceToNat, Int.reducePow, Int.reduceNeg]
  refine callK_pure (check_pure iu (by simp) (by simp)) rfl rfl ?_
  rw [cu]
  simp -implicitDefEqProofs only [go_sem, ↓reduceIte, Nat.reduceEqDiff, Nat.reduceAdd, Nat.reduceLeDiff, Nat.reduceMul, Nat.reduceSub, Int.reduceLE, Int.reduceLT, Int.reduceEq, Int.reduceToNat, Int.reducePow, Int.reduceNeg]
  refine callK_pure (check_pure iv (by simp) (by simp only; omega)) rfl rfl ?_
  rw [cv]
  simp -implicitDefEqProofs only [go_sem, ↓reduceIte, Nat.reduceEqDiff, Nat.reduceAdd, Nat.reduceLeDiff, Nat.reduceMul, Nat.reduceSub, Int.reduceLE, Int.reduceLT, Int.reduceEq, Int.reduceToNat, Int.reducePow, Int.reduceNeg]
  refine callK_pure awake5_pure rfl rfl ?_
  simp -implicitDefEqProofs only [go_sem, ↓reduceIte, Nat.reduceEqDiff, Nat.reduceAdd, Nat.reduceLeDiff, Nat.reduceMul, Nat.reduceSub, Int.reduceLE, Int.reduceLT, Int.reduceEq, Int.reduceToNat, Int.reducePow, Int.reduceNeg]
  refine hK _ ?_; clear hK
  refine bwp_ret ?_
  simp only [go_sem]
  refine aend_ret _ rfl rfl ⟨?_, rfl⟩
  rfl

end Go.Proofs.Ytjfghjakpjfgpaa
