/- What the test made of numbers comes to, told without a heap, its rows left own. -/
import Derived.Test.YtgfkgngpganllaaDoorO3
import Derived.Test.YtgfkgngpganllaaDoorD6
import Derived.Test.YtgfkgngpganllaaDoorS2
namespace Go.Proofs.YtgfkgngpganllaaDoor
open Go Go.Jq
set_option maxRecDepth 100000
set_option linter.unusedSimpArgs false

/-- The state behind the threads. -/
def smLo (X : DV) (l0 : Nat) (ds e5 ei : List DV) (ni n a : Nat) : St :=
  ⟨[(4, .ptr 0 0), (5, .ptr 1 0), (7, .fn 22 [.ptr 2 0, .dptr [X]])],
    [(0, [.d (.str []), .d .nsl, .d .nsl, .d (.int .i64 0), .d .nsl]), (1, [.d (.str [116]), .sl 6 2 0 ni, .sl 3 1 0 n, .d (.int .i64 0), .d .nsl]), (2, [.d (.int .i64 a)]), (3, .sl 5 9 0 l0 :: ds.map .d), (5, e5.map .d), (6, ei.map .d)], 7⟩

def smEndo (l0 : Nat) (ds e5 ei : List DV) (ni n : Nat) (kind : Int) (Av : DV) : St :=
  ⟨[(4, .ptr 0 0), (5, .ptr 1 0)], [(0, [.d (.str []), .d .nsl, .d .nsl, .d (.int .i64 0), .d .nsl]), (1, [.d (.str [116]), .sl 6 2 0 ni, .sl 3 1 0 n, .d (.int .i64 kind), .d Av]), (3, .sl 5 9 0 l0 :: ds.map .d), (5, e5.map .d), (6, ei.map .d)], 7⟩

/-- What is handed back: the threads' row (0), the first thread's (1), the beginning's (2). -/
def ownV (ni n : Nat) (kind : Int) (Av : DV) : AV := .agg [.d (.str [116]), .sl 2 2 0 ni, .sl 0 1 0 n, .d (.int .i64 kind), .d Av]
def ownM (l0 : Nat) (ds e5 ei : List DV) : Mem := [(0, .sl 1 9 0 l0 :: ds.map .d), (1, e5.map .d), (2, ei.map .d)]

theorem small_end_o {l0 : Nat} {ds e5 ei : List DV} {ni n : Nat} {kind : Int} {Av : DV} {Q : AV → Mem → Prop} (hQ : Q (ownV ni n kind Av) (ownM l0 ds e5 ei)) :
    BWP Tryd.prog (mbound []) 184 (.seq (.region false [⟨(some 183), .load (some 5) (.t 5), none⟩, ⟨none, .store 5 (.t 4) (.t 183), none⟩] []) .ret) (smEndo l0 ds e5 ei ni n kind Av) (AEnd Tryd.prog #[.cell 4 29] (mbound []) Q) := by
  have hld : ldk Tryd.prog 29 = some (some 5) := by kernel_rfl
  unfold smEndo
  refine bwp_seq fun K hK => bwp_region rfl ?_
  simp -implicitDefEqProofs only [go_sem, ↓reduceIte, Nat.reduceEqDiff, Nat.reduceAdd, Nat.reduceLeDiff, Nat.reduceMul, Nat.reduceSub, Int.reduceLE, Int.reduceLT, Int.reduceEq, Int.reduceToNat, Int.reducePow, Int.reduceNeg]
  refine hK _ ?_; clear hK
  refine bwp_ret ?_
  simp only [go_sem]
  refine aend_mem (.agg [.d (.str [116]), .sl 6 2 0 ni, .sl 3 1 0 n, .d (.int .i64 kind), .d Av]) [(3, 0), (5, 1), (6, 2)] (ownM l0 ds e5 ei) ?_ rfl rfl ?_ ?_
  · simp [resA, resVs, resV, fget, hld, mget, loadA]
  · simp [ownM, entM, pinv, mget, renL, AV.ren, pget]
  · simpa [AV.ren, renL, pget, ownV] using hQ

set_option maxHeartbeats 4000000 in
theorem small_tail_o {ls : List Int} {X : DV} (hX : IsInts ls X) {l0 : Nat} {ds e5 ei : List DV} {ni n a x : Nat} (ha : a ≤ 1000) (hxe : nxN ls a = x) {Q : AV → Mem → Prop}
    (hQ : ∀ Av, IsSl2 Atom.cells (smallRows x) Av → Q (ownV ni n (smallKind x) Av) (ownM l0 ds e5 ei)) :
    BWP Tryd.prog (mbound []) 184 (dropSeq 9 ac8) (smLo X l0 ds e5 ei ni n a) (AEnd Tryd.prog #[.cell 4 29] (mbound []) Q) := by
  have hx := nxN_le ls a
  rw [hxe] at hx
  unfold ac8 smLo
  simp only [dropSeq]
  refine bwp_seq fun K1 hK1 => ?_
  refine bwp_seq fun K hK => bwp_region rfl ?_
  simp -implicitDefEqProofs only [go_sem, ↓reduceIte, Nat.reduceEqDiff, Nat.reduceAdd, Nat.reduceLeDiff, Nat.reduceMul, Nat.reduceSub, Int.reduceLE, Int.reduceLT, Int.reduceEq, Int.reduceToNat, Int.reducePow, Int.reduceNeg]
  refine ⟨rfl, next_callK (a := a) hX (by omega) rfl ?_⟩
  simp -implicitDefEqProofs only [go_sem, ↓reduceIte, Nat.reduceEqDiff, Nat.reduceAdd, Nat.reduceLeDiff, Nat.reduceMul, Nat.reduceSub, Int.reduceLE, Int.reduceLT, Int.reduceEq, Int.reduceToNat, Int.reducePow, Int.reduceNeg, hxe]
  refine hK _ ?_; clear hK
  have fin : ∀ (S : St) (Av : DV), Leads (mbound []) 184 S (smEndo l0 ds e5 ei ni n (smallKind x) Av) → IsSl2 Atom.cells (smallRows x) Av → K1 S := by
    intro S Av hS hAv
    refine hK1 _ ?_; clear hK1
    exact bwp_leads hS (small_end_o (hQ Av hAv))
  refine bwp_seq fun K hK => bwp_region rfl ?_
  simp -implicitDefEqProofs only [go_sem, ↓reduceIte, Nat.reduceEqDiff, Nat.reduceAdd, Nat.reduceLeDiff, Nat.reduceMul, Nat.reduceSub, Int.reduceLE, Int.reduceLT, Int.reduceEq, Int.reduceToNat, Int.reducePow, Int.reduceNeg, tm3]
  refine hK _ ?_; clear hK
  by_cases hz : x % 3 = 0
  · refine bwp_cond true (by simp [ev, fget, hz]) (fun _ => ?_) (fun h => nomatch h)
    have hwk : IntKind.i64.wrap (((x / 3 % 2 : Nat) : Int) + 1) = ((x / 3 % 2 + 1 : Nat) : Int) := by rw [wrap_i64 (by omega) (by omega)]; rfl
    have hw3 : IntKind.i64.wrap ((x / 3 : Nat) : Int) = ((x / 3 : Nat) : Int) := Go.Jq.wrap_small (by omega)
    refine bwp_region rfl ?_
    simp -implicitDefEqProofs only [go_sem, ↓reduceIte, Nat.reduceEqDiff, Nat.reduceAdd, Nat.reduceLeDiff, Nat.reduceMul, Nat.reduceSub, Int.reduceLE, Int.reduceLT, Int.reduceEq, Int.reduceToNat, Int.reducePow, Int.reduceNeg, td3, hw3, tm2, tm3, hwk, fd8, fd16, fd32, fd128, and1]
    refine fin _ (.sl 2 [.sl 1 (Atom.cells ⟨0, (x / 8 % 2 : Nat), 0, (x / 16 % 2 : Nat)⟩), .sl 2 (Atom.cells ⟨-1, 0, 120, (x / 32 % 3 : Nat)⟩ ++ Atom.cells ⟨1, 0, 0, (x / 128 % 2 : Nat)⟩)])
      (Leads.frz [(0, 0), (1, 1), (3, 3), (5, 5), (6, 6)] [(8, Atom.cells ⟨0, (x / 8 % 2 : Nat), 0, (x / 16 % 2 : Nat)⟩), (9, Atom.cells ⟨-1, 0, 120, (x / 32 % 3 : Nat)⟩ ++ Atom.cells ⟨1, 0, 0, (x / 128 % 2 : Nat)⟩),
        (10, [.sl 1 (Atom.cells ⟨0, (x / 8 % 2 : Nat), 0, (x / 16 % 2 : Nat)⟩), .sl 2 (Atom.cells ⟨-1, 0, 120, (x / 32 % 3 : Nat)⟩ ++ Atom.cells ⟨1, 0, 0, (x / 128 % 2 : Nat)⟩)])] ⟨?_, ?_, rfl, rfl, ?_⟩) ?_
    · simp [smEndo, frzT, fget, AV.cv, zget, pget]
    · simp [smEndo, frzM, pinv, zget, mget, cvL, AV.cv, smallKind, hz, pget, cvL_d]
    · simp [zokFrom, zget, mget, cvL, AV.cv, Atom.cells]
    · simp only [smallRows, hz, if_true]
      refine ⟨[.sl 1 (Atom.cells ⟨0, (x / 8 % 2 : Nat), 0, (x / 16 % 2 : Nat)⟩), .sl 2 (Atom.cells ⟨-1, 0, 120, (x / 32 % 3 : Nat)⟩ ++ Atom.cells ⟨1, 0, 0, (x / 128 % 2 : Nat)⟩)], ⟨by simp, .inr ?_⟩, ?_⟩
      · rfl
      · exact ⟨⟨by simp, .inr rfl⟩, ⟨by simp, .inr rfl⟩, trivial⟩
  · refine bwp_cond false (by simp [ev, fget]; omega) (fun h => nomatch h) (fun _ => ?_)
    refine bwp_skip ?_
    refine fin _ .nsl (Leads.ent [(0, 0), (1, 1), (3, 3), (5, 5), (6, 6)] ⟨?_, ?_, rfl, rfl⟩) ?_
    · simp [smEndo, entT, fget, AV.ren, pget]
    · simp [smEndo, entM, pinv, mget, renL, AV.ren, pget, smallKind, hz]
    · simp only [smallRows, hz, if_false]
      exact ⟨[], ⟨by decide, .inl ⟨rfl, rfl⟩⟩, trivial⟩

set_option maxHeartbeats 8000000 in
theorem small_own {ls : List Int} {X : DV} (hX : IsInts ls X) {most : Nat} (hmost : most ≤ 1000) :
    ACalls Tryd.prog 8 [.d X, .d (.int .i64 most)] [] fun r m' => ∃ s0 ts' ds Av, (small ls most).threads = s0 :: ts' ∧ IsSls Ins.cells ts' ds ∧ IsSl2 Atom.cells (small ls most).rows Av ∧
      r = ownV (small ls most).inits.length (small ls most).threads.length (small ls most).kind Av ∧ m' = ownM s0.length ds (s0.flatMap Ins.cells) ((small ls most).inits.flatMap Init.cells) := by
  refine acalls_of Tryd.func8 ac8_ok Tryd.ntmps8 Tryd.results8 rfl ?_
  unfold ac8
  refine bwp_seq fun K hK => bwp_region rfl ?_
  simp -implicitDefEqProofs only [go_sem, ↓reduceIte, Nat.reduceEqDiff, Nat.reduceAdd, Nat.reduceLeDiff, Nat.reduceMul, Nat.reduceSub, Int.reduceLE, Int.reduceLT, Int.reduceEq, Int.reduceToNat, Int.reducePow, Int.reduceNeg]
  refine hK _ ?_; clear hK
  refine bwp_seq fun K hK => bwp_region rfl ?_
  simp -implicitDefEqProofs only [go_sem, ↓reduceIte, Nat.reduceEqDiff, Nat.reduceAdd, Nat.reduceLeDiff, Nat.reduceMul, Nat.reduceSub, Int.reduceLE, Int.reduceLT, Int.reduceEq, Int.reduceToNat, Int.reducePow, Int.reduceNeg]
  refine hK _ ?_; clear hK
  refine bwp_seq fun K hK => bwp_region rfl ?_
  simp -implicitDefEqProofs only [go_sem, ↓reduceIte, Nat.reduceEqDiff, Nat.reduceAdd, Nat.reduceLeDiff, Nat.reduceMul, Nat.reduceSub, Int.reduceLE, Int.reduceLT, Int.reduceEq, Int.reduceToNat, Int.reducePow, Int.reduceNeg]
  refine hK _ ?_; clear hK
  refine bwp_seq fun K hK => bwp_region rfl ?_
  simp -implicitDefEqProofs only [go_sem, ↓reduceIte, Nat.reduceEqDiff, Nat.reduceAdd, Nat.reduceLeDiff, Nat.reduceMul, Nat.reduceSub, Int.reduceLE, Int.reduceLT, Int.reduceEq, Int.reduceToNat, Int.reducePow, Int.reduceNeg]
  refine hK _ ?_; clear hK
  refine bwp_leads (Leads.frz (S' := ⟨[(1, .d (.int .i64 most)), (4, .ptr 0 0), (5, .ptr 1 0), (7, .fn 22 [.ptr 2 0, .dptr [X]])],
    [(0, [.d (.str []), .d .nsl, .d .nsl, .d (.int .i64 0), .d .nsl]), (1, [.d (.str [116]), .d .nsl, .d .nsl, .d (.int .i64 0), .d .nsl]), (2, [.d (.int .i64 (0 : Nat))])], 3⟩) [(1, 0), (2, 1), (3, 2)] [(0, [X])] ⟨?_, ?_, rfl, rfl, ?_⟩) ?_
  · simp [frzT, fget, AV.cv, cvL, zget, pget]
  · simp [frzM, pinv, zget, mget, cvL, AV.cv]
  · simp [zokFrom, mget, cvL, AV.cv]
  have hw2 : ∀ q : Nat, q ≤ 10 → IntKind.i64.wrap ((q : Int) + 2) = ((q + 2 : Nat) : Int) := fun q hq => by rw [wrap_i64 (by omega) (by omega)]; rfl
  have hn : smallN ls ≤ 3 := by unfold smallN; omega
  have hl : smallLocs ls ≤ 10 := by unfold smallLocs; omega
  have hl0 : 0 < smallLocs ls := by unfold smallLocs; omega
  refine bwp_seq fun K hK => bwp_region rfl ?_
  simp -implicitDefEqProofs only [go_sem, ↓reduceIte, Nat.reduceEqDiff, Nat.reduceAdd, Nat.reduceLeDiff, Nat.reduceMul, Nat.reduceSub, Int.reduceLE, Int.reduceLT, Int.reduceEq, Int.reduceToNat, Int.reducePow, Int.reduceNeg]
  refine ⟨rfl, next_callK (a := 0) hX (by omega) rfl ?_⟩
  simp -implicitDefEqProofs only [go_sem, ↓reduceIte, Nat.reduceEqDiff, Nat.reduceAdd, Nat.reduceLeDiff, Nat.reduceMul, Nat.reduceSub, Int.reduceLE, Int.reduceLT, Int.reduceEq, Int.reduceToNat, Int.reducePow, Int.reduceNeg, tm2, hw2 (nxN ls 0 % 2) (by omega)]
  refine hK _ ?_; clear hK
  refine bwp_seq fun K hK => bwp_region rfl ?_
  simp -implicitDefEqProofs only [go_sem, ↓reduceIte, Nat.reduceEqDiff, Nat.reduceAdd, Nat.reduceLeDiff, Nat.reduceMul, Nat.reduceSub, Int.reduceLE, Int.reduceLT, Int.reduceEq, Int.reduceToNat, Int.reducePow, Int.reduceNeg]
  refine ⟨rfl, next_callK (a := 1) hX (by omega) rfl ?_⟩
  simp -implicitDefEqProofs only [go_sem, ↓reduceIte, Nat.reduceEqDiff, Nat.reduceAdd, Nat.reduceLeDiff, Nat.reduceMul, Nat.reduceSub, Int.reduceLE, Int.reduceLT, Int.reduceEq, Int.reduceToNat, Int.reducePow, Int.reduceNeg, tm2, hw2 (nxN ls 1 % 2) (by omega)]
  refine hK _ ?_; clear hK
  refine bwp_seq fun K1 hK1 => ?_
  refine bwp_seq fun K hK => bwp_region rfl ?_
  simp -implicitDefEqProofs only [go_sem, ↓reduceIte, Nat.reduceEqDiff, Nat.reduceAdd, Nat.reduceLeDiff, Nat.reduceMul, Nat.reduceSub, Int.reduceLE, Int.reduceLT, Int.reduceEq, Int.reduceToNat, Int.reducePow, Int.reduceNeg]
  refine ⟨rfl, next_callK (a := 2) hX (by omega) rfl ?_⟩
  simp -implicitDefEqProofs only [go_sem, ↓reduceIte, Nat.reduceEqDiff, Nat.reduceAdd, Nat.reduceLeDiff, Nat.reduceMul, Nat.reduceSub, Int.reduceLE, Int.reduceLT, Int.reduceEq, Int.reduceToNat, Int.reducePow, Int.reduceNeg, tm4]
  refine hK _ ?_; clear hK
  have mid : ∀ (S : St), Leads (mbound []) 184 S ⟨[(1, .d (.int .i64 most)), (4, .ptr 0 0), (5, .ptr 1 0), (7, .fn 22 [.ptr 2 0, .dptr [X]]), (8, .d (.int .i64 (smallN ls))), (9, .d (.int .i64 (smallLocs ls)))],
      [(0, [.d (.str []), .d .nsl, .d .nsl, .d (.int .i64 0), .d .nsl]), (1, [.d (.str [116]), .sl 6 2 0 (smallInits ls).length, .d .nsl, .d (.int .i64 0), .d .nsl]), (2, [.d (.int .i64 (smallAt ls))]), (6, ((smallInits ls).flatMap Init.cells).map .d)], 7⟩ → K1 S := by
    intro S hS
    refine hK1 _ ?_; clear hK1
    refine bwp_leads hS ?_
    generalize hni : (smallInits ls).length = ni
    generalize hei : (smallInits ls).flatMap Init.cells = ei
    refine bwp_leads (Leads.nilCell 1 2 1 rfl rfl rfl rfl) ?_
    refine bwp_leads (Leads.dummy rfl) ?_
    refine bwp_seq fun K hK => bwp_region rfl ?_
    simp -implicitDefEqProofs only [go_sem, ↓reduceIte, Nat.reduceEqDiff, Nat.reduceAdd, Nat.reduceLeDiff, Nat.reduceMul, Nat.reduceSub, Int.reduceLE, Int.reduceLT, Int.reduceEq, Int.reduceToNat, Int.reducePow, Int.reduceNeg]
    refine hK _ ?_; clear hK
    refine bwp_seq fun K1 hK1 => ?_
    refine bwp_seq fun K2 hK2 => ?_
    refine bwp_region rfl ?_
    simp -implicitDefEqProofs only [go_sem, ↓reduceIte, Nat.reduceEqDiff, Nat.reduceAdd, Nat.reduceLeDiff, Nat.reduceMul, Nat.reduceSub, Int.reduceLE, Int.reduceLT, Int.reduceEq, Int.reduceToNat, Int.reducePow, Int.reduceNeg]
    refine hK2 _ ?_; clear hK2
    refine bwp_block ?_
    refine bwp_leads (S' := smOo X [] [] ei ni [] (smallN ls) (smallLocs ls) most 0 (smallAt ls) 0) (Leads.ent [(0, 0), (1, 1), (2, 2), (7, 3), (8, 5), (6, 6)] ⟨?_, ?_, rfl, rfl⟩) ?_
    · simp [smOo, entT, fget, AV.ren, renL, pget]
    · simp [smOo, entM, pinv, mget, mset, renL, AV.ren, pget]
    refine small_threads_o hX hn hl0 hl hmost (by unfold smallAt; split <;> omega) ?_
    intro pre e5 ds hds hat mem
    have hlen := smallThreads_len ls (smallLocs ls) most (smallN ls) (smallAt ls) 0 []
    have hts : smallThreads ls (smallLocs ls) most (smallN ls) (smallAt ls) 0 [] = smallTs ls most := rfl
    rw [hts] at hds hat hlen ⊢
    simp only [List.length_nil, Nat.zero_add] at hlen
    have hN2 : 2 ≤ smallN ls := by unfold smallN; omega
    rcases hds with ⟨h0, _⟩ | ⟨s0, ts', h1, rfl, rfl, hd⟩
    · rw [h0] at hlen; simp at hlen; omega
    simp -implicitDefEqProofs only [go_sem, ↓reduceIte, Nat.reduceEqDiff, Nat.reduceAdd, Nat.reduceLeDiff, Nat.reduceMul, Nat.reduceSub, Int.reduceLE, Int.reduceLT, Int.reduceEq, Int.reduceToNat, Int.reducePow, Int.reduceNeg]
    refine hK1 _ ?_; clear hK1
    refine bwp_leads (S' := smLo X s0.length ds (s0.flatMap Ins.cells) ei ni (smallN ls) (smallTs ls most).1) (Leads.ent [(0, 0), (1, 1), (2, 2), (3, 3), (5, 5), (6, 6)] ⟨?_, ?_, rfl, rfl⟩) ?_
    · simp [smLo, smOo, entT, fget, AV.ren, renL, pget]
    · simp [smLo, smOo, entM, pinv, mget, renL, AV.ren, pget]
    refine small_tail_o (x := smallC ls most) hX (by omega) rfl ?_
    intro Av hAv
    refine ⟨s0, ts', ds, Av, h1, hd, hAv, ?_, ?_⟩
    · show ownV ni (smallN ls) _ Av = ownV (smallInits ls).length (small ls most).threads.length _ Av
      rw [small_len, hni]
      rfl
    · show _ = ownM _ _ _ ((smallInits ls).flatMap Init.cells)
      rw [hei]
  by_cases hz : nxN ls 2 % 4 = 0
  · refine bwp_cond true (by simp [ev, fget, hz]) (fun _ => ?_) (fun h => nomatch h)
    refine bwp_region_draw rfl rfl ?_
    simp -implicitDefEqProofs only [go_sem, ↓reduceIte, Nat.reduceEqDiff, Nat.reduceAdd, Nat.reduceLeDiff, Nat.reduceMul, Nat.reduceSub, Int.reduceLE, Int.reduceLT, Int.reduceEq, Int.reduceToNat, Int.reducePow, Int.reduceNeg]
    refine ⟨rfl, next_dCallK (a := 3) hX (by omega) rfl ?_⟩
    simp -implicitDefEqProofs only [go_sem, ↓reduceIte, Nat.reduceEqDiff, Nat.reduceAdd, Nat.reduceLeDiff, Nat.reduceMul, Nat.reduceSub, Int.reduceLE, Int.reduceLT, Int.reduceEq, Int.reduceToNat, Int.reducePow, Int.reduceNeg, tm3]
    refine ⟨rfl, mid _ (Leads.ent [(0, 0), (1, 1), (2, 2), (13, 6)] ⟨?_, ?_, rfl, rfl⟩)⟩
    · simp [entT, fget, AV.ren, renL, pget, smallN, smallLocs]
    · simp [entM, pinv, mget, renL, AV.ren, pget, smallAt, hz, smallInits, Init.cells]
  · refine bwp_cond false (by simp [ev, fget]; omega) (fun h => nomatch h) (fun _ => ?_)
    refine bwp_skip ?_
    have hsi : smallInits ls = [] := by simp [smallInits, hz]
    refine mid _ (fun E hE a w h => ?_)
    have h1 : Conc E 184 ⟨[(1, .d (.int .i64 most)), (4, .ptr 0 0), (5, .ptr 1 0), (7, .fn 22 [.ptr 2 0, .dptr [X]]), (8, .d (.int .i64 (smallN ls))), (9, .d (.int .i64 (smallLocs ls)))],
        [(0, [.d (.str []), .d .nsl, .d .nsl, .d (.int .i64 0), .d .nsl]), (1, [.d (.str [116]), .d .nsl, .d .nsl, .d (.int .i64 0), .d .nsl]), (2, [.d (.int .i64 (smallAt ls))])], 6⟩ a w := by
      refine Leads.ent [(0, 0), (1, 1), (2, 2)] ⟨?_, ?_, rfl, rfl⟩ E hE a w h
      · simp [entT, fget, AV.ren, renL, pget, smallN, smallLocs]
      · simp [entM, pinv, mget, renL, AV.ren, smallAt, hz]
    have h2 := Leads.nilCell (n0 := mbound []) (k := 184) 1 1 2 rfl rfl rfl rfl E hE a w h1
    refine Leads.ent [(0, 0), (1, 1), (2, 2), (6, 6)] ⟨?_, ?_, rfl, rfl⟩ E hE a w h2
    · simp [entT, fget, AV.ren, renL, pget]
    · simp [entM, pinv, mget, mset, renL, AV.ren, pget, hsi]

end Go.Proofs.YtgfkgngpganllaaDoor
