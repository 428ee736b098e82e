/- What the test made of numbers comes to, told without a heap. -/
import Derived.Test.YtgfkgngpganllaaDoorD3
import Derived.Test.YtgfkgngpganllaaDoorT0
import Derived.KernelRfl
namespace Go.Proofs.YtgfkgngpganllaaDoor
open Go Go.Jq
set_option maxRecDepth 100000
set_option linter.unusedSimpArgs false

/-- The test made of numbers. -/
def smallN (ls : List Int) : Nat := nxN ls 0 % 2 + 2
def smallLocs (ls : List Int) : Nat := nxN ls 1 % 2 + 2
def smallInits (ls : List Int) : List Init := if nxN ls 2 % 4 = 0 then [⟨120, (nxN ls 3 % 3 : Nat)⟩] else []
def smallAt (ls : List Int) : Nat := if nxN ls 2 % 4 = 0 then 4 else 3
def smallTs (ls : List Int) (most : Nat) : Nat × List (List Ins) := smallThreads ls (smallLocs ls) most (smallN ls) (smallAt ls) 0 []
def smallC (ls : List Int) (most : Nat) : Nat := nxN ls (smallTs ls most).1
def smallRows (x : Nat) : List (List Atom) := if x % 3 = 0 then [[⟨0, (x / 8 % 2 : Nat), 0, (x / 16 % 2 : Nat)⟩], [⟨-1, 0, 120, (x / 32 % 3 : Nat)⟩, ⟨1, 0, 0, (x / 128 % 2 : Nat)⟩]] else []
def smallKind (x : Nat) : Int := if x % 3 = 0 then ((x / 3 % 2 + 1 : Nat) : Int) else 0
def small (ls : List Int) (most : Nat) : Test := ⟨[116], smallInits ls, (smallTs ls most).2, smallKind (smallC ls most), smallRows (smallC ls most)⟩

/-- The state behind the threads. -/
def smL (X Iv : DV) (ds : List DV) (n a : Nat) : St :=
  ⟨[(4, .ptr 0 0), (5, .ptr 1 0), (7, .fn 22 [.ptr 2 0, .dptr [X]])],
    [(0, [.d (.str []), .d .nsl, .d .nsl, .d (.int .i64 0), .d .nsl]), (1, [.d (.str [116]), .d Iv, .d (.sl n ds), .d (.int .i64 0), .d .nsl]), (2, [.d (.int .i64 a)])], 3⟩

/-- What a test's data is handed back as. -/
def smEnd (Iv : DV) (ds : List DV) (n : Nat) (kind : Int) (Av : DV) : St :=
  ⟨[(4, .ptr 0 0), (5, .ptr 1 0)], [(0, [.d (.str []), .d .nsl, .d .nsl, .d (.int .i64 0), .d .nsl]), (1, [.d (.str [116]), .d Iv, .d (.sl n ds), .d (.int .i64 kind), .d Av])], 2⟩

theorem small_end {Iv Av : DV} {ds : List DV} {n : Nat} {kind : Int} {Q : AV → Mem → Prop} (hQ : Q (.agg [.d (.str [116]), .d Iv, .d (.sl n ds), .d (.int .i64 kind), .d Av]) []) :
    BWP Tryd.prog (mbound []) 184 (.seq (.region false [⟨(some 183), .load (some 5) (.t 5), none⟩, ⟨none, .store 5 (.t 4) (.t 183), none⟩] []) .ret) (smEnd Iv ds n kind Av) (AEnd Tryd.prog #[.cell 4 29] (mbound []) Q) := by
  have hld : ldk Tryd.prog 29 = some (some 5) := by kernel_rfl
  unfold smEnd
  refine bwp_seq fun K hK => bwp_region rfl ?_
  simp -implicitDefEqProofs only [go_sem, ↓reduceIte, Nat.reduceEqDiff, Nat.reduceAdd, Nat.reduceLeDiff, Nat.reduceMul, Nat.reduceSub, Int.reduceLE, Int.reduceLT, Int.reduceEq, Int.reduceToNat, Int.reducePow, Int.reduceNeg]
  refine hK _ ?_; clear hK
  refine bwp_ret ?_
  simp only [go_sem]
  refine aend_mem (.agg [.d (.str [116]), .d Iv, .d (.sl n ds), .d (.int .i64 kind), .d Av]) [] [] ?_ rfl rfl trivial ?_
  · simp [resA, resVs, resV, fget, hld, mget, loadA]
  · simpa [AV.ren, renL] using hQ

/-- What stands behind the first n parts of a row of parts. -/
def dropSeq : Nat → ACode → ACode
  | 0, c => c
  | n + 1, .seq _ b => dropSeq n b
  | _, c => c

theorem small_tail {ls : List Int} {X : DV} (hX : IsInts ls X) {Iv : DV} {ds : List DV} {n a x : Nat} (ha : a ≤ 1000) (hxe : nxN ls a = x) (hdl : ds.length = n) {Q : AV → Mem → Prop}
    (hQ : ∀ Av, IsSl2 Atom.cells (smallRows x) Av → Q (.agg [.d (.str [116]), .d Iv, .d (.sl n ds), .d (.int .i64 (smallKind x)), .d Av]) []) :
    BWP Tryd.prog (mbound []) 184 (dropSeq 9 ac8) (smL X Iv ds n a) (AEnd Tryd.prog #[.cell 4 29] (mbound []) Q) := by
  have hx := nxN_le ls a
  rw [hxe] at hx
  unfold ac8 smL
  simp only [dropSeq]
  refine bwp_seq fun K1 hK1 => ?_
  refine bwp_seq fun K hK => bwp_region rfl ?_
  simp -implicitDefEqProofs only [go_sem, ↓reduceIte, Nat.reduceEqDiff, Nat.reduceAdd, Nat.reduceLeDiff, Nat.reduceMul, Nat.reduceSub, Int.reduceLE, Int.reduceLT, Int.reduceEq, Int.reduceToNat, Int.reducePow, Int.reduceNeg]
  refine ⟨rfl, next_callK (a := a) hX (by omega) rfl ?_⟩
  simp -implicitDefEqProofs only [go_sem, ↓reduceIte, Nat.reduceEqDiff, Nat.reduceAdd, Nat.reduceLeDiff, Nat.reduceMul, Nat.reduceSub, Int.reduceLE, Int.reduceLT, Int.reduceEq, Int.reduceToNat, Int.reducePow, Int.reduceNeg, hxe]
  refine hK _ ?_; clear hK
  have fin : ∀ (S : St) (Av : DV), Leads (mbound []) 184 S (smEnd Iv ds n (smallKind x) Av) → IsSl2 Atom.cells (smallRows x) Av → K1 S := by
    intro S Av hS hAv
    refine hK1 _ ?_; clear hK1
    exact bwp_leads hS (small_end (hQ Av hAv))
  refine bwp_seq fun K hK => bwp_region rfl ?_
  simp -implicitDefEqProofs only [go_sem, ↓reduceIte, Nat.reduceEqDiff, Nat.reduceAdd, Nat.reduceLeDiff, Nat.reduceMul, Nat.reduceSub, Int.reduceLE, Int.reduceLT, Int.reduceEq, Int.reduceToNat, Int.reducePow, Int.reduceNeg, tm3]
  refine hK _ ?_; clear hK
  have htk : ds.take n = ds := List.take_of_length_le (by omega)
  by_cases hz : x % 3 = 0
  · refine bwp_cond true (by simp [ev, fget, hz]) (fun _ => ?_) (fun h => nomatch h)
    have hwk : IntKind.i64.wrap (((x / 3 % 2 : Nat) : Int) + 1) = ((x / 3 % 2 + 1 : Nat) : Int) := by rw [wrap_i64 (by omega) (by omega)]; rfl
    have hw3 : IntKind.i64.wrap ((x / 3 : Nat) : Int) = ((x / 3 : Nat) : Int) := Go.Jq.wrap_small (by omega)
    refine bwp_region rfl ?_
    simp -implicitDefEqProofs only [go_sem, ↓reduceIte, Nat.reduceEqDiff, Nat.reduceAdd, Nat.reduceLeDiff, Nat.reduceMul, Nat.reduceSub, Int.reduceLE, Int.reduceLT, Int.reduceEq, Int.reduceToNat, Int.reducePow, Int.reduceNeg, td3, hw3, tm2, tm3, hwk, fd8, fd16, fd32, fd128, and1]
    refine fin _ (.sl 2 [.sl 1 (Atom.cells ⟨0, (x / 8 % 2 : Nat), 0, (x / 16 % 2 : Nat)⟩), .sl 2 (Atom.cells ⟨-1, 0, 120, (x / 32 % 3 : Nat)⟩ ++ Atom.cells ⟨1, 0, 0, (x / 128 % 2 : Nat)⟩)])
      (Leads.frz [(0, 0), (1, 1)] [(4, Atom.cells ⟨0, (x / 8 % 2 : Nat), 0, (x / 16 % 2 : Nat)⟩), (5, Atom.cells ⟨-1, 0, 120, (x / 32 % 3 : Nat)⟩ ++ Atom.cells ⟨1, 0, 0, (x / 128 % 2 : Nat)⟩),
        (6, [.sl 1 (Atom.cells ⟨0, (x / 8 % 2 : Nat), 0, (x / 16 % 2 : Nat)⟩), .sl 2 (Atom.cells ⟨-1, 0, 120, (x / 32 % 3 : Nat)⟩ ++ Atom.cells ⟨1, 0, 0, (x / 128 % 2 : Nat)⟩)])] ⟨?_, ?_, rfl, rfl, ?_⟩) ?_
    · simp [smEnd, frzT, fget, AV.cv, zget, pget]
    · simp [smEnd, frzM, pinv, zget, mget, cvL, AV.cv, smallKind, hz]
    · simp [zokFrom, zget, mget, cvL, AV.cv, Atom.cells]
    · simp only [smallRows, hz, if_true]
      refine ⟨[.sl 1 (Atom.cells ⟨0, (x / 8 % 2 : Nat), 0, (x / 16 % 2 : Nat)⟩), .sl 2 (Atom.cells ⟨-1, 0, 120, (x / 32 % 3 : Nat)⟩ ++ Atom.cells ⟨1, 0, 0, (x / 128 % 2 : Nat)⟩)], ⟨by simp, .inr ?_⟩, ?_⟩
      · rfl
      · exact ⟨⟨by simp, .inr rfl⟩, ⟨by simp, .inr rfl⟩, trivial⟩
  · refine bwp_cond false (by simp [ev, fget]; omega) (fun h => nomatch h) (fun _ => ?_)
    refine bwp_skip ?_
    refine fin _ .nsl (Leads.ent [(0, 0), (1, 1)] ⟨?_, ?_, rfl, rfl⟩) ?_
    · simp [smEnd, entT, fget, AV.ren, pget]
    · simp [smEnd, entM, pinv, mget, renL, AV.ren, smallKind, hz]
    · simp only [smallRows, hz, if_false]
      exact ⟨[], ⟨by decide, .inl ⟨rfl, rfl⟩⟩, trivial⟩

end Go.Proofs.YtgfkgngpganllaaDoor
