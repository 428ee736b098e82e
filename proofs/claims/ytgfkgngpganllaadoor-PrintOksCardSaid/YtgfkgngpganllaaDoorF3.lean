/- Which tests may be, told without a heap. -/
import Derived.Test.YtgfkgngpganllaaDoorF2
namespace Go.Proofs.YtgfkgngpganllaaDoor
open Go Go.Jq
set_option maxRecDepth 100000
set_option linter.unusedSimpArgs false

theorem anyAtoms {gf : Nat} {caps : List AV} (hg : goesB Tryd.prog gf = true) (hcap : inL (fun _ => none) caps = true) {l : List Atom} {X : DV} (hX : IsSl Atom.cells l X) (q : Atom → Bool)
    (hq : ∀ a ∈ l, Pure Tryd.prog gf (.agg ((Atom.cells a).map .d) :: caps) (.d (.bool (q a)))) : Pure Tryd.prog 61 [.d X, .fn gf caps] (.d (.bool (l.any q))) := by
  have h1 : Pure Tryd.prog 75 [.d X, .fn gf caps] _ := indexFunc Tryd.func75 ac75_ok Tryd.ntmps75 rfl Tryd.results75
    (slE_agg (k := 4) atom_len (by omega) hX) hg hcap (fun i hi => by simp [eltA, hi, inB, inL_data]) (p := fun i => (l[i]?.map q).getD false)
    (fun i hi => by simp only [eltA, List.getElem?_eq_getElem hi, Option.map_some, Option.getD_some]; exact hq _ (List.getElem_mem hi))
  have h2 := containsFunc Tryd.func61 ac61_ok Tryd.ntmps61 rfl Tryd.results61 hcap h1
  rw [any_idx] at h2
  exact h2

theorem anyInss {gf : Nat} {caps : List AV} (hg : goesB Tryd.prog gf = true) (hcap : inL (fun _ => none) caps = true) {l : List Ins} {X : DV} (hX : IsSl Ins.cells l X) (q : Ins → Bool)
    (hq : ∀ a ∈ l, Pure Tryd.prog gf (.agg ((Ins.cells a).map .d) :: caps) (.d (.bool (q a)))) : Pure Tryd.prog 24 [.d X, .fn gf caps] (.d (.bool (l.any q))) := by
  have h1 : Pure Tryd.prog 56 [.d X, .fn gf caps] _ := indexFunc Tryd.func56 ac56_ok Tryd.ntmps56 rfl Tryd.results56
    (slE_agg (k := 9) ins_len (by omega) hX) hg hcap (fun i hi => by simp [eltA, hi, inB, inL_data]) (p := fun i => (l[i]?.map q).getD false)
    (fun i hi => by simp only [eltA, List.getElem?_eq_getElem hi, Option.map_some, Option.getD_some]; exact hq _ (List.getElem_mem hi))
  have h2 := containsFunc Tryd.func24 ac24_ok Tryd.ntmps24 rfl Tryd.results24 hcap h1
  rw [any_idx] at h2
  exact h2

theorem anyInits {gf : Nat} {caps : List AV} (hg : goesB Tryd.prog gf = true) (hcap : inL (fun _ => none) caps = true) {l : List Init} {X : DV} (hX : IsSl Init.cells l X) (q : Init → Bool)
    (hq : ∀ a ∈ l, Pure Tryd.prog gf (.agg ((Init.cells a).map .d) :: caps) (.d (.bool (q a)))) : Pure Tryd.prog 28 [.d X, .fn gf caps] (.d (.bool (l.any q))) := by
  have h1 : Pure Tryd.prog 58 [.d X, .fn gf caps] _ := indexFunc Tryd.func58 ac58_ok Tryd.ntmps58 rfl Tryd.results58
    (slE_agg (k := 2) init_len (by omega) hX) hg hcap (fun i hi => by simp [eltA, hi, inB, inL_data]) (p := fun i => (l[i]?.map q).getD false)
    (fun i hi => by simp only [eltA, List.getElem?_eq_getElem hi, Option.map_some, Option.getD_some]; exact hq _ (List.getElem_mem hi))
  have h2 := containsFunc Tryd.func28 ac28_ok Tryd.ntmps28 rfl Tryd.results28 hcap h1
  rw [any_idx] at h2
  exact h2

theorem anyRows {gf : Nat} {caps : List AV} (hg : goesB Tryd.prog gf = true) (hcap : inL (fun _ => none) caps = true) {ls : List (List Atom)} {X : DV} (hX : IsSl2 Atom.cells ls X) (q : List Atom → Bool)
    (hq : ∀ l ∈ ls, ∀ d, IsSl Atom.cells l d → Pure Tryd.prog gf (.d d :: caps) (.d (.bool (q l)))) : Pure Tryd.prog 64 [.d X, .fn gf caps] (.d (.bool (ls.any q))) := by
  obtain ⟨ds, h1, h2⟩ := hX
  have hl := h2.length
  have h3 : Pure Tryd.prog 76 [.d X, .fn gf caps] _ := indexFunc Tryd.func76 ac76_ok Tryd.ntmps76 rfl Tryd.results76
    (slE_one h1) hg hcap (fun i hi => by simp [eltD, hi, inB]) (p := fun i => (ls[i]?.map q).getD false)
    (fun i hi => by
      have hi' : i < ls.length := by omega
      obtain ⟨d, h4, h5⟩ := h2.get i _ (List.getElem?_eq_getElem hi')
      simp only [eltD, h4, List.getElem?_eq_getElem hi', Option.map_some, Option.getD_some]
      exact hq _ (List.getElem_mem hi') _ h5)
  have h4 := containsFunc Tryd.func64 ac64_ok Tryd.ntmps64 rfl Tryd.results64 hcap h3
  rw [hl, any_idx] at h4
  exact h4

theorem anyThreads {gf : Nat} {caps : List AV} (hg : goesB Tryd.prog gf = true) (hcap : inL (fun _ => none) caps = true) {ls : List (List Ins)} {X : DV} (hX : IsSl2 Ins.cells ls X) (q : List Ins → Bool)
    (hq : ∀ l ∈ ls, ∀ d, IsSl Ins.cells l d → Pure Tryd.prog gf (.d d :: caps) (.d (.bool (q l)))) : Pure Tryd.prog 31 [.d X, .fn gf caps] (.d (.bool (ls.any q))) := by
  obtain ⟨ds, h1, h2⟩ := hX
  have hl := h2.length
  have h3 : Pure Tryd.prog 59 [.d X, .fn gf caps] _ := indexFunc Tryd.func59 ac59_ok Tryd.ntmps59 rfl Tryd.results59
    (slE_one h1) hg hcap (fun i hi => by simp [eltD, hi, inB]) (p := fun i => (ls[i]?.map q).getD false)
    (fun i hi => by
      have hi' : i < ls.length := by omega
      obtain ⟨d, h4, h5⟩ := h2.get i _ (List.getElem?_eq_getElem hi')
      simp only [eltD, h4, List.getElem?_eq_getElem hi', Option.map_some, Option.getD_some]
      exact hq _ (List.getElem_mem hi') _ h5)
  have h4 := containsFunc Tryd.func31 ac31_ok Tryd.ntmps31 rfl Tryd.results31 hcap h3
  rw [hl, any_idx] at h4
  exact h4

def okAtomB (a : Atom) : Bool := if a.thread = -1 then decide (a.reg = 0) && isLocB a.loc else decide (0 ≤ a.thread) && decide (a.thread ≤ 9) && decide (a.loc = 0) && isRegB a.reg

theorem okAtom_pure (a : Atom) : Pure Tryd.prog 63 [.agg (a.cells.map .d)] (.d (.bool (okAtomB a))) := by
  refine acalls_of Tryd.func63 ac63_ok Tryd.ntmps63 Tryd.results63 rfl ?_
  unfold ac63
  refine bwp_seq fun K hK => bwp_region rfl ?_
  simp -implicitDefEqProofs only [go_sem, ↓reduceIte, Nat.reduceEqDiff, Nat.reduceAdd, Nat.reduceLeDiff, Nat.reduceMul, Nat.reduceSub, Int.reduceLE, Int.reduceLT, Int.reduceEq, Int.reduceToNat, Int.reducePow, Int.reduceNeg, Atom.cells]
  refine hK _ ?_; clear hK
  refine bwp_seq fun K hK => ?_
  refine bwp_seq fun K hK => bwp_region rfl ?_
  simp -implicitDefEqProofs only [go_sem, ↓reduceIte, Nat.reduceEqDiff, Nat.reduceAdd, Nat.reduceLeDiff, Nat.reduceMul, Nat.reduceSub, Int.reduceLE, Int.reduceLT, Int.reduceEq, Int.reduceToNat, Int.reducePow, Int.reduceNeg]
  refine hK _ ?_; clear hK
  by_cases h1 : a.thread = -1
  · refine bwp_cond true (by simp [ev, fget, h1]) (fun _ => ?_) (fun h => nomatch h)
    by_cases h2 : a.reg = 0
    · refine bwp_seq fun K hK => bwp_region rfl ?_
      simp -implicitDefEqProofs only [go_sem, ↓reduceIte, Nat.reduceEqDiff, Nat.reduceAdd, Nat.reduceLeDiff, Nat.reduceMul, Nat.reduceSub, Int.reduceLE, Int.reduceLT, Int.reduceEq, Int.reduceToNat, Int.reducePow, Int.reduceNeg, h2]
      refine callK_pure (isLoc_pure a.loc) rfl rfl ?_
      simp -implicitDefEqProofs only [go_sem, ↓reduceIte, Nat.reduceEqDiff, Nat.reduceAdd, Nat.reduceLeDiff, Nat.reduceMul, Nat.reduceSub, Int.reduceLE, Int.reduceLT, Int.reduceEq, Int.reduceToNat, Int.reducePow, Int.reduceNeg]
      refine hK _ ?_; clear hK
      refine bwp_ret ?_
      simp only [go_sem]
      refine aend_ret _ rfl rfl ⟨?_, rfl⟩
      simp [fget, okAtomB, h1, h2]
    · refine bwp_seq fun K hK => bwp_region rfl ?_
      simp -implicitDefEqProofs only [go_sem, ↓reduceIte, Nat.reduceEqDiff, Nat.reduceAdd, Nat.reduceLeDiff, Nat.reduceMul, Nat.reduceSub, Int.reduceLE, Int.reduceLT, Int.reduceEq, Int.reduceToNat, Int.reducePow, Int.reduceNeg, h2]
      refine hK _ ?_; clear hK
      refine bwp_ret ?_
      simp only [go_sem]
      refine aend_ret _ rfl rfl ⟨?_, rfl⟩
      simp [fget, okAtomB, h1, h2]
  · refine bwp_cond false (by simp [ev, fget, h1]) (fun h => nomatch h) (fun _ => ?_)
    refine bwp_skip ?_
    refine hK _ ?_; clear hK
    by_cases g1 : 0 ≤ a.thread
    · by_cases g2 : a.thread ≤ 9
      · by_cases g3 : a.loc = 0
        · refine bwp_seq fun K hK => bwp_region rfl ?_
          simp -implicitDefEqProofs only [go_sem, ↓reduceIte, Nat.reduceEqDiff, Nat.reduceAdd, Nat.reduceLeDiff, Nat.reduceMul, Nat.reduceSub, Int.reduceLE, Int.reduceLT, Int.reduceEq, Int.reduceToNat, Int.reducePow, Int.reduceNeg, g1, g2, g3]
          refine callK_pure (isReg_pure a.reg) rfl rfl ?_
          simp -implicitDefEqProofs only [go_sem, ↓reduceIte, Nat.reduceEqDiff, Nat.reduceAdd, Nat.reduceLeDiff, Nat.reduceMul, Nat.reduceSub, Int.reduceLE, Int.reduceLT, Int.reduceEq, Int.reduceToNat, Int.reducePow, Int.reduceNeg]
          refine hK _ ?_; clear hK
          refine bwp_ret ?_
          simp only [go_sem]
          refine aend_ret _ rfl rfl ⟨?_, rfl⟩
          simp [fget, okAtomB, h1, g1, g2, g3]
        · refine bwp_seq fun K hK => bwp_region rfl ?_
          simp -implicitDefEqProofs only [go_sem, ↓reduceIte, Nat.reduceEqDiff, Nat.reduceAdd, Nat.reduceLeDiff, Nat.reduceMul, Nat.reduceSub, Int.reduceLE, Int.reduceLT, Int.reduceEq, Int.reduceToNat, Int.reducePow, Int.reduceNeg, g1, g2, g3]
          refine hK _ ?_; clear hK
          refine bwp_ret ?_
          simp only [go_sem]
          refine aend_ret _ rfl rfl ⟨?_, rfl⟩
          simp [fget, okAtomB, h1, g1, g2, g3]
      · refine bwp_seq fun K hK => bwp_region rfl ?_
        simp -implicitDefEqProofs only [go_sem, ↓reduceIte, Nat.reduceEqDiff, Nat.reduceAdd, Nat.reduceLeDiff, Nat.reduceMul, Nat.reduceSub, Int.reduceLE, Int.reduceLT, Int.reduceEq, Int.reduceToNat, Int.reducePow, Int.reduceNeg, g1, g2]
        refine hK _ ?_; clear hK
        refine bwp_ret ?_
        simp only [go_sem]
        refine aend_ret _ rfl rfl ⟨?_, rfl⟩
        simp [fget, okAtomB, h1, g1, g2]
    · refine bwp_seq fun K hK => bwp_region rfl ?_
      simp -implicitDefEqProofs only [go_sem, ↓reduceIte, Nat.reduceEqDiff, Nat.reduceAdd, Nat.reduceLeDiff, Nat.reduceMul, Nat.reduceSub, Int.reduceLE, Int.reduceLT, Int.reduceEq, Int.reduceToNat, Int.reducePow, Int.reduceNeg, g1]
      refine hK _ ?_; clear hK
      refine bwp_ret ?_
      simp only [go_sem]
      refine aend_ret _ rfl rfl ⟨?_, rfl⟩
      simp [fget, okAtomB, h1, g1]

theorem badAtom_pure (a : Atom) : Pure Tryd.prog 62 [.agg (a.cells.map .d)] (.d (.bool (!okAtomB a))) := by
  refine acalls_of Tryd.func62 ac62_ok Tryd.ntmps62 Tryd.results62 rfl ?_
  unfold ac62
  refine bwp_seq fun K hK => bwp_region rfl ?_
  simp -implicitDefEqProofs only [go_sem, ↓reduceIte, Nat.reduceEqDiff, Nat.reduceAdd, Nat.reduceLeDiff, Nat.reduceMul, Nat.reduceSub, Int.reduceLE, Int.reduceLT, Int.reduceEq, Int.reduceToNat, Int.reducePow, Int.reduceNeg, Atom.cells]
  refine hK _ ?_; clear hK
  refine bwp_seq fun K hK => bwp_region rfl ?_
  simp -implicitDefEqProofs only [go_sem, ↓reduceIte, Nat.reduceEqDiff, Nat.reduceAdd, Nat.reduceLeDiff, Nat.reduceMul, Nat.reduceSub, Int.reduceLE, Int.reduceLT, Int.reduceEq, Int.reduceToNat, Int.reducePow, Int.reduceNeg]
  refine callK_pure (okAtom_pure a) rfl rfl ?_
  simp -implicitDefEqProofs only [go_sem, ↓reduceIte, Nat.reduceEqDiff, Nat.reduceAdd, Nat.reduceLeDiff, Nat.reduceMul, Nat.reduceSub, Int.reduceLE, Int.reduceLT, Int.reduceEq, Int.reduceToNat, Int.reducePow, Int.reduceNeg]
  refine hK _ ?_; clear hK
  refine bwp_ret ?_
  simp only [go_sem]
  refine aend_ret _ rfl rfl ⟨?_, rfl⟩
  simp [fget]

def badRowB (l : List Atom) : Bool := decide (l.length = 0) || l.any fun a => !okAtomB a

theorem badRow_pure {l : List Atom} {X : DV} (hX : IsSl Atom.cells l X) : Pure Tryd.prog 60 [.d X] (.d (.bool (badRowB l))) := by
  refine acalls_of Tryd.func60 ac60_ok Tryd.ntmps60 Tryd.results60 rfl ?_
  unfold ac60
  refine bwp_seq fun K hK => bwp_region rfl ?_
  simp -implicitDefEqProofs only [go_sem, ↓reduceIte, Nat.reduceEqDiff, Nat.reduceAdd, Nat.reduceLeDiff, Nat.reduceMul, Nat.reduceSub, Int.reduceLE, Int.reduceLT, Int.reduceEq, Int.reduceToNat, Int.reducePow, Int.reduceNeg]
  refine hK _ ?_; clear hK
  have hl := hX.len
  by_cases h : l.length = 0
  · have h' : (l.length : Int) = 0 := by omega
    refine bwp_seq fun K hK => bwp_region rfl ?_
    simp -implicitDefEqProofs only [go_sem, ↓reduceIte, Nat.reduceEqDiff, Nat.reduceAdd, Nat.reduceLeDiff, Nat.reduceMul, Nat.reduceSub, Int.reduceLE, Int.reduceLT, Int.reduceEq, Int.reduceToNat, Int.reducePow, Int.reduceNeg, hl, h']
    refine hK _ ?_; clear hK
    refine bwp_ret ?_
    simp only [go_sem]
    refine aend_ret _ rfl rfl ⟨?_, rfl⟩
    simp [fget, badRowB, h]
  · have h' : ¬ (l.length : Int) = 0 := by omega
    refine bwp_seq fun K hK => bwp_region rfl ?_
    simp -implicitDefEqProofs only [go_sem, ↓reduceIte, Nat.reduceEqDiff, Nat.reduceAdd, Nat.reduceLeDiff, Nat.reduceMul, Nat.reduceSub, Int.reduceLE, Int.reduceLT, Int.reduceEq, Int.reduceToNat, Int.reducePow, Int.reduceNeg, hl, h']
    refine callK_pure (anyAtoms rfl rfl hX (fun a => !okAtomB a) fun a _ => badAtom_pure a) rfl rfl ?_
    simp -implicitDefEqProofs only [go_sem, ↓reduceIte, Nat.reduceEqDiff, Nat.reduceAdd, Nat.reduceLeDiff, Nat.reduceMul, Nat.reduceSub, Int.reduceLE, Int.reduceLT, Int.reduceEq, Int.reduceToNat, Int.reducePow, Int.reduceNeg]
    refine hK _ ?_; clear hK
    refine bwp_ret ?_
    simp only [go_sem]
    refine aend_ret _ rfl rfl ⟨?_, rfl⟩
    simp [fget, badRowB, h]

def okCondB (kind : Int) (rows : List (List Atom)) : Bool :=
  if kind = 0 then decide (rows.length = 0) else (decide (kind = 1) || decide (kind = 2)) && decide (0 < rows.length) && !rows.any badRowB

theorem okCond_pure {rows : List (List Atom)} {A : DV} (hA : IsSl2 Atom.cells rows A) (kind : Int) : Pure Tryd.prog 32 [.agg [.d (.int .i64 kind), .d A]] (.d (.bool (okCondB kind rows))) := by
  refine acalls_of Tryd.func32 ac32_ok Tryd.ntmps32 Tryd.results32 rfl ?_
  unfold ac32
  refine bwp_seq fun K hK => bwp_region rfl ?_
  simp -implicitDefEqProofs only [go_sem, ↓reduceIte, Nat.reduceEqDiff, Nat.reduceAdd, Nat.reduceLeDiff, Nat.reduceMul, Nat.reduceSub, Int.reduceLE, Int.reduceLT, Int.reduceEq, Int.reduceToNat, Int.reducePow, Int.reduceNeg]
  refine hK _ ?_; clear hK
  refine bwp_seq fun K hK => ?_
  refine bwp_seq fun K hK => bwp_region rfl ?_
  simp -implicitDefEqProofs only [go_sem, ↓reduceIte, Nat.reduceEqDiff, Nat.reduceAdd, Nat.reduceLeDiff, Nat.reduceMul, Nat.reduceSub, Int.reduceLE, Int.reduceLT, Int.reduceEq, Int.reduceToNat, Int.reducePow, Int.reduceNeg]
  refine hK _ ?_; clear hK
  have hl := hA.len
  by_cases h0 : kind = 0
  · refine bwp_cond true (by simp [ev, fget, h0]) (fun _ => ?_) (fun h => nomatch h)
    refine bwp_seq fun K hK => bwp_region rfl ?_
    simp -implicitDefEqProofs only [go_sem, ↓reduceIte, Nat.reduceEqDiff, Nat.reduceAdd, Nat.reduceLeDiff, Nat.reduceMul, Nat.reduceSub, Int.reduceLE, Int.reduceLT, Int.reduceEq, Int.reduceToNat, Int.reducePow, Int.reduceNeg, hl]
    refine hK _ ?_; clear hK
    refine bwp_ret ?_
    simp only [go_sem]
    refine aend_ret _ rfl rfl ⟨?_, rfl⟩
    have : ((rows.length : Int) = 0) = (rows.length = 0) := by apply propext; omega
    simp [fget, okCondB, h0]
  · refine bwp_cond false (by simp [ev, fget, h0]) (fun h => nomatch h) (fun _ => ?_)
    refine bwp_skip ?_
    refine hK _ ?_; clear hK
    refine bwp_seq fun K hK => bwp_region rfl ?_
    simp -implicitDefEqProofs only [go_sem, ↓reduceIte, Nat.reduceEqDiff, Nat.reduceAdd, Nat.reduceLeDiff, Nat.reduceMul, Nat.reduceSub, Int.reduceLE, Int.reduceLT, Int.reduceEq, Int.reduceToNat, Int.reducePow, Int.reduceNeg]
    refine hK _ ?_; clear hK
    by_cases hk : kind = 1 ∨ kind = 2
    · by_cases hr : 0 < rows.length
      · have hr' : (0 : Int) < rows.length := by omega
        have key : ∀ (dst : Option Nat) (r : List AOper) (K : St → Prop) (t : Fr) (m : Mem) (n : Nat), runOps Tryd.prog r ⟨putF t dst (.d (.bool (rows.any badRowB))), m, n⟩ K → callK Tryd.prog 64 [.d A, .fn 60 []] dst r K t m n :=
          fun dst r K t m n h => callK_pure (anyRows rfl rfl hA badRowB fun l _ d hd => badRow_pure hd) rfl rfl h
        rcases hk with h1 | h2
        · refine bwp_seq fun K hK => bwp_region rfl ?_
          simp -implicitDefEqProofs only [go_sem, ↓reduceIte, Nat.reduceEqDiff, Nat.reduceAdd, Nat.reduceLeDiff, Nat.reduceMul, Nat.reduceSub, Int.reduceLE, Int.reduceLT, Int.reduceEq, Int.reduceToNat, Int.reducePow, Int.reduceNeg, h1, hl, hr']
          refine key _ _ _ _ _ _ ?_
          simp -implicitDefEqProofs only [go_sem, ↓reduceIte, Nat.reduceEqDiff, Nat.reduceAdd, Nat.reduceLeDiff, Nat.reduceMul, Nat.reduceSub, Int.reduceLE, Int.reduceLT, Int.reduceEq, Int.reduceToNat, Int.reducePow, Int.reduceNeg]
          refine hK _ ?_; clear hK
          refine bwp_ret ?_
          simp only [go_sem]
          refine aend_ret _ rfl rfl ⟨?_, rfl⟩
          simp [fget, okCondB, h1, hr]
        · refine bwp_seq fun K hK => bwp_region rfl ?_
          simp -implicitDefEqProofs only [go_sem, ↓reduceIte, Nat.reduceEqDiff, Nat.reduceAdd, Nat.reduceLeDiff, Nat.reduceMul, Nat.reduceSub, Int.reduceLE, Int.reduceLT, Int.reduceEq, Int.reduceToNat, Int.reducePow, Int.reduceNeg, h2, hl, hr']
          refine key _ _ _ _ _ _ ?_
          simp -implicitDefEqProofs only [go_sem, ↓reduceIte, Nat.reduceEqDiff, Nat.reduceAdd, Nat.reduceLeDiff, Nat.reduceMul, Nat.reduceSub, Int.reduceLE, Int.reduceLT, Int.reduceEq, Int.reduceToNat, Int.reducePow, Int.reduceNeg]
          refine hK _ ?_; clear hK
          refine bwp_ret ?_
          simp only [go_sem]
          refine aend_ret _ rfl rfl ⟨?_, rfl⟩
          simp [fget, okCondB, h2, hr]
      · have hr' : ¬ (0 : Int) < rows.length := by omega
        rcases hk with h1 | h2
        · refine bwp_seq fun K hK => bwp_region rfl ?_
          simp -implicitDefEqProofs only [go_sem, ↓reduceIte, Nat.reduceEqDiff, Nat.reduceAdd, Nat.reduceLeDiff, Nat.reduceMul, Nat.reduceSub, Int.reduceLE, Int.reduceLT, Int.reduceEq, Int.reduceToNat, Int.reducePow, Int.reduceNeg, h1, hl, hr']
          refine hK _ ?_; clear hK
          refine bwp_ret ?_
          simp only [go_sem]
          refine aend_ret _ rfl rfl ⟨?_, rfl⟩
          simp [fget, okCondB, h1, hr]
        · refine bwp_seq fun K hK => bwp_region rfl ?_
          simp -implicitDefEqProofs only [go_sem, ↓reduceIte, Nat.reduceEqDiff, Nat.reduceAdd, Nat.reduceLeDiff, Nat.reduceMul, Nat.reduceSub, Int.reduceLE, Int.reduceLT, Int.reduceEq, Int.reduceToNat, Int.reducePow, Int.reduceNeg, h2, hl, hr']
          refine hK _ ?_; clear hK
          refine bwp_ret ?_
          simp only [go_sem]
          refine aend_ret _ rfl rfl ⟨?_, rfl⟩
          simp [fget, okCondB, h2, hr]
    · have h1 : ¬ kind = 1 := fun h => hk (.inl h)
      have h2 : ¬ kind = 2 := fun h => hk (.inr h)
      refine bwp_seq fun K hK => bwp_region rfl ?_
      simp -implicitDefEqProofs only [go_sem, ↓reduceIte, Nat.reduceEqDiff, Nat.reduceAdd, Nat.reduceLeDiff, Nat.reduceMul, Nat.reduceSub, Int.reduceLE, Int.reduceLT, Int.reduceEq, Int.reduceToNat, Int.reducePow, Int.reduceNeg, h1, h2]
      refine hK _ ?_; clear hK
      refine bwp_ret ?_
      simp only [go_sem]
      refine aend_ret _ rfl rfl ⟨?_, rfl⟩
      simp [fget, okCondB, h0, h1, h2]

theorem badIns_pure (x : Ins) : Pure Tryd.prog 25 [.agg (x.cells.map .d)] (.d (.bool (!okInsB x))) := by
  refine acalls_of Tryd.func25 ac25_ok Tryd.ntmps25 Tryd.results25 rfl ?_
  unfold ac25
  refine bwp_seq fun K hK => bwp_region rfl ?_
  simp -implicitDefEqProofs only [go_sem, ↓reduceIte, Nat.reduceEqDiff, Nat.reduceAdd, Nat.reduceLeDiff, Nat.reduceMul, Nat.reduceSub, Int.reduceLE, Int.reduceLT, Int.reduceEq, Int.reduceToNat, Int.reducePow, Int.reduceNeg, Ins.cells]
  refine hK _ ?_; clear hK
  refine bwp_seq fun K hK => bwp_region rfl ?_
  simp -implicitDefEqProofs only [go_sem, ↓reduceIte, Nat.reduceEqDiff, Nat.reduceAdd, Nat.reduceLeDiff, Nat.reduceMul, Nat.reduceSub, Int.reduceLE, Int.reduceLT, Int.reduceEq, Int.reduceToNat, Int.reducePow, Int.reduceNeg]
  refine callK_pure (okIns_pure x) rfl rfl ?_
  simp -implicitDefEqProofs only [go_sem, ↓reduceIte, Nat.reduceEqDiff, Nat.reduceAdd, Nat.reduceLeDiff, Nat.reduceMul, Nat.reduceSub, Int.reduceLE, Int.reduceLT, Int.reduceEq, Int.reduceToNat, Int.reducePow, Int.reduceNeg]
  refine hK _ ?_; clear hK
  refine bwp_ret ?_
  simp only [go_sem]
  refine aend_ret _ rfl rfl ⟨?_, rfl⟩
  simp [fget]

def badThreadB (l : List Ins) : Bool := l.any fun x => !okInsB x

theorem badThread_pure {l : List Ins} {X : DV} (hX : IsSl Ins.cells l X) : Pure Tryd.prog 23 [.d X] (.d (.bool (badThreadB l))) := by
  refine acalls_of Tryd.func23 ac23_ok Tryd.ntmps23 Tryd.results23 rfl ?_
  unfold ac23
  refine bwp_seq fun K hK => bwp_region rfl ?_
  simp -implicitDefEqProofs only [go_sem, ↓reduceIte, Nat.reduceEqDiff, Nat.reduceAdd, Nat.reduceLeDiff, Nat.reduceMul, Nat.reduceSub, Int.reduceLE, Int.reduceLT, Int.reduceEq, Int.reduceToNat, Int.reducePow, Int.reduceNeg]
  refine hK _ ?_; clear hK
  refine bwp_seq fun K hK => bwp_region rfl ?_
  simp -implicitDefEqProofs only [go_sem, ↓reduceIte, Nat.reduceEqDiff, Nat.reduceAdd, Nat.reduceLeDiff, Nat.reduceMul, Nat.reduceSub, Int.reduceLE, Int.reduceLT, Int.reduceEq, Int.reduceToNat, Int.reducePow, Int.reduceNeg]
  refine callK_pure (anyInss rfl rfl hX (fun x => !okInsB x) fun a _ => badIns_pure a) rfl rfl ?_
  simp -implicitDefEqProofs only [go_sem, ↓reduceIte, Nat.reduceEqDiff, Nat.reduceAdd, Nat.reduceLeDiff, Nat.reduceMul, Nat.reduceSub, Int.reduceLE, Int.reduceLT, Int.reduceEq, Int.reduceToNat, Int.reducePow, Int.reduceNeg]
  refine hK _ ?_; clear hK
  refine bwp_ret ?_
  simp only [go_sem]
  refine aend_ret _ rfl rfl ⟨?_, rfl⟩
  rfl

theorem badInit_pure (x : Init) : Pure Tryd.prog 29 [.agg (x.cells.map .d)] (.d (.bool (!isLocB x.loc))) := by
  refine acalls_of Tryd.func29 ac29_ok Tryd.ntmps29 Tryd.results29 rfl ?_
  unfold ac29
  refine bwp_seq fun K hK => bwp_region rfl ?_
  simp -implicitDefEqProofs only [go_sem, ↓reduceIte, Nat.reduceEqDiff, Nat.reduceAdd, Nat.reduceLeDiff, Nat.reduceMul, Nat.reduceSub, Int.reduceLE, Int.reduceLT, Int.reduceEq, Int.reduceToNat, Int.reducePow, Int.reduceNeg, Init.cells]
  refine hK _ ?_; clear hK
  refine bwp_seq fun K hK => bwp_region rfl ?_
  simp -implicitDefEqProofs only [go_sem, ↓reduceIte, Nat.reduceEqDiff, Nat.reduceAdd, Nat.reduceLeDiff, Nat.reduceMul, Nat.reduceSub, Int.reduceLE, Int.reduceLT, Int.reduceEq, Int.reduceToNat, Int.reducePow, Int.reduceNeg]
  refine callK_pure (isLoc_pure x.loc) rfl rfl ?_
  simp -implicitDefEqProofs only [go_sem, ↓reduceIte, Nat.reduceEqDiff, Nat.reduceAdd, Nat.reduceLeDiff, Nat.reduceMul, Nat.reduceSub, Int.reduceLE, Int.reduceLT, Int.reduceEq, Int.reduceToNat, Int.reducePow, Int.reduceNeg]
  refine hK _ ?_; clear hK
  refine bwp_ret ?_
  simp only [go_sem]
  refine aend_ret _ rfl rfl ⟨?_, rfl⟩
  simp [fget]

def badInitB (l : List Init) : Bool := l.any fun x => !isLocB x.loc

/-- Whether a test may be. -/
def okB (t : Test) : Bool := isWordB t.name && !badInitB t.inits && !t.threads.any badThreadB && okCondB t.kind t.rows

theorem ok_pure {t : Test} {cs : List DV} (hT : IsTest t cs) (hn : t.name.length ≤ 9223372036854775807) : Pure Tryd.prog 9 [.agg (cs.map .d)] (.d (.bool (okB t))) := by
  obtain ⟨I, T, A, rfl, hI, hTh, hA⟩ := hT
  have kI : ∀ (dst : Option Nat) (r : List AOper) (K : St → Prop) (t' : Fr) (m : Mem) (n : Nat), runOps Tryd.prog r ⟨putF t' dst (.d (.bool (badInitB t.inits))), m, n⟩ K → callK Tryd.prog 28 [.d I, .fn 29 []] dst r K t' m n :=
    fun dst r K t m n h => callK_pure (anyInits rfl rfl hI (fun x => !isLocB x.loc) fun a _ => badInit_pure a) rfl rfl h
  have kT : ∀ (dst : Option Nat) (r : List AOper) (K : St → Prop) (t' : Fr) (m : Mem) (n : Nat), runOps Tryd.prog r ⟨putF t' dst (.d (.bool (t.threads.any badThreadB))), m, n⟩ K → callK Tryd.prog 31 [.d T, .fn 23 []] dst r K t' m n :=
    fun dst r K t m n h => callK_pure (anyThreads rfl rfl hTh badThreadB fun l _ d hd => badThread_pure hd) rfl rfl h
  refine acalls_of Tryd.func9 ac9_ok Tryd.ntmps9 Tryd.results9 rfl ?_
  unfold ac9
  refine bwp_seq fun K hK => bwp_region rfl ?_
  simp -implicitDefEqProofs only [go_sem, ↓reduceIte, Nat.reduceEqDiff, Nat.reduceAdd, Nat.reduceLeDiff, Nat.reduceMul, Nat.reduceSub, Int.reduceLE, Int.reduceLT, Int.reduceEq, Int.reduceToNat, Int.reducePow, Int.reduceNeg]
  refine hK _ ?_; clear hK
  refine bwp_seq fun K hK => bwp_region rfl ?_
  simp -implicitDefEqProofs only [go_sem, ↓reduceIte, Nat.reduceEqDiff, Nat.reduceAdd, Nat.reduceLeDiff, Nat.reduceMul, Nat.reduceSub, Int.reduceLE, Int.reduceLT, Int.reduceEq, Int.reduceToNat, Int.reducePow, Int.reduceNeg]
  refine hK _ ?_; clear hK
  refine bwp_seq fun K hK => bwp_region rfl ?_
  simp -implicitDefEqProofs only [go_sem, ↓reduceIte, Nat.reduceEqDiff, Nat.reduceAdd, Nat.reduceLeDiff, Nat.reduceMul, Nat.reduceSub, Int.reduceLE, Int.reduceLT, Int.reduceEq, Int.reduceToNat, Int.reducePow, Int.reduceNeg]
  refine callK_pure (isWord_pure t.name hn) rfl rfl ?_
  cases hw : isWordB t.name
  · simp -implicitDefEqProofs only [go_sem, ↓reduceIte, Nat.reduceEqDiff, Nat.reduceAdd, Nat.reduceLeDiff, Nat.reduceMul, Nat.reduceSub, Int.reduceLE, Int.reduceLT, Int.reduceEq, Int.reduceToNat, Int.reducePow, Int.reduceNeg]
    refine hK _ ?_; clear hK
    refine bwp_ret ?_
    simp only [go_sem]
    refine aend_ret _ rfl rfl ⟨?_, rfl⟩
    simp [fget, okB, hw]
  · simp -implicitDefEqProofs only [go_sem, ↓reduceIte, Nat.reduceEqDiff, Nat.reduceAdd, Nat.reduceLeDiff, Nat.reduceMul, Nat.reduceSub, Int.reduceLE, Int.reduceLT, Int.reduceEq, Int.reduceToNat, Int.reducePow, Int.reduceNeg]
    refine kI _ _ _ _ _ _ ?_
    cases hi : badInitB t.inits
    · simp -implicitDefEqProofs only [go_sem, ↓reduceIte, Nat.reduceEqDiff, Nat.reduceAdd, Nat.reduceLeDiff, Nat.reduceMul, Nat.reduceSub, Int.reduceLE, Int.reduceLT, Int.reduceEq, Int.reduceToNat, Int.reducePow, Int.reduceNeg]
      refine kT _ _ _ _ _ _ ?_
      cases ht : t.threads.any badThreadB
      · simp -implicitDefEqProofs only [go_sem, ↓reduceIte, Nat.reduceEqDiff, Nat.reduceAdd, Nat.reduceLeDiff, Nat.reduceMul, Nat.reduceSub, Int.reduceLE, Int.reduceLT, Int.reduceEq, Int.reduceToNat, Int.reducePow, Int.reduceNeg]
        refine callK_pure (okCond_pure hA t.kind) rfl rfl ?_
        simp -implicitDefEqProofs only [go_sem, ↓reduceIte, Nat.reduceEqDiff, Nat.reduceAdd, Nat.reduceLeDiff, Nat.reduceMul, Nat.reduceSub, Int.reduceLE, Int.reduceLT, Int.reduceEq, Int.reduceToNat, Int.reducePow, Int.reduceNeg]
        refine hK _ ?_; clear hK
        refine bwp_ret ?_
        simp only [go_sem]
        refine aend_ret _ rfl rfl ⟨?_, rfl⟩
        simp [fget, okB, hw, hi, ht]
      · simp -implicitDefEqProofs only [go_sem, ↓reduceIte, Nat.reduceEqDiff, Nat.reduceAdd, Nat.reduceLeDiff, Nat.reduceMul, Nat.reduceSub, Int.reduceLE, Int.reduceLT, Int.reduceEq, Int.reduceToNat, Int.reducePow, Int.reduceNeg]
        refine hK _ ?_; clear hK
        refine bwp_ret ?_
        simp only [go_sem]
        refine aend_ret _ rfl rfl ⟨?_, rfl⟩
        simp [fget, okB, hw, hi, ht]
    · simp -implicitDefEqProofs only [go_sem, ↓reduceIte, Nat.reduceEqDiff, Nat.reduceAdd, Nat.reduceLeDiff, Nat.reduceMul, Nat.reduceSub, Int.reduceLE, Int.reduceLT, Int.reduceEq, Int.reduceToNat, Int.reducePow, Int.reduceNeg]
      refine hK _ ?_; clear hK
      refine bwp_ret ?_
      simp only [go_sem]
      refine aend_ret _ rfl rfl ⟨?_, rfl⟩
      simp [fget, okB, hw, hi]

end Go.Proofs.YtgfkgngpganllaaDoor
