/- What the functions of package cond come to, told without a heap: one atom, a condition at one end. -/
import Derived.Test.YtjfghjakpjfgpaaC1
namespace Go.Proofs.Ytjfghjakpjfgpaa
open Go Go.Jq
set_option maxRecDepth 100000
set_option linter.unusedSimpArgs false

structure Atom where
  thread : Int
  reg : Int
  loc : Int
  value : Int

def Atom.cells (a : Atom) : List DV := [.int .i64 a.thread, .int .i64 a.reg, .int .i64 a.loc, .int .i64 a.value]

/-- A final state's cells: 16 registers, 4 places of memory. -/
def finD (f : List Int) : List DV := f.map fun x => .int .i64 x
def finAV (f : List Int) : AV := .agg ((finD f).map .d)

/-- Whether an atom holds (locs: the locations' letters; nt: how many threads). -/
def atomHolds (locs : List UInt8) (nt : Nat) (a : Atom) (f : List Int) : Bool :=
  if a.thread = -1 then
    if 0 ≤ a.loc ∧ a.loc < 256 ∧ 0 ≤ Lib.indexByte locs a.loc.toNat.toUInt8 ∧ Lib.indexByte locs a.loc.toNat.toUInt8 < 4 then
      decide (f.getD (16 + (Lib.indexByte locs a.loc.toNat.toUInt8).toNat) 0 = a.value) else false
  else if 0 ≤ a.thread ∧ a.thread < nt ∧ a.thread < 4 ∧ 0 ≤ a.reg ∧ a.reg < 4 then
    decide (f.getD (a.thread.toNat * 4 + a.reg.toNat) 0 = a.value) else false

theorem atom_pure {L I T : DV} {locs : List UInt8} {nt : Nat} (hL : IsBytes L locs) (hT : lenA (.d T) = some nt) (a : Atom) {f : List Int} (hf : f.length = 20) :
    Pure Try.prog 26 [.agg [.d L, .d I, .d T], .agg (a.cells.map .d), finAV f] (.d (.bool (atomHolds locs nt a f))) := by
  have hget : ∀ i, i < 20 → (f.map fun x => AV.d (.int .i64 x))[i]? = some (.d (.int .i64 (f.getD i 0))) := fun i hi => by
    rw [List.getElem?_map, List.getD_eq_getElem?_getD]
    have : i < f.length := by omega
    simp [this]
  have hlen : (f.map fun x => AV.d (.int .i64 x)).length = 20 := by simp [hf]
  have hfin : (finD f).map AV.d = f.map fun x => AV.d (.int .i64 x) := by simp [finD]
  unfold finAV
  rw [hfin]
  generalize hF : (f.map fun x => AV.d (.int .i64 x)) = F at hget hlen
  refine acalls_of Try.func26 ac26_ok Try.ntmps26 Try.results26 rfl ?_
  unfold ac26
  refine bwp_seq fun K hK => bwp_region rfl ?_
  simp -implicitDefEqProofs only [go_sem, ↓reduceIte, Nat.reduceEqDiff, Nat.reduceAdd, Nat.reduceLeDiff, Nat.reduceMul, Nat.reduceSub, Int.reduceLE, Int.reduceLT, Int.reduceEq, Int.reduceToNat, Int.reducePow, Int.reduceNeg, Atom.cells]
  refine hK _ ?_; clear hK
  refine bwp_seq fun K hK => ?_
  refine bwp_seq fun K hK => bwp_region rfl ?_
  simp -implicitDefEqProofs only [go_sem, ↓reduceIte, Nat.reduceEqDiff, Nat.reduceAdd, Nat.reduceLeDiff, Nat.reduceMul, Nat.reduceSub, Int.reduceLE, Int.reduceLT, Int.reduceEq, Int.reduceToNat, Int.reducePow, Int.reduceNeg]
  refine hK _ ?_; clear hK
  by_cases h1 : a.thread = -1
  · refine bwp_cond true (by simp [ev, fget, h1]) (fun _ => ?_) (fun h => nomatch h)
    refine bwp_seq fun K hK => bwp_region rfl ?_
    simp -implicitDefEqProofs only [go_sem, ↓reduceIte, Nat.reduceEqDiff, Nat.reduceAdd, Nat.reduceLeDiff, Nat.reduceMul, Nat.reduceSub, Int.reduceLE, Int.reduceLT, Int.reduceEq, Int.reduceToNat, Int.reducePow, Int.reduceNeg]
    refine hK _ ?_; clear hK
    have fin : ∀ (t : Fr) (b : Bool), fget t 6 = .d (.bool b) → b = atomHolds locs nt a f → ∀ (m : Mem) (n : Nat) (Q : Exit → St → Prop), (∀ S, AEnd Try.prog #[.tmp 6] 0 (fun r m' => r = .d (.bool (atomHolds locs nt a f)) ∧ m' = []) .ret S → Q .ret S) → BWP Try.prog (mbound []) 73 .ret ⟨t, m, n⟩ Q := by
      intro t b ht hb m n Q hQ
      refine bwp_ret (hQ _ ?_)
      refine aend_ret (.d (.bool b)) (by simp [resA, resVs, resV, ht]) rfl ⟨by rw [hb], rfl⟩
    refine bwp_seq fun K1 hK1 => ?_
    by_cases h2 : 0 ≤ a.loc
    · by_cases h3 : a.loc < 256
      · have hb : IntKind.u8.wrap a.loc = a.loc := wrap_u8 h2 (by omega)
        refine bwp_seq fun K hK => bwp_region rfl ?_
        simp -implicitDefEqProofs only [go_sem, ↓reduceIte, Nat.reduceEqDiff, Nat.reduceAdd, Nat.reduceLeDiff, Nat.reduceMul, Nat.reduceSub, Int.reduceLE, Int.reduceLT, Int.reduceEq, Int.reduceToNat, Int.reducePow, Int.reduceNeg, h2, h3, decide_true]
        refine hK _ ?_; clear hK
        refine bwp_cond true (by simp [ev, fget]) (fun _ => ?_) (fun h => nomatch h)
        refine bwp_region rfl ?_
        simp -implicitDefEqProofs only [go_sem, ↓reduceIte, Nat.reduceEqDiff, Nat.reduceAdd, Nat.reduceLeDiff, Nat.reduceMul, Nat.reduceSub, Int.reduceLE, Int.reduceLT, Int.reduceEq, Int.reduceToNat, Int.reducePow, Int.reduceNeg, hb]
        refine callK_pure (indexByte_pure hL a.loc) rfl rfl ?_
        simp -implicitDefEqProofs only [go_sem, ↓reduceIte, Nat.reduceEqDiff, Nat.reduceAdd, Nat.reduceLeDiff, Nat.reduceMul, Nat.reduceSub, Int.reduceLE, Int.reduceLT, Int.reduceEq, Int.reduceToNat, Int.reducePow, Int.reduceNeg]
        refine hK1 _ ?_; clear hK1
        generalize hr : Lib.indexByte locs a.loc.toNat.toUInt8 = r
        by_cases h4 : 0 ≤ r
        · by_cases h5 : r < 4
          · refine bwp_seq fun K hK => bwp_region_draw rfl rfl ?_
            simp -implicitDefEqProofs only [go_sem, ↓reduceIte, Nat.reduceEqDiff, Nat.reduceAdd, Nat.reduceLeDiff, Nat.reduceMul, Nat.reduceSub, Int.reduceLE, Int.reduceLT, Int.reduceEq, Int.reduceToNat, Int.reducePow, Int.reduceNeg, h4, h5, decide_true, List.getElem?_drop, hget (16 + r.toNat) (by omega)]
            refine ⟨rfl, hK _ ?_⟩; clear hK
            refine fin _ _ rfl ?_ _ _ _ fun S h => h
            simp only [atomHolds, h1, h2, h3, hr, h4, h5, and_self, if_true]
          · refine bwp_seq fun K hK => bwp_region_draw rfl rfl ?_
            simp -implicitDefEqProofs only [go_sem, ↓reduceIte, Nat.reduceEqDiff, Nat.reduceAdd, Nat.reduceLeDiff, Nat.reduceMul, Nat.reduceSub, Int.reduceLE, Int.reduceLT, Int.reduceEq, Int.reduceToNat, Int.reducePow, Int.reduceNeg, h4, h5, decide_true, decide_false]
            refine ⟨rfl, hK _ ?_⟩; clear hK
            refine fin _ _ rfl ?_ _ _ _ fun S h => h
            simp [atomHolds, h1, h2, h3, hr, h4, h5]
        · refine bwp_seq fun K hK => bwp_region_draw rfl rfl ?_
          simp -implicitDefEqProofs only [go_sem, ↓reduceIte, Nat.reduceEqDiff, Nat.reduceAdd, Nat.reduceLeDiff, Nat.reduceMul, Nat.reduceSub, Int.reduceLE, Int.reduceLT, Int.reduceEq, Int.reduceToNat, Int.reducePow, Int.reduceNeg, h4, decide_true, decide_false]
          refine ⟨rfl, hK _ ?_⟩; clear hK
          refine fin _ _ rfl ?_ _ _ _ fun S h => h
          simp [atomHolds, h1, h2, h3, hr, h4]
      · refine bwp_seq fun K hK => bwp_region rfl ?_
        simp -implicitDefEqProofs only [go_sem, ↓reduceIte, Nat.reduceEqDiff, Nat.reduceAdd, Nat.reduceLeDiff, Nat.reduceMul, Nat.reduceSub, Int.reduceLE, Int.reduceLT, Int.reduceEq, Int.reduceToNat, Int.reducePow, Int.reduceNeg, h2, h3, decide_true, decide_false]
        refine hK _ ?_; clear hK
        refine bwp_cond false (by simp [ev, fget]) (fun h => nomatch h) (fun _ => ?_)
        refine bwp_skip ?_
        refine hK1 _ ?_; clear hK1
        refine bwp_seq fun K hK => bwp_region_draw rfl rfl ?_
        simp -implicitDefEqProofs only [go_sem, ↓reduceIte, Nat.reduceEqDiff, Nat.reduceAdd, Nat.reduceLeDiff, Nat.reduceMul, Nat.reduceSub, Int.reduceLE, Int.reduceLT, Int.reduceEq, Int.reduceToNat, Int.reducePow, Int.reduceNeg, decide_true, decide_false, show decide ((0 : Int) ≤ -1) = false from rfl]
        refine ⟨rfl, hK _ ?_⟩; clear hK
        refine fin _ _ rfl ?_ _ _ _ fun S h => h
        simp [atomHolds, h1, h2, h3]
    · refine bwp_seq fun K hK => bwp_region rfl ?_
      simp -implicitDefEqProofs only [go_sem, ↓reduceIte, Nat.reduceEqDiff, Nat.reduceAdd, Nat.reduceLeDiff, Nat.reduceMul, Nat.reduceSub, Int.reduceLE, Int.reduceLT, Int.reduceEq, Int.reduceToNat, Int.reducePow, Int.reduceNeg, h2, decide_false]
      refine hK _ ?_; clear hK
      refine bwp_cond false (by simp [ev, fget]) (fun h => nomatch h) (fun _ => ?_)
      refine bwp_skip ?_
      refine hK1 _ ?_; clear hK1
      refine bwp_seq fun K hK => bwp_region_draw rfl rfl ?_
      simp -implicitDefEqProofs only [go_sem, ↓reduceIte, Nat.reduceEqDiff, Nat.reduceAdd, Nat.reduceLeDiff, Nat.reduceMul, Nat.reduceSub, Int.reduceLE, Int.reduceLT, Int.reduceEq, Int.reduceToNat, Int.reducePow, Int.reduceNeg, decide_true, decide_false, show decide ((0 : Int) ≤ -1) = false from rfl]
      refine ⟨rfl, hK _ ?_⟩; clear hK
      refine fin _ _ rfl ?_ _ _ _ fun S h => h
      simp [atomHolds, h1, h2]
  · refine bwp_cond false (by simp [ev, fget, h1]) (fun h => nomatch h) (fun _ => ?_)
    refine bwp_skip ?_
    refine hK _ ?_; clear hK
    refine bwp_seq fun K hK => ?_
    have hm : (if (4 : Int) < (nt : Int) then (4 : Int) else nt) = min 4 (nt : Int) := by omega
    have fin : ∀ S : St, fget S.t 61 = .d (.bool true) → atomHolds locs nt a f = false → BWP Try.prog (mbound []) 73 (.cond (.t 61) (.seq (.region false [⟨(some 6), .mv (.c (.d (.bool false))), none⟩] []) .ret) .skip) S (Exit.thenA K (AEnd Try.prog #[.tmp 6] (mbound []) fun r m' => r = .d (.bool (atomHolds locs nt a f)) ∧ m' = [])) := by
      rintro ⟨t, m, n⟩ ht hb
      refine bwp_cond true (by simp [ev, fget, ht]) (fun _ => ?_) (fun h => nomatch h)
      refine bwp_seq fun K hK => bwp_region (by simp [mbound]) ?_
      simp -implicitDefEqProofs only [go_sem, ↓reduceIte, Nat.reduceEqDiff, Nat.reduceAdd, Nat.reduceLeDiff, Nat.reduceMul, Nat.reduceSub, Int.reduceLE, Int.reduceLT, Int.reduceEq, Int.reduceToNat, Int.reducePow, Int.reduceNeg]
      refine hK _ ?_; clear hK
      refine bwp_ret ?_
      simp only [go_sem]
      refine aend_ret _ rfl rfl ⟨?_, rfl⟩
      simp only [fget, ↓reduceIte, hb]
    by_cases h2 : a.thread < 0
    · refine bwp_seq fun K hK => bwp_region rfl ?_
      simp -implicitDefEqProofs only [go_sem, ↓reduceIte, Nat.reduceEqDiff, Nat.reduceAdd, Nat.reduceLeDiff, Nat.reduceMul, Nat.reduceSub, Int.reduceLE, Int.reduceLT, Int.reduceEq, Int.reduceToNat, Int.reducePow, Int.reduceNeg, h2, decide_true]
      refine hK _ ?_; clear hK
      refine fin _ rfl ?_
      have : ¬ 0 ≤ a.thread := by omega
      simp [atomHolds, h1, this]
    · by_cases h3 : min 4 (nt : Int) ≤ a.thread
      · refine bwp_seq fun K hK => bwp_region rfl ?_
        simp -implicitDefEqProofs only [go_sem, ↓reduceIte, Nat.reduceEqDiff, Nat.reduceAdd, Nat.reduceLeDiff, Nat.reduceMul, Nat.reduceSub, Int.reduceLE, Int.reduceLT, Int.reduceEq, Int.reduceToNat, Int.reducePow, Int.reduceNeg, h2, decide_false, hT, hm, h3, decide_true]
        refine hK _ ?_; clear hK
        refine fin _ rfl ?_
        have : ¬ (a.thread < nt ∧ a.thread < 4) := by omega
        simp only [atomHolds, h1, if_false]
        rw [if_neg (by omega)]
      · by_cases h4 : a.reg < 0
        · refine bwp_seq fun K hK => bwp_region rfl ?_
          simp -implicitDefEqProofs only [go_sem, ↓reduceIte, Nat.reduceEqDiff, Nat.reduceAdd, Nat.reduceLeDiff, Nat.reduceMul, Nat.reduceSub, Int.reduceLE, Int.reduceLT, Int.reduceEq, Int.reduceToNat, Int.reducePow, Int.reduceNeg, h2, decide_false, hT, hm, h3, decide_true, h4]
          refine hK _ ?_; clear hK
          refine fin _ rfl ?_
          simp only [atomHolds, h1, if_false]
          rw [if_neg (by omega)]
        · by_cases h5 : 4 ≤ a.reg
          · refine bwp_seq fun K hK => bwp_region rfl ?_
            simp -implicitDefEqProofs only [go_sem, ↓reduceIte, Nat.reduceEqDiff, Nat.reduceAdd, Nat.reduceLeDiff, Nat.reduceMul, Nat.reduceSub, Int.reduceLE, Int.reduceLT, Int.reduceEq, Int.reduceToNat, Int.reducePow, Int.reduceNeg, h2, decide_false, hT, hm, h3, decide_true, h4, h5]
            refine hK _ ?_; clear hK
            refine fin _ rfl ?_
            simp only [atomHolds, h1, if_false]
            rw [if_neg (by omega)]
          · refine bwp_seq fun K hK => bwp_region rfl ?_
            simp -implicitDefEqProofs only [go_sem, ↓reduceIte, Nat.reduceEqDiff, Nat.reduceAdd, Nat.reduceLeDiff, Nat.reduceMul, Nat.reduceSub, Int.reduceLE, Int.reduceLT, Int.reduceEq, Int.reduceToNat, Int.reducePow, Int.reduceNeg, h2, decide_false, hT, hm, h3, decide_true, h4, h5]
            refine hK _ ?_; clear hK
            refine bwp_cond false (by simp [ev, fget]) (fun h => nomatch h) (fun _ => ?_)
            refine bwp_skip ?_
            refine hK _ ?_; clear hK
            have h6 : 0 ≤ a.thread := by omega
            have h7 : a.thread < 4 := by omega
            have h8 : 0 ≤ a.reg := by omega
            have h9 : a.reg < 4 := by omega
            refine bwp_seq fun K hK => bwp_region_draw rfl rfl ?_
            simp -implicitDefEqProofs only [go_sem, ↓reduceIte, Nat.reduceEqDiff, Nat.reduceAdd, Nat.reduceLeDiff, Nat.reduceMul, Nat.reduceSub, Int.reduceLE, Int.reduceLT, Int.reduceEq, Int.reduceToNat, Int.reducePow, Int.reduceNeg, h6, h7, h8, h9, List.getElem?_drop, hget (a.thread.toNat * 4 + a.reg.toNat) (by omega)]
            refine ⟨rfl, hK _ ?_⟩; clear hK
            refine bwp_ret ?_
            simp only [go_sem]
            refine aend_ret _ rfl rfl ⟨?_, rfl⟩
            simp only [fget, ↓reduceIte, Nat.reduceEqDiff, atomHolds, h1, if_false]
            rw [if_pos ⟨h6, by omega, h7, h8, h9⟩]

end Go.Proofs.Ytjfghjakpjfgpaa
