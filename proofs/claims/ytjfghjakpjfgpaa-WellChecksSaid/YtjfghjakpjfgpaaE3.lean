/- What a test is compiled to, told without a heap. -/
import Derived.Test.YtjfghjakpjfgpaaE2
namespace Go.Proofs.Ytjfghjakpjfgpaa
open Go Go.Jq
set_option maxRecDepth 100000
set_option linter.unusedSimpArgs false

structure Prog where
  locs : List UInt8
  init : List Int
  threads : List (List Ins)

/-- A program as data. -/
def IsProg (p : Prog) (cs : List DV) : Prop := ∃ I T, cs = [bytesD p.locs, I, T] ∧ IsInts p.init I ∧ IsSl2 Ins.cells p.threads T

def refInit (l : List Init) (b : UInt8) : Int := l.foldl (fun v x => if x.loc = (b.toNat : Int) then x.value else v) 0
def refIns (locs : List UInt8) (x : Ins) : Ins := if x.loc = 0 then x else { x with loc := place locs x.loc }
def refProg (t : Test) : Prog := ⟨refLocs t, (refLocs t).map (refInit t.inits), t.threads.map (·.map (refIns (refLocs t)))⟩

/-- The state in the loops over locations. -/
def cpA (cs : List DV) (L : DV) (vs : List Int) (ex : Fr) : St :=
  ⟨ex ++ [(1, .dptr cs), (2, .ptr 0 0), (3, .ptr 1 0)], [(0, [.d .nsl, .d .nsl, .d .nsl]), (1, [.d L, .sl 2 1 0 vs.length, .d .nsl]), (2, (vs.map (DV.int .i64)).map .d)], 3⟩

theorem comp_inits {t : Test} {I T A : DV} {nm : List UInt8} {kd : Int} (hI : IsSl Init.cells t.inits I) {locs : List UInt8} {i : Nat} (hi : i < locs.length) {vs : List Int} {Q : Exit → St → Prop}
    (hQ : Q (.exit 2) (cpA [.str nm, I, T, .int .i64 kd, A] (bytesD locs) vs [(6, .d (.int .i64 t.inits.length)), (5, .d (.int .i64 (refInit t.inits locs[i]))), (4, .d (.int .i64 i))])) :
    BWP Try.prog (mbound []) 97 (.loop ac13L0) (cpA [.str nm, I, T, .int .i64 kd, A] (bytesD locs) vs [(6, .d (.int .i64 (0 : Nat))), (5, .d (.int .i64 0)), (4, .d (.int .i64 i))]) Q := by
  have hbig := hI.1
  obtain ⟨restb, hrb⟩ := bytes_at locs i hi
  have hil : (i : Int) < locs.length := by omega
  have hb : (locs[i].toNat : Int) < 256 := by have := locs[i].toNat_lt; omega
  have hwb : IntKind.i64.wrap (locs[i].toNat : Int) = (locs[i].toNat : Int) := wrap_i64 (by omega) (by omega)
  refine bwp_count (fun k => cpA [.str nm, I, T, .int .i64 kd, A] (bytesD locs) vs [(6, .d (.int .i64 (k : Nat))), (5, .d (.int .i64 (refInit (t.inits.take k) locs[i]))), (4, .d (.int .i64 i))]) t.inits.length ?_
  intro k hk
  generalize hv : refInit (t.inits.take k) locs[i] = v
  unfold ac13L0 cpA
  refine bwp_seq fun K1 hK1 => ?_
  have hlen' := hI.len
  by_cases hlt : k < t.inits.length
  · have hlt' : (k : Int) < t.inits.length := by omega
    obtain ⟨cs, rest, hIe, hdrop, hcs⟩ := hI.at init_len (by omega) k hlt
    have hnx : refInit (t.inits.take (k + 1)) locs[i] = if t.inits[k].loc = (locs[i].toNat : Int) then t.inits[k].value else v := by
      have := foldl_next (fun v (x : Init) => if x.loc = (locs[i].toNat : Int) then x.value else v) 0 t.inits k hlt
      unfold refInit at hv ⊢
      rw [this, hv]
    have hw : IntKind.i64.wrap ((k : Int) + 1) = ((k + 1 : Nat) : Int) := by rw [wrap_i64 (by omega) (by omega)]; rfl
    refine bwp_seq fun K hK => bwp_region rfl ?_
    simp -implicitDefEqProofs only [go_sem, ↓reduceIte, Nat.reduceEqDiff, Nat.reduceAdd, Nat.reduceLeDiff, Nat.reduceMul, Nat.reduceSub, Int.reduceLE, Int.reduceLT, Int.reduceEq, Int.reduceToNat, Int.reducePow, Int.reduceNeg, hlen', hlt']
    refine hK _ ?_; clear hK
    refine bwp_cond true (by simp [ev, fget]) (fun _ => ?_) (fun h => nomatch h)
    refine bwp_skip ?_
    refine hK1 _ ?_; clear hK1
    refine bwp_seq fun K1 hK1 => ?_
    refine bwp_block ?_
    refine bwp_seq fun K hK => bwp_region_draw rfl rfl ?_
    simp -implicitDefEqProofs only [go_sem, ↓reduceIte, Nat.reduceEqDiff, Nat.reduceAdd, Nat.reduceLeDiff, Nat.reduceMul, Nat.reduceSub, Int.reduceLE, Int.reduceLT, Int.reduceEq, Int.reduceToNat, Int.reducePow, Int.reduceNeg, hIe, hlt', Int.natCast_nonneg, Int.toNat_natCast, hcs, hdrop, Init.cells, bytesD, hil, Nat.mul_one, hi, hrb, hwb]
    refine ⟨rfl, hK _ ?_⟩; clear hK
    by_cases hx : t.inits[k].loc = (locs[i].toNat : Int)
    · rw [if_pos hx] at hnx
      refine bwp_cond true (by simp [ev, fget, hx]) (fun _ => ?_) (fun h => nomatch h)
      refine bwp_region rfl ?_
      simp -implicitDefEqProofs only [go_sem, ↓reduceIte, Nat.reduceEqDiff, Nat.reduceAdd, Nat.reduceLeDiff, Nat.reduceMul, Nat.reduceSub, Int.reduceLE, Int.reduceLT, Int.reduceEq, Int.reduceToNat, Int.reducePow, Int.reduceNeg, hIe, hlt', Int.natCast_nonneg, Int.toNat_natCast, hcs, hdrop, Init.cells]
      refine hK1 _ ?_; clear hK1
      refine bwp_region rfl ?_
      simp -implicitDefEqProofs only [go_sem, ↓reduceIte, Nat.reduceEqDiff, Nat.reduceAdd, Nat.reduceLeDiff, Nat.reduceMul, Nat.reduceSub, Int.reduceLE, Int.reduceLT, Int.reduceEq, Int.reduceToNat, Int.reducePow, Int.reduceNeg, hw]
      exact ⟨hlt, (Leads.ent [(0, 0), (1, 1), (2, 2)] ⟨by simp [entT, fget, AV.ren, renL, pget, hIe, hnx, bytesD], by simp [entM, pinv, mget, mset, renL, AV.ren, pget, renL_append, -List.map_map, hIe, hnx, bytesD], rfl, rfl⟩)⟩
    · rw [if_neg hx] at hnx
      refine bwp_cond false (by simp [ev, fget, hx]) (fun h => nomatch h) (fun _ => ?_)
      refine bwp_skip ?_
      refine hK1 _ ?_; clear hK1
      refine bwp_region rfl ?_
      simp -implicitDefEqProofs only [go_sem, ↓reduceIte, Nat.reduceEqDiff, Nat.reduceAdd, Nat.reduceLeDiff, Nat.reduceMul, Nat.reduceSub, Int.reduceLE, Int.reduceLT, Int.reduceEq, Int.reduceToNat, Int.reducePow, Int.reduceNeg, hw]
      exact ⟨hlt, (Leads.ent [(0, 0), (1, 1), (2, 2)] ⟨by simp [entT, fget, AV.ren, renL, pget, hIe, hnx, bytesD], by simp [entM, pinv, mget, mset, renL, AV.ren, pget, renL_append, -List.map_map, hIe, hnx, bytesD], rfl, rfl⟩)⟩
  · have hlt' : ¬ (k : Int) < t.inits.length := by omega
    have hin : k = t.inits.length := by omega
    subst hin
    rw [List.take_of_length_le (Nat.le_refl _)] at hv
    refine bwp_seq fun K hK => bwp_region rfl ?_
    simp -implicitDefEqProofs only [go_sem, ↓reduceIte, Nat.reduceEqDiff, Nat.reduceAdd, Nat.reduceLeDiff, Nat.reduceMul, Nat.reduceSub, Int.reduceLE, Int.reduceLT, Int.reduceEq, Int.reduceToNat, Int.reducePow, Int.reduceNeg, hlen', hlt']
    refine hK _ ?_; clear hK
    refine bwp_cond false (by simp [ev, fget]) (fun h => nomatch h) (fun _ => ?_)
    refine bwp_leads (S' := cpA [.str nm, I, T, .int .i64 kd, A] (bytesD locs) vs [(6, .d (.int .i64 (t.inits.length : Nat))), (5, .d (.int .i64 (refInit t.inits locs[i]))), (4, .d (.int .i64 i))]) (Leads.ent [(0, 0), (1, 1), (2, 2)] ⟨by simp [entT, fget, AV.ren, renL, pget, cpA, hv], by simp [entM, pinv, mget, mset, renL, AV.ren, pget, renL_append, -List.map_map, cpA, hv], rfl, rfl⟩) ?_
    exact bwp_exit hQ

theorem comp_locs {t : Test} {I T A : DV} {nm : List UInt8} {kd : Int} (hI : IsSl Init.cells t.inits I) {locs : List UInt8} (hbig : locs.length ≤ 1000) {Q : Exit → St → Prop}
    (hQ : Q (.exit 0) (cpA [.str nm, I, T, .int .i64 kd, A] (bytesD locs) (locs.map (refInit t.inits)) [(4, .d (.int .i64 locs.length))])) :
    BWP Try.prog (mbound []) 97 (.loop ac13L1) (cpA [.str nm, I, T, .int .i64 kd, A] (bytesD locs) [] [(4, .d (.int .i64 (0 : Nat)))]) Q := by
  refine bwp_count (fun i => cpA [.str nm, I, T, .int .i64 kd, A] (bytesD locs) ((locs.take i).map (refInit t.inits)) [(4, .d (.int .i64 (i : Nat)))]) locs.length ?_
  intro i hi
  unfold ac13L1
  refine bwp_seq fun K1 hK1 => ?_
  by_cases hlt : i < locs.length
  · have hlt' : (i : Int) < locs.length := by omega
    have hvl : ((locs.take i).map (refInit t.inits)).length = i := by simp; omega
    have hnx : (locs.take (i + 1)).map (refInit t.inits) = (locs.take i).map (refInit t.inits) ++ [refInit t.inits locs[i]] := by
      rw [List.take_add_one, List.getElem?_eq_getElem hlt, List.map_append]; rfl
    generalize (locs.take i).map (refInit t.inits) = vs at hvl hnx
    have hw : IntKind.i64.wrap ((i : Int) + 1) = ((i + 1 : Nat) : Int) := by rw [wrap_i64 (by omega) (by omega)]; rfl
    have hi8 : (i + 1) * 8 ≤ 140737488351232 := by omega
    unfold cpA
    refine bwp_seq fun K hK => bwp_region rfl ?_
    simp -implicitDefEqProofs only [go_sem, ↓reduceIte, Nat.reduceEqDiff, Nat.reduceAdd, Nat.reduceLeDiff, Nat.reduceMul, Nat.reduceSub, Int.reduceLE, Int.reduceLT, Int.reduceEq, Int.reduceToNat, Int.reducePow, Int.reduceNeg, bytes_len, hlt']
    refine hK _ ?_; clear hK
    refine bwp_cond true (by simp [ev, fget]) (fun _ => ?_) (fun h => nomatch h)
    refine bwp_skip ?_
    refine hK1 _ ?_; clear hK1
    refine bwp_seq fun K1 hK1 => ?_
    refine bwp_block ?_
    refine bwp_seq fun K hK => bwp_region rfl ?_
    simp -implicitDefEqProofs only [go_sem, ↓reduceIte, Nat.reduceEqDiff, Nat.reduceAdd, Nat.reduceLeDiff, Nat.reduceMul, Nat.reduceSub, Int.reduceLE, Int.reduceLT, Int.reduceEq, Int.reduceToNat, Int.reducePow, Int.reduceNeg]
    refine hK _ ?_; clear hK
    refine bwp_seq fun K2 hK2 => ?_
    refine bwp_seq fun K3 hK3 => ?_
    refine bwp_region rfl ?_
    simp -implicitDefEqProofs only [go_sem, ↓reduceIte, Nat.reduceEqDiff, Nat.reduceAdd, Nat.reduceLeDiff, Nat.reduceMul, Nat.reduceSub, Int.reduceLE, Int.reduceLT, Int.reduceEq, Int.reduceToNat, Int.reducePow, Int.reduceNeg]
    refine hK3 _ ?_; clear hK3
    refine bwp_block ?_
    refine bwp_leads (S' := cpA [.str nm, I, T, .int .i64 kd, A] (bytesD locs) vs [(6, .d (.int .i64 (0 : Nat))), (5, .d (.int .i64 0)), (4, .d (.int .i64 i))]) (Leads.ent [(0, 0), (1, 1), (2, 2)] ⟨by simp [entT, fget, AV.ren, renL, pget, cpA], by simp [entM, pinv, mget, mset, renL, AV.ren, pget, renL_append, -List.map_map, cpA], rfl, rfl⟩) ?_
    refine comp_inits hI hlt ?_
    unfold cpA
    simp -implicitDefEqProofs only [go_sem, ↓reduceIte, Nat.reduceEqDiff, Nat.reduceAdd, Nat.reduceLeDiff, Nat.reduceMul, Nat.reduceSub, Int.reduceLE, Int.reduceLT, Int.reduceEq, Int.reduceToNat, Int.reducePow, Int.reduceNeg]
    refine hK2 _ ?_; clear hK2
    refine bwp_region rfl ?_
    simp -implicitDefEqProofs only [go_sem, ↓reduceIte, Nat.reduceEqDiff, Nat.reduceAdd, Nat.reduceLeDiff, Nat.reduceMul, Nat.reduceSub, Int.reduceLE, Int.reduceLT, Int.reduceEq, Int.reduceToNat, Int.reducePow, Int.reduceNeg, hvl, hi8, List.length_append]
    refine hK1 _ ?_; clear hK1
    refine bwp_region rfl ?_
    simp -implicitDefEqProofs only [go_sem, ↓reduceIte, Nat.reduceEqDiff, Nat.reduceAdd, Nat.reduceLeDiff, Nat.reduceMul, Nat.reduceSub, Int.reduceLE, Int.reduceLT, Int.reduceEq, Int.reduceToNat, Int.reducePow, Int.reduceNeg, hw]
    exact ⟨hlt, (Leads.ent [(0, 0), (1, 1), (4, 2)] ⟨by simp [entT, fget, AV.ren, renL, pget, cpA, hnx, hvl], by simp [entM, pinv, mget, mset, renL, AV.ren, pget, renL_append, -List.map_map, cpA, hnx, hvl], rfl, rfl⟩)⟩
  · have hlt' : ¬ (i : Int) < locs.length := by omega
    have hin : i = locs.length := by omega
    subst hin
    rw [List.take_of_length_le (Nat.le_refl _)]
    unfold cpA
    refine bwp_seq fun K hK => bwp_region rfl ?_
    simp -implicitDefEqProofs only [go_sem, ↓reduceIte, Nat.reduceEqDiff, Nat.reduceAdd, Nat.reduceLeDiff, Nat.reduceMul, Nat.reduceSub, Int.reduceLE, Int.reduceLT, Int.reduceEq, Int.reduceToNat, Int.reducePow, Int.reduceNeg, bytes_len, hlt']
    refine hK _ ?_; clear hK
    refine bwp_cond false (by simp [ev, fget]) (fun h => nomatch h) (fun _ => ?_)
    refine bwp_leads (S' := cpA [.str nm, I, T, .int .i64 kd, A] (bytesD locs) (locs.map (refInit t.inits)) [(4, .d (.int .i64 (locs.length : Nat)))]) (Leads.ent [(0, 0), (1, 1), (2, 2)] ⟨by simp [entT, fget, AV.ren, renL, pget, cpA], by simp [entM, pinv, mget, mset, renL, AV.ren, pget, renL_append, -List.map_map, cpA], rfl, rfl⟩) ?_
    exact bwp_exit hQ

end Go.Proofs.Ytjfghjakpjfgpaa
