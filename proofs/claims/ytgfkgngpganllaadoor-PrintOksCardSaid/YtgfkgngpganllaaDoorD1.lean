/- What the test made of numbers comes to (its reader of numbers), told without a heap. -/
import Derived.Test.YtgfkgngpganllaaDoorXG
import Derived.Test.YtgfkgngpganllaaDoorAc
namespace Go.Proofs.YtgfkgngpganllaaDoor
open Go Go.Jq
set_option maxRecDepth 100000
set_option linter.unusedSimpArgs false

/-- The a-th number that is read. -/
def nx (ls : List Int) (a : Nat) : Int := match ls[a]? with
  | some n => bits .and .i64 n 65535
  | none => 0

theorem nx_le (ls : List Int) (a : Nat) : ∃ q : Nat, q ≤ 65535 ∧ nx ls a = (q : Int) := by
  unfold nx
  cases ls[a]? with
  | none => exact ⟨0, by omega, rfl⟩
  | some n => exact bits_and_le n 65535 (by omega)

theorem next_calls {ls : List Int} {X : DV} (hX : IsInts ls X) (a : Nat) (ha : a < 9223372036854775807) :
    ACalls Tryd.prog 22 [.ptr 0 0, .dptr [X]] [(0, [.d (.int .i64 a)])] fun r m' => r = .d (.int .i64 (nx ls a)) ∧ m' = [(0, [.d (.int .i64 (a + 1 : Nat))])] := by
  have hsl := hX.sl
  have hbig := hsl.big
  have hw : IntKind.i64.wrap ((a : Int) + 1) = ((a + 1 : Nat) : Int) := by rw [wrap_i64 (by omega) (by omega)]; rfl
  have hw' : IntKind.i64.wrap (((a + 1 : Nat) : Int) - 1) = (a : Int) := by rw [wrap_i64 (by omega) (by omega)]; omega
  refine acalls_of Tryd.func22 ac22_ok Tryd.ntmps22 Tryd.results22 rfl ?_
  unfold ac22
  refine bwp_seq fun K hK => bwp_region rfl ?_
  simp -implicitDefEqProofs only [go_sem, ↓reduceIte, Nat.reduceEqDiff, Nat.reduceAdd, Nat.reduceLeDiff, Nat.reduceMul, Nat.reduceSub, Int.reduceLE, Int.reduceLT, Int.reduceEq, Int.reduceToNat, Int.reducePow, Int.reduceNeg]
  refine hK _ ?_; clear hK
  refine bwp_seq fun K hK => bwp_region rfl ?_
  simp -implicitDefEqProofs only [go_sem, ↓reduceIte, Nat.reduceEqDiff, Nat.reduceAdd, Nat.reduceLeDiff, Nat.reduceMul, Nat.reduceSub, Int.reduceLE, Int.reduceLT, Int.reduceEq, Int.reduceToNat, Int.reducePow, Int.reduceNeg, hw]
  refine hK _ ?_; clear hK
  refine bwp_seq fun K1 hK1 => ?_
  refine bwp_seq fun K hK => bwp_region rfl ?_
  simp -implicitDefEqProofs only [go_sem, ↓reduceIte, Nat.reduceEqDiff, Nat.reduceAdd, Nat.reduceLeDiff, Nat.reduceMul, Nat.reduceSub, Int.reduceLE, Int.reduceLT, Int.reduceEq, Int.reduceToNat, Int.reducePow, Int.reduceNeg, hsl.len]
  refine hK _ ?_; clear hK
  by_cases hlt : a < ls.length
  · have h1 : ¬ (ls.length : Int) < ((a + 1 : Nat) : Int) := by omega
    obtain ⟨cs, hXe, hcs, hld⟩ := hsl.get a hlt
    have hel : (ls.map (DV.int .i64))[a]? = some (.int .i64 ls[a]) := by simp [hlt]
    simp only [eltD, hel, Nat.mul_one] at hld hcs
    have h2 : (a : Int) < ls.length := by omega
    refine bwp_cond false (by simp [ev, fget]; omega) (fun h => nomatch h) (fun _ => ?_)
    refine bwp_skip ?_
    refine hK1 _ ?_; clear hK1
    refine bwp_seq fun K hK => bwp_region rfl ?_
    simp -implicitDefEqProofs only [go_sem, ↓reduceIte, Nat.reduceEqDiff, Nat.reduceAdd, Nat.reduceLeDiff, Nat.reduceMul, Nat.reduceSub, Int.reduceLE, Int.reduceLT, Int.reduceEq, Int.reduceToNat, Int.reducePow, Int.reduceNeg, hw', hXe, h2, Int.toNat_natCast, Int.natCast_nonneg, hcs, hld]
    refine hK _ ?_; clear hK
    refine bwp_ret ?_
    simp only [go_sem]
    refine aend_mem (.d (.int .i64 (nx ls a))) [(0, 0)] [(0, [.d (.int .i64 (a + 1 : Nat))])] ?_ rfl rfl ?_ ⟨rfl, rfl⟩
    · simp [resA, resVs, resV, fget, nx, hlt]
    · simp [entM, pinv, mget, renL, AV.ren]
  · have h1 : (ls.length : Int) < ((a + 1 : Nat) : Int) := by omega
    have h2 : ls[a]? = none := List.getElem?_eq_none (by omega)
    refine bwp_cond true (by simp [ev, fget]; omega) (fun _ => ?_) (fun h => nomatch h)
    refine bwp_seq fun K hK => bwp_region rfl ?_
    simp -implicitDefEqProofs only [go_sem, ↓reduceIte, Nat.reduceEqDiff, Nat.reduceAdd, Nat.reduceLeDiff, Nat.reduceMul, Nat.reduceSub, Int.reduceLE, Int.reduceLT, Int.reduceEq, Int.reduceToNat, Int.reducePow, Int.reduceNeg]
    refine hK _ ?_; clear hK
    refine bwp_ret ?_
    simp only [go_sem]
    refine aend_mem (.d (.int .i64 (nx ls a))) [(0, 0)] [(0, [.d (.int .i64 (a + 1 : Nat))])] ?_ rfl rfl ?_ ⟨rfl, rfl⟩
    · simp [resA, resVs, resV, fget, nx, h2]
    · simp [entM, pinv, mget, renL, AV.ren]

/-- The same as a whole number that is not less than nought. -/
def nxN (ls : List Int) (a : Nat) : Nat := (nx ls a).toNat

theorem nx_nxN (ls : List Int) (a : Nat) : nx ls a = (nxN ls a : Int) := by
  obtain ⟨q, _, h⟩ := nx_le ls a
  simp [nxN, h]

theorem nxN_le (ls : List Int) (a : Nat) : nxN ls a ≤ 65535 := by
  obtain ⟨q, hq, h⟩ := nx_le ls a
  simp [nxN, h, hq]

theorem next_callK {ls : List Int} {X : DV} (hX : IsInts ls X) {a : Nat} (ha : a < 9223372036854775807) {j : Nat} {dst : Option Nat} {r : List AOper} {K : St → Prop} {t : Fr} {m : Mem} {n : Nat} (hm : mget m j = some [.d (.int .i64 a)])
    (hk : runOps Tryd.prog r ⟨putF t dst (.d (.int .i64 (nxN ls a))), mset m j [.d (.int .i64 (a + 1 : Nat))], n + 1⟩ K) : callK Tryd.prog 22 [.ptr j 0, .dptr [X]] dst r K t m n := by
  refine callK_gen [(0, j)] [.ptr 0 0, .dptr [X]] [(0, [.d (.int .i64 a)])] (nb := j + 1) (next_calls hX a ha) (by simp [okRen]) (by simp [renL, AV.ren, pget]) (by simp [inL, inB, pget]) ⟨by simp [pget, hm, renL, AV.ren, inL, inB], trivial⟩ (by simp [mget]) ?_
  rintro r0 m' ⟨rfl, rfl⟩
  rw [nx_nxN]
  have e : callMem [(0, j)] [(0, [AV.d (.int .i64 a)])] [(0, [AV.d (.int .i64 (a + 1 : Nat))])] n m = mset m j [.d (.int .i64 (a + 1 : Nat))] := by
    simp [callMem, updNew, updOld, mget, renL, AV.ren]
  rw [e]
  exact hk

theorem next_dCallK {ls : List Int} {X : DV} (hX : IsInts ls X) {a : Nat} (ha : a < 9223372036854775807) {j : Nat} {dst : Option Nat} {r : List AOper} {acc : List Foot} {ms : List Nat} {K : St → Prop} {t : Fr} {m : Mem} {n : Nat} (hm : mget m j = some [.d (.int .i64 a)])
    (hk : runDA Tryd.prog r (⟨[j, n], [j]⟩ :: acc) ms ⟨putF t dst (.d (.int .i64 (nxN ls a))), mset m j [.d (.int .i64 (a + 1 : Nat))], n + 1⟩ K) : dCallK Tryd.prog 22 [.ptr j 0, .dptr [X]] dst r acc ms K t m n := by
  refine ⟨[(0, j)], [(0, [.d (.int .i64 a)])], [.ptr 0 0, .dptr [X]], _, _, j + 1, by simp [okRen], by simp [renL, AV.ren, pget], by simp [inL, inB, pget], ⟨by simp [pget, hm, renL, AV.ren, inL, inB], trivial⟩, fun i id h => ?_, next_calls hX a ha, ?_⟩
  · simp only [pget] at h
    split at h
    · rename_i e; subst e; rfl
    · cases h
  rw [nx_nxN]
  have e : callMem [(0, j)] [(0, [AV.d (.int .i64 a)])] [(0, [AV.d (.int .i64 (a + 1 : Nat))])] n m = mset m j [.d (.int .i64 (a + 1 : Nat))] := by
    simp [callMem, updNew, updOld, mget, renL, AV.ren]
  rw [e]
  exact hk

end Go.Proofs.YtgfkgngpganllaaDoor
