/- Where a location's letter stands, told without a heap. -/
import Derived.Test.YtjfghjakpjfgpaaE1
namespace Go.Proofs.Ytjfghjakpjfgpaa
open Go Go.Jq
set_option maxRecDepth 100000
set_option linter.unusedSimpArgs false

/-- Where a location stands. -/
def place (locs : List UInt8) (x : Int) : Int := match locs.findIdx? (fun b => decide ((b.toNat : Int) = x)) with
  | some i => i
  | none => -1

theorem place_at {locs : List UInt8} {x : Int} {i : Nat} (hi : i < locs.length) (hx : (locs[i].toNat : Int) = x) (hb : ∀ j (h : j < locs.length), j < i → (locs[j].toNat : Int) ≠ x) : place locs x = i := by
  unfold place
  have : locs.findIdx? (fun b => decide ((b.toNat : Int) = x)) = some i := by
    rw [List.findIdx?_eq_some_iff_getElem]
    exact ⟨hi, by simpa using hx, fun j hj => by simpa using hb j (by omega) hj⟩
  rw [this]

theorem place_no {locs : List UInt8} {x : Int} (hb : ∀ j (h : j < locs.length), (locs[j].toNat : Int) ≠ x) : place locs x = -1 := by
  unfold place
  have : locs.findIdx? (fun b => decide ((b.toNat : Int) = x)) = none := by
    rw [List.findIdx?_eq_none_iff]
    intro b hbm
    obtain ⟨j, hj, rfl⟩ := List.mem_iff_getElem.1 hbm
    simpa using hb j hj
  rw [this]

def plS (cs : List DV) (x : Int) (i : Nat) : St := ⟨[(5, .d (.int .i64 i)), (1, .d (.int .i64 x)), (2, .dptr cs), (4, .d (.int .i64 0))], [], 0⟩

theorem place_pure {locs : List UInt8} (hbig : locs.length ≤ 1000) {I T : DV} (x : Int) : Pure Try.prog 29 [.agg [.d (bytesD locs), .d I, .d T], .d (.int .i64 x)] (.d (.int .i64 (place locs x))) := by
  refine acalls_of Try.func29 ac29_ok Try.ntmps29 Try.results29 rfl ?_
  unfold ac29
  refine bwp_seq fun K hK => bwp_region rfl ?_
  simp -implicitDefEqProofs only [go_sem, ↓reduceIte, Nat.reduceEqDiff, Nat.reduceAdd, Nat.reduceLeDiff, Nat.reduceMul, Nat.reduceSub, Int.reduceLE, Int.reduceLT, Int.reduceEq, Int.reduceToNat, Int.reducePow, Int.reduceNeg]
  refine hK _ ?_; clear hK
  refine bwp_leads (S' := ⟨[(1, .d (.int .i64 x)), (2, .dptr [bytesD locs, I, T]), (4, .d (.int .i64 0))], [], 0⟩) (Leads.frz [] [(0, [bytesD locs, I, T])] ⟨?_, ?_, rfl, rfl, ?_⟩) ?_
  · simp [frzT, fget, AV.cv, cvL, zget, pget]
  · simp [frzM, pinv, zget, mget, cvL, AV.cv]
  · simp [zokFrom, mget, cvL, AV.cv]
  refine bwp_seq fun K1 hK1 => ?_
  refine bwp_seq fun K2 hK2 => ?_
  refine bwp_region rfl ?_
  simp -implicitDefEqProofs only [go_sem, ↓reduceIte, Nat.reduceEqDiff, Nat.reduceAdd, Nat.reduceLeDiff, Nat.reduceMul, Nat.reduceSub, Int.reduceLE, Int.reduceLT, Int.reduceEq, Int.reduceToNat, Int.reducePow, Int.reduceNeg]
  refine hK2 _ ?_; clear hK2
  refine bwp_block ?_
  refine bwp_countI (fun i => plS [bytesD locs, I, T] x i) (fun i => ∀ j (h : j < locs.length), j < i → (locs[j].toNat : Int) ≠ x) locs.length (fun j _ h => by omega) ?_
  intro i hi hp
  unfold ac29L0
  refine bwp_seq fun K2 hK2 => ?_
  by_cases hlt : i < locs.length
  · have hlt' : (i : Int) < locs.length := by omega
    obtain ⟨rest, hr⟩ := bytes_at locs i hlt
    have hb : (locs[i].toNat : Int) < 256 := by have := locs[i].toNat_lt; omega
    have hw : IntKind.i64.wrap (locs[i].toNat : Int) = (locs[i].toNat : Int) := wrap_i64 (by omega) (by omega)
    unfold plS
    refine bwp_seq fun K hK => bwp_region rfl ?_
    simp -implicitDefEqProofs only [go_sem, ↓reduceIte, Nat.reduceEqDiff, Nat.reduceAdd, Nat.reduceLeDiff, Nat.reduceMul, Nat.reduceSub, Int.reduceLE, Int.reduceLT, Int.reduceEq, Int.reduceToNat, Int.reducePow, Int.reduceNeg, bytes_len, hlt']
    refine hK _ ?_; clear hK
    refine bwp_cond true (by simp [ev, fget]) (fun _ => ?_) (fun h => nomatch h)
    refine bwp_skip ?_
    refine hK2 _ ?_; clear hK2
    refine bwp_seq fun K2 hK2 => ?_
    refine bwp_block ?_
    refine bwp_seq fun K hK => bwp_region rfl ?_
    simp -implicitDefEqProofs only [go_sem, ↓reduceIte, Nat.reduceEqDiff, Nat.reduceAdd, Nat.reduceLeDiff, Nat.reduceMul, Nat.reduceSub, Int.reduceLE, Int.reduceLT, Int.reduceEq, Int.reduceToNat, Int.reducePow, Int.reduceNeg, bytesD, Int.natCast_nonneg, hlt', Int.toNat_natCast, Nat.mul_one, hlt, hr, hw]
    refine hK _ ?_; clear hK
    by_cases hx : (locs[i].toNat : Int) = x
    · refine bwp_cond true (by simp [ev, fget, hx]) (fun _ => ?_) (fun h => nomatch h)
      refine bwp_seq fun K hK => bwp_region rfl ?_
      simp -implicitDefEqProofs only [go_sem, ↓reduceIte, Nat.reduceEqDiff, Nat.reduceAdd, Nat.reduceLeDiff, Nat.reduceMul, Nat.reduceSub, Int.reduceLE, Int.reduceLT, Int.reduceEq, Int.reduceToNat, Int.reducePow, Int.reduceNeg]
      refine hK _ ?_; clear hK
      refine bwp_ret ?_
      simp only [go_sem]
      refine aend_ret _ rfl rfl ⟨?_, rfl⟩
      simp [fget, place_at hlt hx hp]
    · refine bwp_cond false (by simp [ev, fget, hx]) (fun h => nomatch h) (fun _ => ?_)
      refine bwp_skip ?_
      refine hK2 _ ?_; clear hK2
      have hw : IntKind.i64.wrap ((i : Int) + 1) = ((i + 1 : Nat) : Int) := by rw [wrap_i64 (by omega) (by omega)]; rfl
      refine bwp_region rfl ?_
      simp -implicitDefEqProofs only [go_sem, ↓reduceIte, Nat.reduceEqDiff, Nat.reduceAdd, Nat.reduceLeDiff, Nat.reduceMul, Nat.reduceSub, Int.reduceLE, Int.reduceLT, Int.reduceEq, Int.reduceToNat, Int.reducePow, Int.reduceNeg, hw]
      refine ⟨hlt, fun j h hj => ?_, Leads.ent [] ⟨by simp [plS, entT, fget, AV.ren, renL, pget, bytesD], by simp [plS, entM], rfl, rfl⟩⟩
      by_cases hji : j = i
      · subst hji; exact hx
      · exact hp j h (by omega)
  · have hlt' : ¬ (i : Int) < locs.length := by omega
    unfold plS
    refine bwp_seq fun K hK => bwp_region rfl ?_
    simp -implicitDefEqProofs only [go_sem, ↓reduceIte, Nat.reduceEqDiff, Nat.reduceAdd, Nat.reduceLeDiff, Nat.reduceMul, Nat.reduceSub, Int.reduceLE, Int.reduceLT, Int.reduceEq, Int.reduceToNat, Int.reducePow, Int.reduceNeg, bytes_len, hlt']
    refine hK _ ?_; clear hK
    refine bwp_cond false (by simp [ev, fget]) (fun h => nomatch h) (fun _ => ?_)
    refine bwp_exit ?_
    simp -implicitDefEqProofs only [go_sem, ↓reduceIte, Nat.reduceEqDiff, Nat.reduceAdd, Nat.reduceLeDiff, Nat.reduceMul, Nat.reduceSub, Int.reduceLE, Int.reduceLT, Int.reduceEq, Int.reduceToNat, Int.reducePow, Int.reduceNeg]
    refine hK1 _ ?_; clear hK1
    refine bwp_seq fun K hK => bwp_region rfl ?_
    simp -implicitDefEqProofs only [go_sem, ↓reduceIte, Nat.reduceEqDiff, Nat.reduceAdd, Nat.reduceLeDiff, Nat.reduceMul, Nat.reduceSub, Int.reduceLE, Int.reduceLT, Int.reduceEq, Int.reduceToNat, Int.reducePow, Int.reduceNeg]
    refine hK _ ?_; clear hK
    refine bwp_ret ?_
    simp only [go_sem]
    refine aend_ret _ rfl rfl ⟨?_, rfl⟩
    simp [fget, place_no fun j h => hp j h (by omega)]

end Go.Proofs.Ytjfghjakpjfgpaa
