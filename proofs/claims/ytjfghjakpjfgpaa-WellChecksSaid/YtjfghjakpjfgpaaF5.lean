/- A test's locations as the program lists them, without a heap. -/
import Derived.Test.YtjfghjakpjfgpaaF4
namespace Go.Proofs.Ytjfghjakpjfgpaa
open Go Go.Jq
set_option maxRecDepth 100000
set_option linter.unusedSimpArgs false

/-- The letters whose bits are set. -/
def bitLets (s i : Nat) : List UInt8 := ((List.range i).filter fun c => s.testBit c).map letter

theorem bitLets_zero (s : Nat) : bitLets s 0 = [] := rfl

theorem bitLets_next (s i : Nat) : bitLets s (i + 1) = if s.testBit i = true then bitLets s i ++ [letter i] else bitLets s i := by
  unfold bitLets
  rw [List.range_succ, List.filter_append, List.map_append]
  by_cases h : s.testBit i = true
  · rw [if_pos h, List.filter_cons, if_pos h]; rfl
  · rw [if_neg h, List.filter_cons, if_neg h]; simp

theorem bitLets_len (s i : Nat) : (bitLets s i).length ≤ i := by
  unfold bitLets
  rw [List.length_map]
  exact Nat.le_trans (List.length_filter_le _ _) (by simp)

def wellLocs (t : Test) : List UInt8 := bitLets (maskT t) 26

def wlO (cs : List DV) (s i : Nat) : St :=
  ⟨[(8, .d (.int .i64 (i : Nat))), (3, .sl 0 1 0 (bitLets s i).length), (1, .dptr cs), (2, .d .nsl), (4, .d (.int .u64 s))], [(0, ((bitLets s i).map byteD).map .d)], 1⟩

theorem wellLocs_loop {cs : List DV} {s : Nat} (hs : s < 67108864) {Q : Exit → St → Prop} (hQ : Q (.exit 0) (wlO cs s 26)) :
    BWP Try.prog (mbound []) 24 (.loop ac17L0) (wlO cs s 0) Q := by
  refine bwp_count (wlO cs s) 26 ?_
  intro i hi
  unfold ac17L0
  by_cases hlt : i < 26
  · have hlt' : (i : Int) < 26 := by omega
    have hn : ¬ ((i : Nat) : Int) < 0 := by omega
    have hi64 : i ≤ 64 := by omega
    have hdv : s / 2 ^ i < 18446744073709551616 := Nat.lt_of_le_of_lt (Nat.div_le_self _ _) (by omega)
    have hw : IntKind.i64.wrap (((i : Nat) : Int) + 1) = ((i + 1 : Nat) : Int) := by rw [wrap_i64 (by omega) (by omega)]; omega
    have hwb : IntKind.u8.wrap (((i : Nat) : Int)) = ((i : Nat) : Int) := wrap_u8 (by omega) (by omega)
    have hwc : IntKind.u8.wrap (97 + ((i : Nat) : Int)) = ((97 + i : Nat) : Int) := by rw [wrap_u8 (by omega) (by omega)]; omega
    have hl := bitLets_len s i
    have hl2 : (bitLets s i).length + 1 ≤ 140737488351232 := by omega
    have hlt2 := bitLets_next s i
    have hbits : IntKind.u64.bits = 64 := rfl
    unfold wlO
    refine bwp_seq fun K hK => bwp_region rfl ?_
    simp -implicitDefEqProofs only [go_sem, ↓reduceIte, Nat.reduceEqDiff, Nat.reduceAdd, Nat.reduceLeDiff, Nat.reduceMul, Nat.reduceSub, Int.reduceLE, Int.reduceLT, Int.reduceEq, Int.reduceToNat, Int.reducePow, Int.reduceNeg, hlt']
    refine hK _ ?_; clear hK
    refine bwp_seq fun K1 hK1 => ?_
    refine bwp_cond true (by simp [ev, fget]) (fun _ => ?_) (fun h => nomatch h)
    refine bwp_skip ?_
    refine hK1 _ ?_; clear hK1
    refine bwp_seq fun K1 hK1 => ?_
    refine bwp_block ?_
    refine bwp_seq fun K hK => bwp_region rfl ?_
    simp -implicitDefEqProofs only [go_sem, ↓reduceIte, Nat.reduceEqDiff, Nat.reduceAdd, Nat.reduceLeDiff, Nat.reduceMul, Nat.reduceSub, Int.reduceLE, Int.reduceLT, Int.reduceEq, Int.reduceToNat, Int.reducePow, Int.reduceNeg]
    refine hK _ ?_; clear hK
    refine bwp_seq fun K hK => bwp_region rfl ?_
    simp -implicitDefEqProofs only [go_sem, ↓reduceIte, Nat.reduceEqDiff, Nat.reduceAdd, Nat.reduceLeDiff, Nat.reduceMul, Nat.reduceSub, Int.reduceLE, Int.reduceLT, Int.reduceEq, Int.reduceToNat, Int.reducePow, Int.reduceNeg, hn, Int.toNat_natCast, hbits, hi64, fdiv_pow, and1_u64 _ hdv]
    refine hK _ ?_; clear hK
    have hbs := bit_seen s i
    generalize s / 2 ^ i % 2 = q at hbs
    by_cases hb : s.testBit i = true
    · rw [if_pos hb] at hlt2
      have hb' := hbs.2 hb
      refine bwp_cond true (by simp [ev, fget, hb']) (fun _ => ?_) (fun h => nomatch h)
      refine bwp_region rfl ?_
      simp -implicitDefEqProofs only [go_sem, ↓reduceIte, Nat.reduceEqDiff, Nat.reduceAdd, Nat.reduceLeDiff, Nat.reduceMul, Nat.reduceSub, Int.reduceLE, Int.reduceLT, Int.reduceEq, Int.reduceToNat, Int.reducePow, Int.reduceNeg, hwb, hwc, hl2, List.length_append]
      refine hK1 _ ?_; clear hK1
      have hbn : byteD (letter i) = .int .u8 (97 + i : Nat) := by
        have : (letter i).toNat = 97 + i := by simp [letter]; omega
        rw [byteD, this]
      refine bwp_region rfl ?_
      simp -implicitDefEqProofs only [go_sem, ↓reduceIte, Nat.reduceEqDiff, Nat.reduceAdd, Nat.reduceLeDiff, Nat.reduceMul, Nat.reduceSub, Int.reduceLE, Int.reduceLT, Int.reduceEq, Int.reduceToNat, Int.reducePow, Int.reduceNeg, hw]
      exact ⟨hlt, (Leads.ent [(2, 0)] ⟨by simp [entT, fget, AV.ren, renL, pget, wlO, hlt2, hbn], by simp [entM, pinv, mget, mset, renL, AV.ren, pget, renL_append, -List.map_map, wlO, hlt2, hbn], rfl, rfl⟩)⟩
    · rw [if_neg hb] at hlt2
      have hb' : ¬ ((q : Nat) : Int) = 1 := fun h => hb (hbs.1 h)
      refine bwp_cond false (by simp [ev, fget, hb']) (fun h => nomatch h) (fun _ => ?_)
      refine bwp_skip ?_
      refine hK1 _ ?_; clear hK1
      refine bwp_region rfl ?_
      simp -implicitDefEqProofs only [go_sem, ↓reduceIte, Nat.reduceEqDiff, Nat.reduceAdd, Nat.reduceLeDiff, Nat.reduceMul, Nat.reduceSub, Int.reduceLE, Int.reduceLT, Int.reduceEq, Int.reduceToNat, Int.reducePow, Int.reduceNeg, hw]
      exact ⟨hlt, (Leads.ent [(0, 0)] ⟨by simp [entT, fget, AV.ren, renL, pget, wlO, hlt2], by simp [entM, pinv, mget, mset, renL, AV.ren, pget, renL_append, -List.map_map, wlO, hlt2], rfl, rfl⟩)⟩
  · have hlt' : ¬ ((i : Nat) : Int) < 26 := by omega
    have hin : i = 26 := by omega
    unfold wlO
    refine bwp_seq fun K hK => bwp_region rfl ?_
    simp -implicitDefEqProofs only [go_sem, ↓reduceIte, Nat.reduceEqDiff, Nat.reduceAdd, Nat.reduceLeDiff, Nat.reduceMul, Nat.reduceSub, Int.reduceLE, Int.reduceLT, Int.reduceEq, Int.reduceToNat, Int.reducePow, Int.reduceNeg, hlt']
    refine hK _ ?_; clear hK
    refine bwp_seq fun K1 hK1 => ?_
    refine bwp_cond false (by simp [ev, fget]) (fun h => nomatch h) (fun _ => ?_)
    subst hin
    refine bwp_leads (S' := wlO cs s 26) (Leads.ent [(0, 0)] ⟨by simp [entT, fget, AV.ren, renL, pget, wlO], by simp [entM, pinv, mget, mset, renL, AV.ren, pget, renL_append, -List.map_map, wlO], rfl, rfl⟩) ?_
    exact bwp_exit hQ

theorem wellLocs_pure {t : Test} {cs : List DV} (hT : IsTest t cs) : Pure Try.prog 17 [.agg (cs.map .d)] (.d (bytesD (wellLocs t))) := by
  have hT0 := hT
  obtain ⟨I, T, A, rfl, hI, hTh, hA⟩ := hT
  refine acalls_of Try.func17 ac17_ok Try.ntmps17 Try.results17 rfl ?_
  unfold ac17
  refine bwp_seq fun K hK => bwp_region rfl ?_
  simp -implicitDefEqProofs only [go_sem, ↓reduceIte, Nat.reduceEqDiff, Nat.reduceAdd, Nat.reduceLeDiff, Nat.reduceMul, Nat.reduceSub, Int.reduceLE, Int.reduceLT, Int.reduceEq, Int.reduceToNat, Int.reducePow, Int.reduceNeg]
  refine hK _ ?_; clear hK
  refine bwp_leads (S' := ⟨[(1, .dptr [.str t.name, I, T, .int .i64 t.kind, A]), (2, .d .nsl)], [], 0⟩) (Leads.frz [] [(0, [.str t.name, I, T, .int .i64 t.kind, A])] ⟨?_, ?_, rfl, rfl, ?_⟩) ?_
  · simp [frzT, fget, AV.cv, cvL, zget, pget]
  · simp [frzM, pinv, zget, mget, cvL, AV.cv]
  · simp [zokFrom, mget, cvL, AV.cv]
  refine bwp_seq fun K hK => bwp_region rfl ?_
  simp -implicitDefEqProofs only [go_sem, ↓reduceIte, Nat.reduceEqDiff, Nat.reduceAdd, Nat.reduceLeDiff, Nat.reduceMul, Nat.reduceSub, Int.reduceLE, Int.reduceLT, Int.reduceEq, Int.reduceToNat, Int.reducePow, Int.reduceNeg]
  refine hK _ ?_; clear hK
  refine bwp_seq fun K hK => bwp_region rfl ?_
  simp -implicitDefEqProofs only [go_sem, ↓reduceIte, Nat.reduceEqDiff, Nat.reduceAdd, Nat.reduceLeDiff, Nat.reduceMul, Nat.reduceSub, Int.reduceLE, Int.reduceLT, Int.reduceEq, Int.reduceToNat, Int.reducePow, Int.reduceNeg]
  refine callK_pure (letters_pure hT0) rfl rfl ?_
  simp -implicitDefEqProofs only [go_sem, ↓reduceIte, Nat.reduceEqDiff, Nat.reduceAdd, Nat.reduceLeDiff, Nat.reduceMul, Nat.reduceSub, Int.reduceLE, Int.reduceLT, Int.reduceEq, Int.reduceToNat, Int.reducePow, Int.reduceNeg]
  refine hK _ ?_; clear hK
  refine bwp_leads (Leads.nil 3 1 rfl rfl) ?_
  refine bwp_seq fun K1 hK1 => ?_
  refine bwp_seq fun K2 hK2 => ?_
  refine bwp_region rfl ?_
  simp -implicitDefEqProofs only [go_sem, ↓reduceIte, Nat.reduceEqDiff, Nat.reduceAdd, Nat.reduceLeDiff, Nat.reduceMul, Nat.reduceSub, Int.reduceLE, Int.reduceLT, Int.reduceEq, Int.reduceToNat, Int.reducePow, Int.reduceNeg]
  refine hK2 _ ?_; clear hK2
  refine bwp_block ?_
  refine bwp_leads (S' := wlO [.str t.name, I, T, .int .i64 t.kind, A] (maskT t) 0) (Leads.ent [(0, 0)] ⟨by simp [entT, fget, AV.ren, renL, pget, wlO, bitLets_zero], by simp [entM, pinv, mget, mset, renL, AV.ren, pget, renL_append, -List.map_map, wlO, bitLets_zero], rfl, rfl⟩) ?_
  refine wellLocs_loop (maskT_lt t) ?_
  simp -implicitDefEqProofs only [go_sem, ↓reduceIte, Nat.reduceEqDiff, Nat.reduceAdd, Nat.reduceLeDiff, Nat.reduceMul, Nat.reduceSub, Int.reduceLE, Int.reduceLT, Int.reduceEq, Int.reduceToNat, Int.reducePow, Int.reduceNeg]
  refine hK1 _ ?_; clear hK1
  unfold wlO
  refine bwp_seq fun K hK => bwp_region rfl ?_
  simp -implicitDefEqProofs only [go_sem, ↓reduceIte, Nat.reduceEqDiff, Nat.reduceAdd, Nat.reduceLeDiff, Nat.reduceMul, Nat.reduceSub, Int.reduceLE, Int.reduceLT, Int.reduceEq, Int.reduceToNat, Int.reducePow, Int.reduceNeg]
  refine hK _ ?_; clear hK
  have htk : ((bitLets (maskT t) 26).map byteD).take (bitLets (maskT t) 26).length = (bitLets (maskT t) 26).map byteD := List.take_of_length_le (by simp)
  refine bwp_leads (S' := ⟨[(2, .d (bytesD (wellLocs t)))], [], 0⟩) (Leads.frz [] [(0, (bitLets (maskT t) 26).map byteD)] ⟨?_, ?_, rfl, rfl, ?_⟩) ?_
  · have e : (fun b : UInt8 => DV.int .u8 b.toNat) = byteD := rfl
    simp [frzT, fget, AV.cv, cvL, zget, pget, htk, bytesD, wellLocs, e, -List.map_map]
  · simp [frzM]
  · simp [zokFrom, mget, cvL_d, -List.map_map]
  refine bwp_ret ?_
  simp only [go_sem]
  refine aend_ret _ rfl rfl ⟨?_, rfl⟩
  rfl

end Go.Proofs.Ytjfghjakpjfgpaa
