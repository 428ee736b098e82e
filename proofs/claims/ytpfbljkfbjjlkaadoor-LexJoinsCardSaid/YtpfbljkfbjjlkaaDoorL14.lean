/- The lexer's signs. -/
import Derived.Test.YtpfbljkfbjjlkaaDoorL13
import Derived.Test.YtpfbljkfbjjlkaaDoorSh
import Derived.Lib.IndexLaws
namespace Go.Proofs.YtpfbljkfbjjlkaaDoor
open Go Go.Jq
set_option maxRecDepth 100000
set_option linter.unusedSimpArgs false

theorem idx_pure (l : List UInt8) (c : UInt8) : Pure Tryd.prog 70 [.d (.str l), .d (.int .u8 c.toNat)] (.d (.int .i64 (Lib.indexByte l c))) := by
  refine pure_of_below fun cx w vs hr hM => ?_
  simp only [RelL, Rel, RelD] at hr
  obtain ⟨v1, vs1, rfl, rfl, v2, vs2, rfl, rfl, rfl⟩ := hr
  refine (Tryd.strings_IndexByte ⟨l.toArray⟩ c.toNat w).mono ?_
  rintro e w' ⟨rfl, rfl⟩
  refine ⟨_, rfl, rfl, rfl, rfl, Nat.le_refl _, fun _ _ => rfl, ?_⟩
  simp [Rel, RelD]

theorem idx_mem (l : List UInt8) (c : UInt8) : 0 ≤ Lib.indexByte l c ↔ c ∈ l := by
  have hg := Lib.indexByte_ge l c
  constructor
  · intro h
    obtain ⟨o, ho⟩ : ∃ o : Nat, Lib.indexByte l c = o := ⟨(Lib.indexByte l c).toNat, by omega⟩
    exact List.mem_of_getElem? (Lib.indexByte_some ho).1
  · intro h
    obtain ⟨k, hk, e⟩ := List.getElem_of_mem h
    rcases Int.lt_or_le (Lib.indexByte l c) 0 with h1 | h1
    · have : Lib.indexByte l c = -1 := by omega
      exact absurd (by rw [List.getElem?_eq_getElem hk, e]) (Lib.indexByte_none this k)
    · exact h1

def plain : List UInt8 := [123, 125, 59, 58, 43, 45, 42, 38, 124, 94]

theorem ones_iff (c : UInt8) : c ∈ ones ↔ c ∈ plain ∨ c = 60 ∨ c = 61 := by
  simp only [ones, plain, List.mem_cons, List.not_mem_nil, or_false]
  constructor
  · rintro (h | h | h | h | h | h | h | h | h | h | h | h) <;> simp [h]
  · rintro ((h | h | h | h | h | h | h | h | h | h) | h | h) <;> simp [h]

def sgQ (s : List UInt8) (a rd : Nat) (r : AV) (m' : Mem) : Prop :=
  r = .d (.str ((s.drop a).take (signL (s.drop a)))) ∧ ∃ rd', (rd ≤ rd' ∧ a + 1 ≤ rd' ∧ rd' ≤ s.length ∧ (signL (s.drop a) ≠ 0 → a + signL (s.drop a) ≤ rd' ∧ rd' ≤ max rd (a + signL (s.drop a) + 1))) ∧ m' = [(0, lexC s a rd' 0 0)]

set_option maxHeartbeats 16000000 in
theorem sign_calls {s : List UInt8} (hs : s.length ≤ 140737488351232) {a rd : Nat} (ha : a < s.length) (hr : a ≤ rd ∧ rd ≤ s.length) :
    ACalls Tryd.prog 39 [.ptr 0 0] [(0, lexC s a rd 0 0)] (sgQ s a rd) := by
  have hd := drop_at ha
  have hw1 : IntKind.i64.wrap ((a : Int) + 1) = ((a + 1 : Nat) : Int) := by rw [wrap_i64 (by omega) (by omega)]; rfl
  have hp1 := rdW_lt (rd := rd) ha
  refine acalls_of Tryd.func39 ac39_ok Tryd.ntmps39 Tryd.results39 rfl ?_
  unfold ac39
  refine bwp_seq fun K hK => bwp_region rfl ?_
  simp -implicitDefEqProofs only [go_sem, ↓reduceIte, Nat.reduceEqDiff, Nat.reduceAdd, Nat.reduceLeDiff, Nat.reduceMul, Nat.reduceSub, Int.reduceLE, Int.reduceLT, Int.reduceEq, Int.reduceToNat, Int.reducePow, Int.reduceNeg]
  refine hK _ ?_; clear hK
  refine bwp_seq fun K hK => bwp_region rfl ?_
  simp -implicitDefEqProofs only [go_sem, ↓reduceIte, Nat.reduceEqDiff, Nat.reduceAdd, Nat.reduceLeDiff, Nat.reduceMul, Nat.reduceSub, Int.reduceLE, Int.reduceLT, Int.reduceEq, Int.reduceToNat, Int.reducePow, Int.reduceNeg, lexC]
  refine peek_callK hs a rd 0 0 a rfl ?_
  generalize hc : s.getD a 0 = c at hd
  rw [hp1]
  generalize hm1 : max rd (a + 1) = rd1
  simp -implicitDefEqProofs only [go_sem, ↓reduceIte, Nat.reduceEqDiff, Nat.reduceAdd, Nat.reduceLeDiff, Nat.reduceMul, Nat.reduceSub, Int.reduceLE, Int.reduceLT, Int.reduceEq, Int.reduceToNat, Int.reducePow, Int.reduceNeg, lexC, mset]
  refine hK _ ?_; clear hK
  refine bwp_seq fun K1 hK1 => ?_
  refine bwp_seq fun K hK => bwp_region rfl ?_
  simp -implicitDefEqProofs only [go_sem, ↓reduceIte, Nat.reduceEqDiff, Nat.reduceAdd, Nat.reduceLeDiff, Nat.reduceMul, Nat.reduceSub, Int.reduceLE, Int.reduceLT, Int.reduceEq, Int.reduceToNat, Int.reducePow, Int.reduceNeg]
  refine hK _ ?_; clear hK
  refine bwp_block ?_
  refine bwp_seq fun K2 hK2 => ?_
  by_cases h60 : (c.toNat : Int) = 60
  · have hcv := u8eq (k := 60) h60
    refine bwp_seq fun K hK => bwp_region rfl ?_
    simp -implicitDefEqProofs only [go_sem, ↓reduceIte, Nat.reduceEqDiff, Nat.reduceAdd, Nat.reduceLeDiff, Nat.reduceMul, Nat.reduceSub, Int.reduceLE, Int.reduceLT, Int.reduceEq, Int.reduceToNat, Int.reducePow, Int.reduceNeg, h60]
    refine hK _ ?_; clear hK
    refine bwp_cond true (by simp [ev, fget]) (fun _ => ?_) (fun h => nomatch h)
    refine bwp_skip ?_
    refine hK2 _ ?_; clear hK2
    refine bwp_cond true (by simp [ev, fget]) (fun _ => ?_) (fun h => nomatch h)
    refine bwp_seq fun K hK => bwp_region rfl ?_
    simp -implicitDefEqProofs only [go_sem, ↓reduceIte, Nat.reduceEqDiff, Nat.reduceAdd, Nat.reduceLeDiff, Nat.reduceMul, Nat.reduceSub, Int.reduceLE, Int.reduceLT, Int.reduceEq, Int.reduceToNat, Int.reducePow, Int.reduceNeg, hw1]
    refine peek_callK hs a rd1 0 0 (a + 1) rfl ?_
    obtain ⟨rd2, hr2, q1, q2, q3, q4⟩ : ∃ rd2, rdW s rd1 (a + 1) = rd2 ∧ rd1 ≤ rd2 ∧ rd2 ≤ s.length ∧ rd2 ≤ max rd (a + 2) ∧ (a + 1 < s.length → a + 2 ≤ rd2) := ⟨_, rfl, by unfold rdW; split <;> omega⟩
    rw [hr2]
    generalize hd2 : s.getD (a + 1) 0 = d
    simp -implicitDefEqProofs only [go_sem, ↓reduceIte, Nat.reduceEqDiff, Nat.reduceAdd, Nat.reduceLeDiff, Nat.reduceMul, Nat.reduceSub, Int.reduceLE, Int.reduceLT, Int.reduceEq, Int.reduceToNat, Int.reducePow, Int.reduceNeg, lexC, mset]
    refine hK _ ?_; clear hK
    by_cases hdd : (d.toNat : Int) = 60
    · have hdv := u8eq (k := 60) hdd
      have hin : a + 1 < s.length := by
        rcases Nat.lt_or_ge (a + 1) s.length with h | h
        · exact h
        · rw [List.getD_eq_getElem?_getD, List.getElem?_eq_none (by omega)] at hd2
          rw [← hd2] at hdv
          cases hdv
      have hdr := drop_at hin
      rw [hd2, hdv] at hdr
      have hsg : signL (s.drop a) = 2 := by rw [hd, hdr, hcv]; rfl
      have hw2 : IntKind.i64.wrap ((a : Int) + 2) = ((a + 2 : Nat) : Int) := by rw [wrap_i64 (by omega) (by omega)]; rfl
      have b0 : (0 : Int) ≤ (a : Int) := Int.natCast_nonneg _
      have b1 : (0 : Int) ≤ ((a + 2 : Nat) : Int) := Int.natCast_nonneg _
      have b2 : a ≤ a + 2 := by omega
      have b3 : a + 2 ≤ s.length := by omega
      have hsl : (s.take (a + 2)).drop a = (s.drop a).take 2 := by rw [List.drop_take]; congr 1; omega
      refine bwp_seq fun K hK => bwp_region rfl ?_
      simp -implicitDefEqProofs only [go_sem, ↓reduceIte, Nat.reduceEqDiff, Nat.reduceAdd, Nat.reduceLeDiff, Nat.reduceMul, Nat.reduceSub, Int.reduceLE, Int.reduceLT, Int.reduceEq, Int.reduceToNat, Int.reducePow, Int.reduceNeg, h60, hdd]
      refine hK _ ?_; clear hK
      refine bwp_seq fun K3 hK3 => ?_
      refine bwp_block ?_
      refine bwp_seq fun K hK => bwp_region rfl ?_
      simp -implicitDefEqProofs only [go_sem, ↓reduceIte, Nat.reduceEqDiff, Nat.reduceAdd, Nat.reduceLeDiff, Nat.reduceMul, Nat.reduceSub, Int.reduceLE, Int.reduceLT, Int.reduceEq, Int.reduceToNat, Int.reducePow, Int.reduceNeg]
      refine hK _ ?_; clear hK
      refine bwp_cond true (by simp [ev, fget]) (fun _ => ?_) (fun h => nomatch h)
      refine bwp_seq fun K hK => bwp_region_draw rfl rfl ?_
      simp -implicitDefEqProofs only [go_sem, ↓reduceIte, Nat.reduceEqDiff, Nat.reduceAdd, Nat.reduceLeDiff, Nat.reduceMul, Nat.reduceSub, Int.reduceLE, Int.reduceLT, Int.reduceEq, Int.reduceToNat, Int.reducePow, Int.reduceNeg, hw2, b0, b1, b2, b3, Int.toNat_natCast, hsl]
      refine ⟨rfl, hK _ ?_⟩; clear hK
      refine bwp_ret ?_
      simp only [go_sem]
      refine aend_mem (.d (.str ((s.drop a).take (signL (s.drop a))))) [(0, 0)] [(0, lexC s a rd2 0 0)] ?_ rfl rfl ?_ ⟨rfl, rd2, ⟨by omega, by omega, by omega, fun _ => by rw [hsg]; omega⟩, rfl⟩
      · simp [resA, resVs, resV, fget, hsg]
      · simp [entM, pinv, mget, mset, renL, AV.ren, lexC]
    · have hdn := u8ne (k := 60) hdd
      have hsg : signL (s.drop a) = 1 := by
        rw [hd, hcv, signL, if_neg, if_pos (by decide)]
        have hh : ¬ s[a + 1]? = some 60 := by
          intro h
          apply hdn
          rw [← hd2, List.getD_eq_getElem?_getD, h]
          rfl
        simp [hh]
      refine bwp_seq fun K hK => bwp_region rfl ?_
      simp -implicitDefEqProofs only [go_sem, ↓reduceIte, Nat.reduceEqDiff, Nat.reduceAdd, Nat.reduceLeDiff, Nat.reduceMul, Nat.reduceSub, Int.reduceLE, Int.reduceLT, Int.reduceEq, Int.reduceToNat, Int.reducePow, Int.reduceNeg, h60, hdd]
      refine hK _ ?_; clear hK
      refine bwp_seq fun K3 hK3 => ?_
      refine bwp_block ?_
      refine bwp_seq fun K hK => bwp_region rfl ?_
      simp -implicitDefEqProofs only [go_sem, ↓reduceIte, Nat.reduceEqDiff, Nat.reduceAdd, Nat.reduceLeDiff, Nat.reduceMul, Nat.reduceSub, Int.reduceLE, Int.reduceLT, Int.reduceEq, Int.reduceToNat, Int.reducePow, Int.reduceNeg]
      refine hK _ ?_; clear hK
      refine bwp_cond false (by simp [ev, fget]) (fun h => nomatch h) (fun _ => ?_)
      refine bwp_seq fun K hK => bwp_region rfl ?_
      simp -implicitDefEqProofs only [go_sem, ↓reduceIte, Nat.reduceEqDiff, Nat.reduceAdd, Nat.reduceLeDiff, Nat.reduceMul, Nat.reduceSub, Int.reduceLE, Int.reduceLT, Int.reduceEq, Int.reduceToNat, Int.reducePow, Int.reduceNeg, h60]
      refine hK _ ?_; clear hK
      refine bwp_cond false (by simp [ev, fget]) (fun h => nomatch h) (fun _ => ?_)
      refine bwp_skip ?_
      refine hK3 _ ?_; clear hK3
      refine bwp_seq fun K hK => bwp_region rfl ?_
      simp -implicitDefEqProofs only [go_sem, ↓reduceIte, Nat.reduceEqDiff, Nat.reduceAdd, Nat.reduceLeDiff, Nat.reduceMul, Nat.reduceSub, Int.reduceLE, Int.reduceLT, Int.reduceEq, Int.reduceToNat, Int.reducePow, Int.reduceNeg, h60]
      refine hK _ ?_; clear hK
      refine bwp_ret ?_
      simp only [go_sem]
      refine aend_mem (.d (.str ((s.drop a).take (signL (s.drop a))))) [(0, 0)] [(0, lexC s a rd2 0 0)] ?_ rfl rfl ?_ ⟨rfl, rd2, ⟨by omega, by omega, by omega, fun _ => by rw [hsg]; omega⟩, rfl⟩
      · rw [hsg, hd, hcv]
        simp [resA, resVs, resV, fget]
        rfl
      · simp [entM, pinv, mget, mset, renL, AV.ren, lexC]
  by_cases h62 : (c.toNat : Int) = 62
  · have hcv := u8eq (k := 62) h62
    refine bwp_seq fun K hK => bwp_region rfl ?_
    simp -implicitDefEqProofs only [go_sem, ↓reduceIte, Nat.reduceEqDiff, Nat.reduceAdd, Nat.reduceLeDiff, Nat.reduceMul, Nat.reduceSub, Int.reduceLE, Int.reduceLT, Int.reduceEq, Int.reduceToNat, Int.reducePow, Int.reduceNeg, h60]
    refine hK _ ?_; clear hK
    refine bwp_cond false (by simp [ev, fget]) (fun h => nomatch h) (fun _ => ?_)
    refine bwp_seq fun K hK => bwp_region rfl ?_
    simp -implicitDefEqProofs only [go_sem, ↓reduceIte, Nat.reduceEqDiff, Nat.reduceAdd, Nat.reduceLeDiff, Nat.reduceMul, Nat.reduceSub, Int.reduceLE, Int.reduceLT, Int.reduceEq, Int.reduceToNat, Int.reducePow, Int.reduceNeg, h62]
    refine hK _ ?_; clear hK
    refine bwp_cond true (by simp [ev, fget]) (fun _ => ?_) (fun h => nomatch h)
    refine bwp_skip ?_
    refine hK2 _ ?_; clear hK2
    refine bwp_cond true (by simp [ev, fget]) (fun _ => ?_) (fun h => nomatch h)
    refine bwp_seq fun K hK => bwp_region rfl ?_
    simp -implicitDefEqProofs only [go_sem, ↓reduceIte, Nat.reduceEqDiff, Nat.reduceAdd, Nat.reduceLeDiff, Nat.reduceMul, Nat.reduceSub, Int.reduceLE, Int.reduceLT, Int.reduceEq, Int.reduceToNat, Int.reducePow, Int.reduceNeg, hw1]
    refine peek_callK hs a rd1 0 0 (a + 1) rfl ?_
    obtain ⟨rd2, hr2, q1, q2, q3, q4⟩ : ∃ rd2, rdW s rd1 (a + 1) = rd2 ∧ rd1 ≤ rd2 ∧ rd2 ≤ s.length ∧ rd2 ≤ max rd (a + 2) ∧ (a + 1 < s.length → a + 2 ≤ rd2) := ⟨_, rfl, by unfold rdW; split <;> omega⟩
    rw [hr2]
    generalize hd2 : s.getD (a + 1) 0 = d
    simp -implicitDefEqProofs only [go_sem, ↓reduceIte, Nat.reduceEqDiff, Nat.reduceAdd, Nat.reduceLeDiff, Nat.reduceMul, Nat.reduceSub, Int.reduceLE, Int.reduceLT, Int.reduceEq, Int.reduceToNat, Int.reducePow, Int.reduceNeg, lexC, mset]
    refine hK _ ?_; clear hK
    by_cases hdd : (d.toNat : Int) = 62
    · have hdv := u8eq (k := 62) hdd
      have hin : a + 1 < s.length := by
        rcases Nat.lt_or_ge (a + 1) s.length with h | h
        · exact h
        · rw [List.getD_eq_getElem?_getD, List.getElem?_eq_none (by omega)] at hd2
          rw [← hd2] at hdv
          cases hdv
      have hdr := drop_at hin
      rw [hd2, hdv] at hdr
      have hsg : signL (s.drop a) = 2 := by rw [hd, hdr, hcv]; rfl
      have hw2 : IntKind.i64.wrap ((a : Int) + 2) = ((a + 2 : Nat) : Int) := by rw [wrap_i64 (by omega) (by omega)]; rfl
      have b0 : (0 : Int) ≤ (a : Int) := Int.natCast_nonneg _
      have b1 : (0 : Int) ≤ ((a + 2 : Nat) : Int) := Int.natCast_nonneg _
      have b2 : a ≤ a + 2 := by omega
      have b3 : a + 2 ≤ s.length := by omega
      have hsl : (s.take (a + 2)).drop a = (s.drop a).take 2 := by rw [List.drop_take]; congr 1; omega
      refine bwp_seq fun K hK => bwp_region rfl ?_
      simp -implicitDefEqProofs only [go_sem, ↓reduceIte, Nat.reduceEqDiff, Nat.reduceAdd, Nat.reduceLeDiff, Nat.reduceMul, Nat.reduceSub, Int.reduceLE, Int.reduceLT, Int.reduceEq, Int.reduceToNat, Int.reducePow, Int.reduceNeg, h60, h62, hdd]
      refine hK _ ?_; clear hK
      refine bwp_seq fun K3 hK3 => ?_
      refine bwp_block ?_
      refine bwp_seq fun K hK => bwp_region rfl ?_
      simp -implicitDefEqProofs only [go_sem, ↓reduceIte, Nat.reduceEqDiff, Nat.reduceAdd, Nat.reduceLeDiff, Nat.reduceMul, Nat.reduceSub, Int.reduceLE, Int.reduceLT, Int.reduceEq, Int.reduceToNat, Int.reducePow, Int.reduceNeg]
      refine hK _ ?_; clear hK
      refine bwp_cond true (by simp [ev, fget]) (fun _ => ?_) (fun h => nomatch h)
      refine bwp_seq fun K hK => bwp_region_draw rfl rfl ?_
      simp -implicitDefEqProofs only [go_sem, ↓reduceIte, Nat.reduceEqDiff, Nat.reduceAdd, Nat.reduceLeDiff, Nat.reduceMul, Nat.reduceSub, Int.reduceLE, Int.reduceLT, Int.reduceEq, Int.reduceToNat, Int.reducePow, Int.reduceNeg, hw2, b0, b1, b2, b3, Int.toNat_natCast, hsl]
      refine ⟨rfl, hK _ ?_⟩; clear hK
      refine bwp_ret ?_
      simp only [go_sem]
      refine aend_mem (.d (.str ((s.drop a).take (signL (s.drop a))))) [(0, 0)] [(0, lexC s a rd2 0 0)] ?_ rfl rfl ?_ ⟨rfl, rd2, ⟨by omega, by omega, by omega, fun _ => by rw [hsg]; omega⟩, rfl⟩
      · simp [resA, resVs, resV, fget, hsg]
      · simp [entM, pinv, mget, mset, renL, AV.ren, lexC]
    · have hdn := u8ne (k := 62) hdd
      have hsg : signL (s.drop a) = 0 := by
        rw [hd, hcv, signL, if_neg, if_neg (by decide)]
        have hh : ¬ s[a + 1]? = some 62 := by
          intro h
          apply hdn
          rw [← hd2, List.getD_eq_getElem?_getD, h]
          rfl
        simp [hh]
      refine bwp_seq fun K hK => bwp_region rfl ?_
      simp -implicitDefEqProofs only [go_sem, ↓reduceIte, Nat.reduceEqDiff, Nat.reduceAdd, Nat.reduceLeDiff, Nat.reduceMul, Nat.reduceSub, Int.reduceLE, Int.reduceLT, Int.reduceEq, Int.reduceToNat, Int.reducePow, Int.reduceNeg, h60, h62, hdd]
      refine hK _ ?_; clear hK
      refine bwp_seq fun K3 hK3 => ?_
      refine bwp_block ?_
      refine bwp_seq fun K hK => bwp_region rfl ?_
      simp -implicitDefEqProofs only [go_sem, ↓reduceIte, Nat.reduceEqDiff, Nat.reduceAdd, Nat.reduceLeDiff, Nat.reduceMul, Nat.reduceSub, Int.reduceLE, Int.reduceLT, Int.reduceEq, Int.reduceToNat, Int.reducePow, Int.reduceNeg]
      refine hK _ ?_; clear hK
      refine bwp_cond false (by simp [ev, fget]) (fun h => nomatch h) (fun _ => ?_)
      refine bwp_seq fun K hK => bwp_region rfl ?_
      simp -implicitDefEqProofs only [go_sem, ↓reduceIte, Nat.reduceEqDiff, Nat.reduceAdd, Nat.reduceLeDiff, Nat.reduceMul, Nat.reduceSub, Int.reduceLE, Int.reduceLT, Int.reduceEq, Int.reduceToNat, Int.reducePow, Int.reduceNeg, h60, h62]
      refine hK _ ?_; clear hK
      refine bwp_cond true (by simp [ev, fget]) (fun _ => ?_) (fun h => nomatch h)
      refine bwp_seq fun K hK => bwp_region rfl ?_
      simp -implicitDefEqProofs only [go_sem, ↓reduceIte, Nat.reduceEqDiff, Nat.reduceAdd, Nat.reduceLeDiff, Nat.reduceMul, Nat.reduceSub, Int.reduceLE, Int.reduceLT, Int.reduceEq, Int.reduceToNat, Int.reducePow, Int.reduceNeg]
      refine hK _ ?_; clear hK
      refine bwp_ret ?_
      simp only [go_sem]
      refine aend_mem (.d (.str ((s.drop a).take (signL (s.drop a))))) [(0, 0)] [(0, lexC s a rd2 0 0)] ?_ rfl rfl ?_ ⟨rfl, rd2, ⟨by omega, by omega, by omega, fun h => absurd hsg h⟩, rfl⟩
      · rw [hsg]
        simp [resA, resVs, resV, fget]
      · simp [entM, pinv, mget, mset, renL, AV.ren, lexC]
  by_cases h61 : (c.toNat : Int) = 61
  · have hcv := u8eq (k := 61) h61
    refine bwp_seq fun K hK => bwp_region rfl ?_
    simp -implicitDefEqProofs only [go_sem, ↓reduceIte, Nat.reduceEqDiff, Nat.reduceAdd, Nat.reduceLeDiff, Nat.reduceMul, Nat.reduceSub, Int.reduceLE, Int.reduceLT, Int.reduceEq, Int.reduceToNat, Int.reducePow, Int.reduceNeg, h60]
    refine hK _ ?_; clear hK
    refine bwp_cond false (by simp [ev, fget]) (fun h => nomatch h) (fun _ => ?_)
    refine bwp_seq fun K hK => bwp_region rfl ?_
    simp -implicitDefEqProofs only [go_sem, ↓reduceIte, Nat.reduceEqDiff, Nat.reduceAdd, Nat.reduceLeDiff, Nat.reduceMul, Nat.reduceSub, Int.reduceLE, Int.reduceLT, Int.reduceEq, Int.reduceToNat, Int.reducePow, Int.reduceNeg, h62]
    refine hK _ ?_; clear hK
    refine bwp_cond false (by simp [ev, fget]) (fun h => nomatch h) (fun _ => ?_)
    refine bwp_seq fun K hK => bwp_region rfl ?_
    simp -implicitDefEqProofs only [go_sem, ↓reduceIte, Nat.reduceEqDiff, Nat.reduceAdd, Nat.reduceLeDiff, Nat.reduceMul, Nat.reduceSub, Int.reduceLE, Int.reduceLT, Int.reduceEq, Int.reduceToNat, Int.reducePow, Int.reduceNeg, h61]
    refine hK _ ?_; clear hK
    refine bwp_cond true (by simp [ev, fget]) (fun _ => ?_) (fun h => nomatch h)
    refine bwp_skip ?_
    refine hK2 _ ?_; clear hK2
    refine bwp_cond true (by simp [ev, fget]) (fun _ => ?_) (fun h => nomatch h)
    refine bwp_seq fun K hK => bwp_region rfl ?_
    simp -implicitDefEqProofs only [go_sem, ↓reduceIte, Nat.reduceEqDiff, Nat.reduceAdd, Nat.reduceLeDiff, Nat.reduceMul, Nat.reduceSub, Int.reduceLE, Int.reduceLT, Int.reduceEq, Int.reduceToNat, Int.reducePow, Int.reduceNeg, hw1]
    refine peek_callK hs a rd1 0 0 (a + 1) rfl ?_
    obtain ⟨rd2, hr2, q1, q2, q3, q4⟩ : ∃ rd2, rdW s rd1 (a + 1) = rd2 ∧ rd1 ≤ rd2 ∧ rd2 ≤ s.length ∧ rd2 ≤ max rd (a + 2) ∧ (a + 1 < s.length → a + 2 ≤ rd2) := ⟨_, rfl, by unfold rdW; split <;> omega⟩
    rw [hr2]
    generalize hd2 : s.getD (a + 1) 0 = d
    simp -implicitDefEqProofs only [go_sem, ↓reduceIte, Nat.reduceEqDiff, Nat.reduceAdd, Nat.reduceLeDiff, Nat.reduceMul, Nat.reduceSub, Int.reduceLE, Int.reduceLT, Int.reduceEq, Int.reduceToNat, Int.reducePow, Int.reduceNeg, lexC, mset]
    refine hK _ ?_; clear hK
    by_cases hdd : (d.toNat : Int) = 61
    · have hdv := u8eq (k := 61) hdd
      have hin : a + 1 < s.length := by
        rcases Nat.lt_or_ge (a + 1) s.length with h | h
        · exact h
        · rw [List.getD_eq_getElem?_getD, List.getElem?_eq_none (by omega)] at hd2
          rw [← hd2] at hdv
          cases hdv
      have hdr := drop_at hin
      rw [hd2, hdv] at hdr
      have hsg : signL (s.drop a) = 2 := by rw [hd, hdr, hcv]; rfl
      have hw2 : IntKind.i64.wrap ((a : Int) + 2) = ((a + 2 : Nat) : Int) := by rw [wrap_i64 (by omega) (by omega)]; rfl
      have b0 : (0 : Int) ≤ (a : Int) := Int.natCast_nonneg _
      have b1 : (0 : Int) ≤ ((a + 2 : Nat) : Int) := Int.natCast_nonneg _
      have b2 : a ≤ a + 2 := by omega
      have b3 : a + 2 ≤ s.length := by omega
      have hsl : (s.take (a + 2)).drop a = (s.drop a).take 2 := by rw [List.drop_take]; congr 1; omega
      refine bwp_seq fun K hK => bwp_region rfl ?_
      simp -implicitDefEqProofs only [go_sem, ↓reduceIte, Nat.reduceEqDiff, Nat.reduceAdd, Nat.reduceLeDiff, Nat.reduceMul, Nat.reduceSub, Int.reduceLE, Int.reduceLT, Int.reduceEq, Int.reduceToNat, Int.reducePow, Int.reduceNeg, h60, h62, h61, hdd]
      refine hK _ ?_; clear hK
      refine bwp_seq fun K3 hK3 => ?_
      refine bwp_block ?_
      refine bwp_seq fun K hK => bwp_region rfl ?_
      simp -implicitDefEqProofs only [go_sem, ↓reduceIte, Nat.reduceEqDiff, Nat.reduceAdd, Nat.reduceLeDiff, Nat.reduceMul, Nat.reduceSub, Int.reduceLE, Int.reduceLT, Int.reduceEq, Int.reduceToNat, Int.reducePow, Int.reduceNeg]
      refine hK _ ?_; clear hK
      refine bwp_cond true (by simp [ev, fget]) (fun _ => ?_) (fun h => nomatch h)
      refine bwp_seq fun K hK => bwp_region_draw rfl rfl ?_
      simp -implicitDefEqProofs only [go_sem, ↓reduceIte, Nat.reduceEqDiff, Nat.reduceAdd, Nat.reduceLeDiff, Nat.reduceMul, Nat.reduceSub, Int.reduceLE, Int.reduceLT, Int.reduceEq, Int.reduceToNat, Int.reducePow, Int.reduceNeg, hw2, b0, b1, b2, b3, Int.toNat_natCast, hsl]
      refine ⟨rfl, hK _ ?_⟩; clear hK
      refine bwp_ret ?_
      simp only [go_sem]
      refine aend_mem (.d (.str ((s.drop a).take (signL (s.drop a))))) [(0, 0)] [(0, lexC s a rd2 0 0)] ?_ rfl rfl ?_ ⟨rfl, rd2, ⟨by omega, by omega, by omega, fun _ => by rw [hsg]; omega⟩, rfl⟩
      · simp [resA, resVs, resV, fget, hsg]
      · simp [entM, pinv, mget, mset, renL, AV.ren, lexC]
    · have hdn := u8ne (k := 61) hdd
      have hsg : signL (s.drop a) = 1 := by
        rw [hd, hcv, signL, if_neg, if_pos (by decide)]
        have hh : ¬ s[a + 1]? = some 61 := by
          intro h
          apply hdn
          rw [← hd2, List.getD_eq_getElem?_getD, h]
          rfl
        simp [hh]
      refine bwp_seq fun K hK => bwp_region rfl ?_
      simp -implicitDefEqProofs only [go_sem, ↓reduceIte, Nat.reduceEqDiff, Nat.reduceAdd, Nat.reduceLeDiff, Nat.reduceMul, Nat.reduceSub, Int.reduceLE, Int.reduceLT, Int.reduceEq, Int.reduceToNat, Int.reducePow, Int.reduceNeg, h60, h62, h61, hdd]
      refine hK _ ?_; clear hK
      refine bwp_seq fun K3 hK3 => ?_
      refine bwp_block ?_
      refine bwp_seq fun K hK => bwp_region rfl ?_
      simp -implicitDefEqProofs only [go_sem, ↓reduceIte, Nat.reduceEqDiff, Nat.reduceAdd, Nat.reduceLeDiff, Nat.reduceMul, Nat.reduceSub, Int.reduceLE, Int.reduceLT, Int.reduceEq, Int.reduceToNat, Int.reducePow, Int.reduceNeg]
      refine hK _ ?_; clear hK
      refine bwp_cond false (by simp [ev, fget]) (fun h => nomatch h) (fun _ => ?_)
      refine bwp_seq fun K hK => bwp_region rfl ?_
      simp -implicitDefEqProofs only [go_sem, ↓reduceIte, Nat.reduceEqDiff, Nat.reduceAdd, Nat.reduceLeDiff, Nat.reduceMul, Nat.reduceSub, Int.reduceLE, Int.reduceLT, Int.reduceEq, Int.reduceToNat, Int.reducePow, Int.reduceNeg, h60, h62, h61]
      refine hK _ ?_; clear hK
      refine bwp_cond false (by simp [ev, fget]) (fun h => nomatch h) (fun _ => ?_)
      refine bwp_skip ?_
      refine hK3 _ ?_; clear hK3
      refine bwp_seq fun K hK => bwp_region rfl ?_
      simp -implicitDefEqProofs only [go_sem, ↓reduceIte, Nat.reduceEqDiff, Nat.reduceAdd, Nat.reduceLeDiff, Nat.reduceMul, Nat.reduceSub, Int.reduceLE, Int.reduceLT, Int.reduceEq, Int.reduceToNat, Int.reducePow, Int.reduceNeg, h60, h62, h61]
      refine hK _ ?_; clear hK
      refine bwp_ret ?_
      simp only [go_sem]
      refine aend_mem (.d (.str ((s.drop a).take (signL (s.drop a))))) [(0, 0)] [(0, lexC s a rd2 0 0)] ?_ rfl rfl ?_ ⟨rfl, rd2, ⟨by omega, by omega, by omega, fun _ => by rw [hsg]; omega⟩, rfl⟩
      · rw [hsg, hd, hcv]
        simp [resA, resVs, resV, fget]
        rfl
      · simp [entM, pinv, mget, mset, renL, AV.ren, lexC]
  by_cases h33 : (c.toNat : Int) = 33
  · have hcv := u8eq (k := 33) h33
    refine bwp_seq fun K hK => bwp_region rfl ?_
    simp -implicitDefEqProofs only [go_sem, ↓reduceIte, Nat.reduceEqDiff, Nat.reduceAdd, Nat.reduceLeDiff, Nat.reduceMul, Nat.reduceSub, Int.reduceLE, Int.reduceLT, Int.reduceEq, Int.reduceToNat, Int.reducePow, Int.reduceNeg, h60]
    refine hK _ ?_; clear hK
    refine bwp_cond false (by simp [ev, fget]) (fun h => nomatch h) (fun _ => ?_)
    refine bwp_seq fun K hK => bwp_region rfl ?_
    simp -implicitDefEqProofs only [go_sem, ↓reduceIte, Nat.reduceEqDiff, Nat.reduceAdd, Nat.reduceLeDiff, Nat.reduceMul, Nat.reduceSub, Int.reduceLE, Int.reduceLT, Int.reduceEq, Int.reduceToNat, Int.reducePow, Int.reduceNeg, h62]
    refine hK _ ?_; clear hK
    refine bwp_cond false (by simp [ev, fget]) (fun h => nomatch h) (fun _ => ?_)
    refine bwp_seq fun K hK => bwp_region rfl ?_
    simp -implicitDefEqProofs only [go_sem, ↓reduceIte, Nat.reduceEqDiff, Nat.reduceAdd, Nat.reduceLeDiff, Nat.reduceMul, Nat.reduceSub, Int.reduceLE, Int.reduceLT, Int.reduceEq, Int.reduceToNat, Int.reducePow, Int.reduceNeg, h61]
    refine hK _ ?_; clear hK
    refine bwp_cond false (by simp [ev, fget]) (fun h => nomatch h) (fun _ => ?_)
    refine bwp_region rfl ?_
    simp -implicitDefEqProofs only [go_sem, ↓reduceIte, Nat.reduceEqDiff, Nat.reduceAdd, Nat.reduceLeDiff, Nat.reduceMul, Nat.reduceSub, Int.reduceLE, Int.reduceLT, Int.reduceEq, Int.reduceToNat, Int.reducePow, Int.reduceNeg, h33]
    refine hK2 _ ?_; clear hK2
    refine bwp_cond true (by simp [ev, fget]) (fun _ => ?_) (fun h => nomatch h)
    refine bwp_seq fun K hK => bwp_region rfl ?_
    simp -implicitDefEqProofs only [go_sem, ↓reduceIte, Nat.reduceEqDiff, Nat.reduceAdd, Nat.reduceLeDiff, Nat.reduceMul, Nat.reduceSub, Int.reduceLE, Int.reduceLT, Int.reduceEq, Int.reduceToNat, Int.reducePow, Int.reduceNeg, hw1]
    refine peek_callK hs a rd1 0 0 (a + 1) rfl ?_
    obtain ⟨rd2, hr2, q1, q2, q3, q4⟩ : ∃ rd2, rdW s rd1 (a + 1) = rd2 ∧ rd1 ≤ rd2 ∧ rd2 ≤ s.length ∧ rd2 ≤ max rd (a + 2) ∧ (a + 1 < s.length → a + 2 ≤ rd2) := ⟨_, rfl, by unfold rdW; split <;> omega⟩
    rw [hr2]
    generalize hd2 : s.getD (a + 1) 0 = d
    simp -implicitDefEqProofs only [go_sem, ↓reduceIte, Nat.reduceEqDiff, Nat.reduceAdd, Nat.reduceLeDiff, Nat.reduceMul, Nat.reduceSub, Int.reduceLE, Int.reduceLT, Int.reduceEq, Int.reduceToNat, Int.reducePow, Int.reduceNeg, lexC, mset]
    refine hK _ ?_; clear hK
    by_cases hdd : (d.toNat : Int) = 61
    · have hdv := u8eq (k := 61) hdd
      have hin : a + 1 < s.length := by
        rcases Nat.lt_or_ge (a + 1) s.length with h | h
        · exact h
        · rw [List.getD_eq_getElem?_getD, List.getElem?_eq_none (by omega)] at hd2
          rw [← hd2] at hdv
          cases hdv
      have hdr := drop_at hin
      rw [hd2, hdv] at hdr
      have hsg : signL (s.drop a) = 2 := by rw [hd, hdr, hcv]; rfl
      have hw2 : IntKind.i64.wrap ((a : Int) + 2) = ((a + 2 : Nat) : Int) := by rw [wrap_i64 (by omega) (by omega)]; rfl
      have b0 : (0 : Int) ≤ (a : Int) := Int.natCast_nonneg _
      have b1 : (0 : Int) ≤ ((a + 2 : Nat) : Int) := Int.natCast_nonneg _
      have b2 : a ≤ a + 2 := by omega
      have b3 : a + 2 ≤ s.length := by omega
      have hsl : (s.take (a + 2)).drop a = (s.drop a).take 2 := by rw [List.drop_take]; congr 1; omega
      refine bwp_seq fun K hK => bwp_region rfl ?_
      simp -implicitDefEqProofs only [go_sem, ↓reduceIte, Nat.reduceEqDiff, Nat.reduceAdd, Nat.reduceLeDiff, Nat.reduceMul, Nat.reduceSub, Int.reduceLE, Int.reduceLT, Int.reduceEq, Int.reduceToNat, Int.reducePow, Int.reduceNeg, h60, h62, h61, h33, hdd]
      refine hK _ ?_; clear hK
      refine bwp_seq fun K3 hK3 => ?_
      refine bwp_block ?_
      refine bwp_seq fun K hK => bwp_region rfl ?_
      simp -implicitDefEqProofs only [go_sem, ↓reduceIte, Nat.reduceEqDiff, Nat.reduceAdd, Nat.reduceLeDiff, Nat.reduceMul, Nat.reduceSub, Int.reduceLE, Int.reduceLT, Int.reduceEq, Int.reduceToNat, Int.reducePow, Int.reduceNeg]
      refine hK _ ?_; clear hK
      refine bwp_cond true (by simp [ev, fget]) (fun _ => ?_) (fun h => nomatch h)
      refine bwp_seq fun K hK => bwp_region_draw rfl rfl ?_
      simp -implicitDefEqProofs only [go_sem, ↓reduceIte, Nat.reduceEqDiff, Nat.reduceAdd, Nat.reduceLeDiff, Nat.reduceMul, Nat.reduceSub, Int.reduceLE, Int.reduceLT, Int.reduceEq, Int.reduceToNat, Int.reducePow, Int.reduceNeg, hw2, b0, b1, b2, b3, Int.toNat_natCast, hsl]
      refine ⟨rfl, hK _ ?_⟩; clear hK
      refine bwp_ret ?_
      simp only [go_sem]
      refine aend_mem (.d (.str ((s.drop a).take (signL (s.drop a))))) [(0, 0)] [(0, lexC s a rd2 0 0)] ?_ rfl rfl ?_ ⟨rfl, rd2, ⟨by omega, by omega, by omega, fun _ => by rw [hsg]; omega⟩, rfl⟩
      · simp [resA, resVs, resV, fget, hsg]
      · simp [entM, pinv, mget, mset, renL, AV.ren, lexC]
    · have hdn := u8ne (k := 61) hdd
      have hsg : signL (s.drop a) = 0 := by
        rw [hd, hcv, signL, if_neg, if_neg (by decide)]
        have hh : ¬ s[a + 1]? = some 61 := by
          intro h
          apply hdn
          rw [← hd2, List.getD_eq_getElem?_getD, h]
          rfl
        simp [hh]
      refine bwp_seq fun K hK => bwp_region rfl ?_
      simp -implicitDefEqProofs only [go_sem, ↓reduceIte, Nat.reduceEqDiff, Nat.reduceAdd, Nat.reduceLeDiff, Nat.reduceMul, Nat.reduceSub, Int.reduceLE, Int.reduceLT, Int.reduceEq, Int.reduceToNat, Int.reducePow, Int.reduceNeg, h60, h62, h61, h33, hdd]
      refine hK _ ?_; clear hK
      refine bwp_seq fun K3 hK3 => ?_
      refine bwp_block ?_
      refine bwp_seq fun K hK => bwp_region rfl ?_
      simp -implicitDefEqProofs only [go_sem, ↓reduceIte, Nat.reduceEqDiff, Nat.reduceAdd, Nat.reduceLeDiff, Nat.reduceMul, Nat.reduceSub, Int.reduceLE, Int.reduceLT, Int.reduceEq, Int.reduceToNat, Int.reducePow, Int.reduceNeg]
      refine hK _ ?_; clear hK
      refine bwp_cond false (by simp [ev, fget]) (fun h => nomatch h) (fun _ => ?_)
      refine bwp_seq fun K hK => bwp_region rfl ?_
      simp -implicitDefEqProofs only [go_sem, ↓reduceIte, Nat.reduceEqDiff, Nat.reduceAdd, Nat.reduceLeDiff, Nat.reduceMul, Nat.reduceSub, Int.reduceLE, Int.reduceLT, Int.reduceEq, Int.reduceToNat, Int.reducePow, Int.reduceNeg, h60, h62, h61, h33]
      refine hK _ ?_; clear hK
      refine bwp_cond true (by simp [ev, fget]) (fun _ => ?_) (fun h => nomatch h)
      refine bwp_seq fun K hK => bwp_region rfl ?_
      simp -implicitDefEqProofs only [go_sem, ↓reduceIte, Nat.reduceEqDiff, Nat.reduceAdd, Nat.reduceLeDiff, Nat.reduceMul, Nat.reduceSub, Int.reduceLE, Int.reduceLT, Int.reduceEq, Int.reduceToNat, Int.reducePow, Int.reduceNeg]
      refine hK _ ?_; clear hK
      refine bwp_ret ?_
      simp only [go_sem]
      refine aend_mem (.d (.str ((s.drop a).take (signL (s.drop a))))) [(0, 0)] [(0, lexC s a rd2 0 0)] ?_ rfl rfl ?_ ⟨rfl, rd2, ⟨by omega, by omega, by omega, fun h => absurd hsg h⟩, rfl⟩
      · rw [hsg]
        simp [resA, resVs, resV, fget]
      · simp [entM, pinv, mget, mset, renL, AV.ren, lexC]
  refine bwp_seq fun K hK => bwp_region rfl ?_
  simp -implicitDefEqProofs only [go_sem, ↓reduceIte, Nat.reduceEqDiff, Nat.reduceAdd, Nat.reduceLeDiff, Nat.reduceMul, Nat.reduceSub, Int.reduceLE, Int.reduceLT, Int.reduceEq, Int.reduceToNat, Int.reducePow, Int.reduceNeg, h60]
  refine hK _ ?_; clear hK
  refine bwp_cond false (by simp [ev, fget]) (fun h => nomatch h) (fun _ => ?_)
  refine bwp_seq fun K hK => bwp_region rfl ?_
  simp -implicitDefEqProofs only [go_sem, ↓reduceIte, Nat.reduceEqDiff, Nat.reduceAdd, Nat.reduceLeDiff, Nat.reduceMul, Nat.reduceSub, Int.reduceLE, Int.reduceLT, Int.reduceEq, Int.reduceToNat, Int.reducePow, Int.reduceNeg, h62]
  refine hK _ ?_; clear hK
  refine bwp_cond false (by simp [ev, fget]) (fun h => nomatch h) (fun _ => ?_)
  refine bwp_seq fun K hK => bwp_region rfl ?_
  simp -implicitDefEqProofs only [go_sem, ↓reduceIte, Nat.reduceEqDiff, Nat.reduceAdd, Nat.reduceLeDiff, Nat.reduceMul, Nat.reduceSub, Int.reduceLE, Int.reduceLT, Int.reduceEq, Int.reduceToNat, Int.reducePow, Int.reduceNeg, h61]
  refine hK _ ?_; clear hK
  refine bwp_cond false (by simp [ev, fget]) (fun h => nomatch h) (fun _ => ?_)
  refine bwp_region rfl ?_
  simp -implicitDefEqProofs only [go_sem, ↓reduceIte, Nat.reduceEqDiff, Nat.reduceAdd, Nat.reduceLeDiff, Nat.reduceMul, Nat.reduceSub, Int.reduceLE, Int.reduceLT, Int.reduceEq, Int.reduceToNat, Int.reducePow, Int.reduceNeg, h33]
  refine hK2 _ ?_; clear hK2
  refine bwp_cond false (by simp [ev, fget]) (fun h => nomatch h) (fun _ => ?_)
  refine bwp_skip ?_
  refine hK1 _ ?_; clear hK1
  have n60 := u8ne (k := 60) h60
  have n62 := u8ne (k := 62) h62
  have n61 := u8ne (k := 61) h61
  have n33 := u8ne (k := 33) h33
  have hsg : signL (s.drop a) = if c ∈ plain then 1 else 0 := by
    rw [hd, signL, if_neg (by simp [n60, n62, n61, n33])]
    simp [ones_iff, n60, n61]
  have ki := idx_pure plain c
  refine bwp_seq fun K1 hK1 => ?_
  by_cases hm : c ∈ plain
  · rw [if_pos hm] at hsg
    have h0 : ¬ (c.toNat : Int) = 0 := by
      intro h
      have := u8eq (k := 0) h
      rw [this] at hm
      revert hm; decide
    have hi := (idx_mem plain c).2 hm
    generalize Lib.indexByte plain c = ix at ki hi
    unfold plain at ki
    refine bwp_seq fun K hK => bwp_region rfl ?_
    simp -implicitDefEqProofs only [go_sem, ↓reduceIte, Nat.reduceEqDiff, Nat.reduceAdd, Nat.reduceLeDiff, Nat.reduceMul, Nat.reduceSub, Int.reduceLE, Int.reduceLT, Int.reduceEq, Int.reduceToNat, Int.reducePow, Int.reduceNeg, h0]
    repeat' (first
      | (refine gateK_split (fun hb => ?_) (fun hb => ?_) <;> simp -implicitDefEqProofs only [go_sem, ↓reduceIte, Nat.reduceEqDiff, Nat.reduceAdd, Nat.reduceLeDiff, Nat.reduceMul, Nat.reduceSub, Int.reduceLE, Int.reduceLT, Int.reduceEq, Int.reduceToNat, Int.reducePow, Int.reduceNeg, hb, h0, hi])
      | (refine dGateK_split (fun hb => ?_) (fun hb => ?_) <;> simp -implicitDefEqProofs only [go_sem, ↓reduceIte, Nat.reduceEqDiff, Nat.reduceAdd, Nat.reduceLeDiff, Nat.reduceMul, Nat.reduceSub, Int.reduceLE, Int.reduceLT, Int.reduceEq, Int.reduceToNat, Int.reducePow, Int.reduceNeg, hb, h0, hi])
      | (refine callK_pure (ki) rfl rfl ?_; simp -implicitDefEqProofs only [go_sem, ↓reduceIte, Nat.reduceEqDiff, Nat.reduceAdd, Nat.reduceLeDiff, Nat.reduceMul, Nat.reduceSub, Int.reduceLE, Int.reduceLT, Int.reduceEq, Int.reduceToNat, Int.reducePow, Int.reduceNeg, h0, hi])
      | (refine dCallK_pure (ki) rfl rfl ?_; simp -implicitDefEqProofs only [go_sem, ↓reduceIte, Nat.reduceEqDiff, Nat.reduceAdd, Nat.reduceLeDiff, Nat.reduceMul, Nat.reduceSub, Int.reduceLE, Int.reduceLT, Int.reduceEq, Int.reduceToNat, Int.reducePow, Int.reduceNeg, h0, hi])
      | (rw [if_pos (by (try simp only [List.length_append, List.length_cons, List.length_nil, List.length_map]); omega)]; simp -implicitDefEqProofs only [go_sem, ↓reduceIte, Nat.reduceEqDiff, Nat.reduceAdd, Nat.reduceLeDiff, Nat.reduceMul, Nat.reduceSub, Int.reduceLE, Int.reduceLT, Int.reduceEq, Int.reduceToNat, Int.reducePow, Int.reduceNeg, h0, hi]))
    refine hK _ ?_; clear hK
    refine bwp_cond true (by simp [ev, fget]) (fun _ => ?_) (fun h => nomatch h)
    have henc : ∀ k ∈ plain, (Utf8.encode (k.toNat : Int)).data.toList = [k] := by decide
    refine bwp_seq fun K hK => bwp_region rfl ?_
    simp -implicitDefEqProofs only [go_sem, ↓reduceIte, Nat.reduceEqDiff, Nat.reduceAdd, Nat.reduceLeDiff, Nat.reduceMul, Nat.reduceSub, Int.reduceLE, Int.reduceLT, Int.reduceEq, Int.reduceToNat, Int.reducePow, Int.reduceNeg]
    refine hK _ ?_; clear hK
    refine bwp_ret ?_
    simp only [go_sem]
    refine aend_mem (.d (.str ((s.drop a).take (signL (s.drop a))))) [(0, 0)] [(0, lexC s a rd1 0 0)] ?_ rfl rfl ?_ ⟨rfl, rd1, ⟨by omega, by omega, by omega, fun _ => by rw [hsg]; omega⟩, rfl⟩
    · rw [hsg, hd]
      simp [resA, resVs, resV, fget, henc c hm]
    · simp [entM, pinv, mget, mset, renL, AV.ren, lexC]
  · rw [if_neg hm] at hsg
    have hi : ¬ 0 ≤ Lib.indexByte plain c := fun h => hm ((idx_mem plain c).1 h)
    by_cases h0 : (c.toNat : Int) = 0
    · refine bwp_seq fun K hK => bwp_region rfl ?_
      simp -implicitDefEqProofs only [go_sem, ↓reduceIte, Nat.reduceEqDiff, Nat.reduceAdd, Nat.reduceLeDiff, Nat.reduceMul, Nat.reduceSub, Int.reduceLE, Int.reduceLT, Int.reduceEq, Int.reduceToNat, Int.reducePow, Int.reduceNeg, h0]
      refine hK _ ?_; clear hK
      refine bwp_cond false (by simp [ev, fget]) (fun h => nomatch h) (fun _ => ?_)
      refine bwp_skip ?_
      refine hK1 _ ?_; clear hK1
      refine bwp_seq fun K hK => bwp_region rfl ?_
      simp -implicitDefEqProofs only [go_sem, ↓reduceIte, Nat.reduceEqDiff, Nat.reduceAdd, Nat.reduceLeDiff, Nat.reduceMul, Nat.reduceSub, Int.reduceLE, Int.reduceLT, Int.reduceEq, Int.reduceToNat, Int.reducePow, Int.reduceNeg]
      refine hK _ ?_; clear hK
      refine bwp_ret ?_
      simp only [go_sem]
      refine aend_mem (.d (.str ((s.drop a).take (signL (s.drop a))))) [(0, 0)] [(0, lexC s a rd1 0 0)] ?_ rfl rfl ?_ ⟨rfl, rd1, ⟨by omega, by omega, by omega, fun h => absurd hsg h⟩, rfl⟩
      · rw [hsg]
        simp [resA, resVs, resV, fget]
      · simp [entM, pinv, mget, mset, renL, AV.ren, lexC]
    · generalize Lib.indexByte plain c = ix at ki hi
      unfold plain at ki
      refine bwp_seq fun K hK => bwp_region rfl ?_
      simp -implicitDefEqProofs only [go_sem, ↓reduceIte, Nat.reduceEqDiff, Nat.reduceAdd, Nat.reduceLeDiff, Nat.reduceMul, Nat.reduceSub, Int.reduceLE, Int.reduceLT, Int.reduceEq, Int.reduceToNat, Int.reducePow, Int.reduceNeg, h0]
      repeat' (first
        | (refine gateK_split (fun hb => ?_) (fun hb => ?_) <;> simp -implicitDefEqProofs only [go_sem, ↓reduceIte, Nat.reduceEqDiff, Nat.reduceAdd, Nat.reduceLeDiff, Nat.reduceMul, Nat.reduceSub, Int.reduceLE, Int.reduceLT, Int.reduceEq, Int.reduceToNat, Int.reducePow, Int.reduceNeg, hb, h0, hi])
        | (refine dGateK_split (fun hb => ?_) (fun hb => ?_) <;> simp -implicitDefEqProofs only [go_sem, ↓reduceIte, Nat.reduceEqDiff, Nat.reduceAdd, Nat.reduceLeDiff, Nat.reduceMul, Nat.reduceSub, Int.reduceLE, Int.reduceLT, Int.reduceEq, Int.reduceToNat, Int.reducePow, Int.reduceNeg, hb, h0, hi])
        | (refine callK_pure (ki) rfl rfl ?_; simp -implicitDefEqProofs only [go_sem, ↓reduceIte, Nat.reduceEqDiff, Nat.reduceAdd, Nat.reduceLeDiff, Nat.reduceMul, Nat.reduceSub, Int.reduceLE, Int.reduceLT, Int.reduceEq, Int.reduceToNat, Int.reducePow, Int.reduceNeg, h0, hi])
        | (refine dCallK_pure (ki) rfl rfl ?_; simp -implicitDefEqProofs only [go_sem, ↓reduceIte, Nat.reduceEqDiff, Nat.reduceAdd, Nat.reduceLeDiff, Nat.reduceMul, Nat.reduceSub, Int.reduceLE, Int.reduceLT, Int.reduceEq, Int.reduceToNat, Int.reducePow, Int.reduceNeg, h0, hi])
        | (rw [if_pos (by (try simp only [List.length_append, List.length_cons, List.length_nil, List.length_map]); omega)]; simp -implicitDefEqProofs only [go_sem, ↓reduceIte, Nat.reduceEqDiff, Nat.reduceAdd, Nat.reduceLeDiff, Nat.reduceMul, Nat.reduceSub, Int.reduceLE, Int.reduceLT, Int.reduceEq, Int.reduceToNat, Int.reducePow, Int.reduceNeg, h0, hi]))
      refine hK _ ?_; clear hK
      refine bwp_cond false (by simp [ev, fget]) (fun h => nomatch h) (fun _ => ?_)
      refine bwp_skip ?_
      refine hK1 _ ?_; clear hK1
      refine bwp_seq fun K hK => bwp_region rfl ?_
      simp -implicitDefEqProofs only [go_sem, ↓reduceIte, Nat.reduceEqDiff, Nat.reduceAdd, Nat.reduceLeDiff, Nat.reduceMul, Nat.reduceSub, Int.reduceLE, Int.reduceLT, Int.reduceEq, Int.reduceToNat, Int.reducePow, Int.reduceNeg]
      refine hK _ ?_; clear hK
      refine bwp_ret ?_
      simp only [go_sem]
      refine aend_mem (.d (.str ((s.drop a).take (signL (s.drop a))))) [(0, 0)] [(0, lexC s a rd1 0 0)] ?_ rfl rfl ?_ ⟨rfl, rd1, ⟨by omega, by omega, by omega, fun h => absurd hsg h⟩, rfl⟩
      · rw [hsg]
        simp [resA, resVs, resV, fget]
      · simp [entM, pinv, mget, mset, renL, AV.ren, lexC]

end Go.Proofs.YtpfbljkfbjjlkaaDoor
