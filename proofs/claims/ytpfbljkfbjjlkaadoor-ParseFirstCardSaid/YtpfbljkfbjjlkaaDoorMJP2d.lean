/- What the statement's proof leans on, part 4: the layer, the walks, the plain laws. -/
import Derived.Test.YtpfbljkfbjjlkaaDoorMJP2c
import Derived.Lib.IndexLaws
set_option linter.unusedSimpArgs false
set_option linter.unusedVariables false

/- The lexer's signs. -/
namespace Go.Proofs.YtpfbljkfbjjlkaaDoor
open Go Go.Jq
set_option maxRecDepth 100000
set_option linter.unusedSimpArgs false

theorem idx_pure (l : List UInt8) (c : UInt8) : Pure Tryd.prog 70 [.d (.str l), .d (.int .u8 c.toNat)] (.d (.int .i64 (Lib.indexByte l c))) := by
  refine pure_of_below fun cx w vs hr hM => ?_
  simp only [RelL, Rel, RelD] at hr
  obtain ⟨v1, vs1, rfl, rfl, v2, vs2, rfl, rfl, rfl⟩ := hr
  refine (Tryd.strings_IndexByte ⟨l.toArray⟩ c.toNat w).mono ?_
  rintro e w' ⟨rfl, rfl⟩
  refine ⟨_, rfl, rfl, rfl, rfl, Nat.le_refl _, fun _ _ => rfl, ?_⟩
  simp [Rel, RelD]

theorem idx_mem (l : List UInt8) (c : UInt8) : 0 ≤ Lib.indexByte l c ↔ c ∈ l := by
  have hg := Lib.indexByte_ge l c
  constructor
  · intro h
    obtain ⟨o, ho⟩ : ∃ o : Nat, Lib.indexByte l c = o := ⟨(Lib.indexByte l c).toNat, by omega⟩
    exact List.mem_of_getElem? (Lib.indexByte_some ho).1
  · intro h
    obtain ⟨k, hk, e⟩ := List.getElem_of_mem h
    rcases Int.lt_or_le (Lib.indexByte l c) 0 with h1 | h1
    · have : Lib.indexByte l c = -1 := by omega
      exact absurd (by rw [List.getElem?_eq_getElem hk, e]) (Lib.indexByte_none this k)
    · exact h1

def plain : List UInt8 := [123, 125, 59, 58, 43, 45, 42, 38, 124, 94]

theorem ones_iff (c : UInt8) : c ∈ ones ↔ c ∈ plain ∨ c = 60 ∨ c = 61 := by
  simp only [ones, plain, List.mem_cons, List.not_mem_nil, or_false]
  constructor
  · rintro (h | h | h | h | h | h | h | h | h | h | h | h) <;> simp [h]
  · rintro ((h | h | h | h | h | h | h | h | h | h) | h | h) <;> simp [h]

def sgQ (s : List UInt8) (a rd : Nat) (r : AV) (m' : Mem) : Prop :=
  r = .d (.str ((s.drop a).take (signL (s.drop a)))) ∧ ∃ rd', (rd ≤ rd' ∧ a + 1 ≤ rd' ∧ rd' ≤ s.length ∧ (signL (s.drop a) ≠ 0 → a + signL (s.drop a) ≤ rd' ∧ rd' ≤ max rd (a + signL (s.drop a) + 1))) ∧ m' = [(0, lexC s a rd' 0 0)]

set_option maxHeartbeats 16000000 in
theorem sign_calls {s : List UInt8} (hs : s.length ≤ 140737488351232) {a rd : Nat} (ha : a < s.length) (hr : a ≤ rd ∧ rd ≤ s.length) :
    ACalls Tryd.prog 39 [.ptr 0 0] [(0, lexC s a rd 0 0)] (sgQ s a rd) := by
  have hd := drop_at ha
  have hw1 : IntKind.i64.wrap ((a : Int) + 1) = ((a + 1 : Nat) : Int) := by rw [wrap_i64 (by omega) (by omega)]; rfl
  have hp1 := rdW_lt (rd := rd) ha
  refine acalls_of Tryd.func39 ac39_ok Tryd.ntmps39 Tryd.results39 rfl ?_
  unfold ac39
  refine bwp_seq fun K hK => bwp_region rfl ?_
  simp -implicitDefEqProofs only [go_sem, ↓reduceIte, Nat.reduceEqDiff, Nat.reduceAdd, Nat.reduceLeDiff, Nat.reduceMul, Nat.reduceSub, Int.reduceLE, Int.reduceLT, Int.reduceEq, Int.reduceToNat, Int.reducePow, Int.reduceNeg]
  refine hK _ ?_; clear hK
  refine bwp_seq fun K hK => bwp_region rfl ?_
  simp -implicitDefEqProofs only [go_sem, ↓reduceIte, Nat.reduceEqDiff, Nat.reduceAdd, Nat.reduceLeDiff, Nat.reduceMul, Nat.reduceSub, Int.reduceLE, Int.reduceLT, Int.reduceEq, Int.reduceToNat, Int.reducePow, Int.reduceNeg, lexC]
  refine peek_callK hs a rd 0 0 a rfl ?_
  generalize hc : s.getD a 0 = c at hd
  rw [hp1]
  generalize hm1 : max rd (a + 1) = rd1
  simp -implicitDefEqProofs only [go_sem, ↓reduceIte, Nat.reduceEqDiff, Nat.reduceAdd, Nat.reduceLeDiff, Nat.reduceMul, Nat.reduceSub, Int.reduceLE, Int.reduceLT, Int.reduceEq, Int.reduceToNat, Int.reducePow, Int.reduceNeg, lexC, mset]
  refine hK _ ?_; clear hK
  refine bwp_seq fun K1 hK1 => ?_
  refine bwp_seq fun K hK => bwp_region rfl ?_
  simp -implicitDefEqProofs only [go_sem, ↓reduceIte, Nat.reduceEqDiff, Nat.reduceAdd, Nat.reduceLeDiff, Nat.reduceMul, Nat.reduceSub, Int.reduceLE, Int.reduceLT, Int.reduceEq, Int.reduceToNat, Int.reducePow, Int.reduceNeg]
  refine hK _ ?_; clear hK
  refine bwp_block ?_
  refine bwp_seq fun K2 hK2 => ?_
  by_cases h60 : (c.toNat : Int) = 60
  · have hcv := u8eq (k := 60) h60
    refine bwp_seq fun K hK => bwp_region rfl ?_
    simp -implicitDefEqProofs only [go_sem, ↓reduceIte, Nat.reduceEqDiff, Nat.reduceAdd, Nat.reduceLeDiff, Nat.reduceMul, Nat.reduceSub, Int.reduceLE, Int.reduceLT, Int.reduceEq, Int.reduceToNat, Int.reducePow, Int.reduceNeg, h60]
    refine hK _ ?_; clear hK
    refine bwp_cond true (by simp [ev, fget]) (fun _ => ?_) (fun h => nomatch h)
    refine bwp_skip ?_
    refine hK2 _ ?_; clear hK2
    refine bwp_cond true (by simp [ev, fget]) (fun _ => ?_) (fun h => nomatch h)
    refine bwp_seq fun K hK => bwp_region rfl ?_
    simp -implicitDefEqProofs only [go_sem, ↓reduceIte, Nat.reduceEqDiff, Nat.reduceAdd, Nat.reduceLeDiff, Nat.reduceMul, Nat.reduceSub, Int.reduceLE, Int.reduceLT, Int.reduceEq, Int.reduceToNat, Int.reducePow, Int.reduceNeg, hw1]
    refine peek_callK hs a rd1 0 0 (a + 1) rfl ?_
    obtain ⟨rd2, hr2, q1, q2, q3, q4⟩ : ∃ rd2, rdW s rd1 (a + 1) = rd2 ∧ rd1 ≤ rd2 ∧ rd2 ≤ s.length ∧ rd2 ≤ max rd (a + 2) ∧ (a + 1 < s.length → a + 2 ≤ rd2) := ⟨_, rfl, by unfold rdW; split <;> omega⟩
    rw [hr2]
    generalize hd2 : s.getD (a + 1) 0 = d
    simp -implicitDefEqProofs only [go_sem, ↓reduceIte, Nat.reduceEqDiff, Nat.reduceAdd, Nat.reduceLeDiff, Nat.reduceMul, Nat.reduceSub, Int.reduceLE, Int.reduceLT, Int.reduceEq, Int.reduceToNat, Int.reducePow, Int.reduceNeg, lexC, mset]
    refine hK _ ?_; clear hK
    by_cases hdd : (d.toNat : Int) = 60
    · have hdv := u8eq (k := 60) hdd
      have hin : a + 1 < s.length := by
        rcases Nat.lt_or_ge (a + 1) s.length with h | h
        · exact h
        · rw [List.getD_eq_getElem?_getD, List.getElem?_eq_none (by omega)] at hd2
          rw [← hd2] at hdv
          cases hdv
      have hdr := drop_at hin
      rw [hd2, hdv] at hdr
      have hsg : signL (s.drop a) = 2 := by rw [hd, hdr, hcv]; rfl
      have hw2 : IntKind.i64.wrap ((a : Int) + 2) = ((a + 2 : Nat) : Int) := by rw [wrap_i64 (by omega) (by omega)]; rfl
      have b0 : (0 : Int) ≤ (a : Int) := Int.natCast_nonneg _
      have b1 : (0 : Int) ≤ ((a + 2 : Nat) : Int) := Int.natCast_nonneg _
      have b2 : a ≤ a + 2 := by omega
      have b3 : a + 2 ≤ s.length := by omega
      have hsl : (s.take (a + 2)).drop a = (s.drop a).take 2 := by rw [List.drop_take]; congr 1; omega
      refine bwp_seq fun K hK => bwp_region rfl ?_
      simp -implicitDefEqProofs only [go_sem, ↓reduceIte, Nat.reduceEqDiff, Nat.reduceAdd, Nat.reduceLeDiff, Nat.reduceMul, Nat.reduceSub, Int.reduceLE, Int.reduceLT, Int.reduceEq, Int.reduceToNat, Int.reducePow, Int.reduceNeg, h60, hdd]
      refine hK _ ?_; clear hK
      refine bwp_seq fun K3 hK3 => ?_
      refine bwp_block ?_
      refine bwp_seq fun K hK => bwp_region rfl ?_
      simp -implicitDefEqProofs only [go_sem, ↓reduceIte, Nat.reduceEqDiff, Nat.reduceAdd, Nat.reduceLeDiff, Nat.reduceMul, Nat.reduceSub, Int.reduceLE, Int.reduceLT, Int.reduceEq, Int.reduceToNat, Int.reducePow, Int.reduceNeg]
      refine hK _ ?_; clear hK
      refine bwp_cond true (by simp [ev, fget]) (fun _ => ?_) (fun h => nomatch h)
      refine bwp_seq fun K hK => bwp_region_draw rfl rfl ?_
      simp -implicitDefEqProofs only [go_sem, ↓reduceIte, Nat.reduceEqDiff, Nat.reduceAdd, Nat.reduceLeDiff, Nat.reduceMul, Nat.reduceSub, Int.reduceLE, Int.reduceLT, Int.reduceEq, Int.reduceToNat, Int.reducePow, Int.reduceNeg, hw2, b0, b1, b2, b3, Int.toNat_natCast, hsl]
      refine ⟨rfl, hK _ ?_⟩; clear hK
      refine bwp_ret ?_
      simp only [go_sem]
      refine aend_mem (.d (.str ((s.drop a).take (signL (s.drop a))))) [(0, 0)] [(0, lexC s a rd2 0 0)] ?_ rfl rfl ?_ ⟨rfl, rd2, ⟨by omega, by omega, by omega, fun _ => by rw [hsg]; omega⟩, rfl⟩
      · simp [resA, resVs, resV, fget, hsg]
      · simp [entM, pinv, mget, mset, renL, AV.ren, lexC]
    · have hdn := u8ne (k := 60) hdd
      have hsg : signL (s.drop a) = 1 := by
        rw [hd, hcv, signL, if_neg, if_pos (by decide)]
        have hh : ¬ s[a + 1]? = some 60 := by
          intro h
          apply hdn
          rw [← hd2, List.getD_eq_getElem?_getD, h]
          rfl
        simp [hh]
      refine bwp_seq fun K hK => bwp_region rfl ?_
      simp -implicitDefEqProofs only [go_sem, ↓reduceIte, Nat.reduceEqDiff, Nat.reduceAdd, Nat.reduceLeDiff, Nat.reduceMul, Nat.reduceSub, Int.reduceLE, Int.reduceLT, Int.reduceEq, Int.reduceToNat, Int.reducePow, Int.reduceNeg, h60, hdd]
      refine hK _ ?_; clear hK
      refine bwp_seq fun K3 hK3 => ?_
      refine bwp_block ?_
      refine bwp_seq fun K hK => bwp_region rfl ?_
      simp -implicitDefEqProofs only [go_sem, ↓reduceIte, Nat.reduceEqDiff, Nat.reduceAdd, Nat.reduceLeDiff, Nat.reduceMul, Nat.reduceSub, Int.reduceLE, Int.reduceLT, Int.reduceEq, Int.reduceToNat, Int.reducePow, Int.reduceNeg]
      refine hK _ ?_; clear hK
      refine bwp_cond false (by simp [ev, fget]) (fun h => nomatch h) (fun _ => ?_)
      refine bwp_seq fun K hK => bwp_region rfl ?_
      simp -implicitDefEqProofs only [go_sem, ↓reduceIte, Nat.reduceEqDiff, Nat.reduceAdd, Nat.reduceLeDiff, Nat.reduceMul, Nat.reduceSub, Int.reduceLE, Int.reduceLT, Int.reduceEq, Int.reduceToNat, Int.reducePow, Int.reduceNeg, h60]
      refine hK _ ?_; clear hK
      refine bwp_cond false (by simp [ev, fget]) (fun h => nomatch h) (fun _ => ?_)
      refine bwp_skip ?_
      refine hK3 _ ?_; clear hK3
      refine bwp_seq fun K hK => bwp_region rfl ?_
      simp -implicitDefEqProofs only [go_sem, ↓reduceIte, Nat.reduceEqDiff, Nat.reduceAdd, Nat.reduceLeDiff, Nat.reduceMul, Nat.reduceSub, Int.reduceLE, Int.reduceLT, Int.reduceEq, Int.reduceToNat, Int.reducePow, Int.reduceNeg, h60]
      refine hK _ ?_; clear hK
      refine bwp_ret ?_
      simp only [go_sem]
      refine aend_mem (.d (.str ((s.drop a).take (signL (s.drop a))))) [(0, 0)] [(0, lexC s a rd2 0 0)] ?_ rfl rfl ?_ ⟨rfl, rd2, ⟨by omega, by omega, by omega, fun _ => by rw [hsg]; omega⟩, rfl⟩
      · rw [hsg, hd, hcv]
        simp [resA, resVs, resV, fget]
        rfl
      · simp [entM, pinv, mget, mset, renL, AV.ren, lexC]
  by_cases h62 : (c.toNat : Int) = 62
  · have hcv := u8eq (k := 62) h62
    refine bwp_seq fun K hK => bwp_region rfl ?_
    simp -implicitDefEqProofs only [go_sem, ↓reduceIte, Nat.reduceEqDiff, Nat.reduceAdd, Nat.reduceLeDiff, Nat.reduceMul, Nat.reduceSub, Int.reduceLE, Int.reduceLT, Int.reduceEq, Int.reduceToNat, Int.reducePow, Int.reduceNeg, h60]
    refine hK _ ?_; clear hK
    refine bwp_cond false (by simp [ev, fget]) (fun h => nomatch h) (fun _ => ?_)
    refine bwp_seq fun K hK => bwp_region rfl ?_
    simp -implicitDefEqProofs only [go_sem, ↓reduceIte, Nat.reduceEqDiff, Nat.reduceAdd, Nat.reduceLeDiff, Nat.reduceMul, Nat.reduceSub, Int.reduceLE, Int.reduceLT, Int.reduceEq, Int.reduceToNat, Int.reducePow, Int.reduceNeg, h62]
    refine hK _ ?_; clear hK
    refine bwp_cond true (by simp [ev, fget]) (fun _ => ?_) (fun h => nomatch h)
    refine bwp_skip ?_
    refine hK2 _ ?_; clear hK2
    refine bwp_cond true (by simp [ev, fget]) (fun _ => ?_) (fun h => nomatch h)
    refine bwp_seq fun K hK => bwp_region rfl ?_
    simp -implicitDefEqProofs only [go_sem, ↓reduceIte, Nat.reduceEqDiff, Nat.reduceAdd, Nat.reduceLeDiff, Nat.reduceMul, Nat.reduceSub, Int.reduceLE, Int.reduceLT, Int.reduceEq, Int.reduceToNat, Int.reducePow, Int.reduceNeg, hw1]
    refine peek_callK hs a rd1 0 0 (a + 1) rfl ?_
    obtain ⟨rd2, hr2, q1, q2, q3, q4⟩ : ∃ rd2, rdW s rd1 (a + 1) = rd2 ∧ rd1 ≤ rd2 ∧ rd2 ≤ s.length ∧ rd2 ≤ max rd (a + 2) ∧ (a + 1 < s.length → a + 2 ≤ rd2) := ⟨_, rfl, by unfold rdW; split <;> omega⟩
    rw [hr2]
    generalize hd2 : s.getD (a + 1) 0 = d
    simp -implicitDefEqProofs only [go_sem, ↓reduceIte, Nat.reduceEqDiff, Nat.reduceAdd, Nat.reduceLeDiff, Nat.reduceMul, Nat.reduceSub, Int.reduceLE, Int.reduceLT, Int.reduceEq, Int.reduceToNat, Int.reducePow, Int.reduceNeg, lexC, mset]
    refine hK _ ?_; clear hK
    by_cases hdd : (d.toNat : Int) = 62
    · have hdv := u8eq (k := 62) hdd
      have hin : a + 1 < s.length := by
        rcases Nat.lt_or_ge (a + 1) s.length with h | h
        · exact h
        · rw [List.getD_eq_getElem?_getD, List.getElem?_eq_none (by omega)] at hd2
          rw [← hd2] at hdv
          cases hdv
      have hdr := drop_at hin
      rw [hd2, hdv] at hdr
      have hsg : signL (s.drop a) = 2 := by rw [hd, hdr, hcv]; rfl
      have hw2 : IntKind.i64.wrap ((a : Int) + 2) = ((a + 2 : Nat) : Int) := by rw [wrap_i64 (by omega) (by omega)]; rfl
      have b0 : (0 : Int) ≤ (a : Int) := Int.natCast_nonneg _
      have b1 : (0 : Int) ≤ ((a + 2 : Nat) : Int) := Int.natCast_nonneg _
      have b2 : a ≤ a + 2 := by omega
      have b3 : a + 2 ≤ s.length := by omega
      have hsl : (s.take (a + 2)).drop a = (s.drop a).take 2 := by rw [List.drop_take]; congr 1; omega
      refine bwp_seq fun K hK => bwp_region rfl ?_
      simp -implicitDefEqProofs only [go_sem, ↓reduceIte, Nat.reduceEqDiff, Nat.reduceAdd, Nat.reduceLeDiff, Nat.reduceMul, Nat.reduceSub, Int.reduceLE, Int.reduceLT, Int.reduceEq, Int.reduceToNat, Int.reducePow, Int.reduceNeg, h60, h62, hdd]
      refine hK _ ?_; clear hK
      refine bwp_seq fun K3 hK3 => ?_
      refine bwp_block ?_
      refine bwp_seq fun K hK => bwp_region rfl ?_
      simp -implicitDefEqProofs only [go_sem, ↓reduceIte, Nat.reduceEqDiff, Nat.reduceAdd, Nat.reduceLeDiff, Nat.reduceMul, Nat.reduceSub, Int.reduceLE, Int.reduceLT, Int.reduceEq, Int.reduceToNat, Int.reducePow, Int.reduceNeg]
      refine hK _ ?_; clear hK
      refine bwp_cond true (by simp [ev, fget]) (fun _ => ?_) (fun h => nomatch h)
      refine bwp_seq fun K hK => bwp_region_draw rfl rfl ?_
      simp -implicitDefEqProofs only [go_sem, ↓reduceIte, Nat.reduceEqDiff, Nat.reduceAdd, Nat.reduceLeDiff, Nat.reduceMul, Nat.reduceSub, Int.reduceLE, Int.reduceLT, Int.reduceEq, Int.reduceToNat, Int.reducePow, Int.reduceNeg, hw2, b0, b1, b2, b3, Int.toNat_natCast, hsl]
      refine ⟨rfl, hK _ ?_⟩; clear hK
      refine bwp_ret ?_
      simp only [go_sem]
      refine aend_mem (.d (.str ((s.drop a).take (signL (s.drop a))))) [(0, 0)] [(0, lexC s a rd2 0 0)] ?_ rfl rfl ?_ ⟨rfl, rd2, ⟨by omega, by omega, by omega, fun _ => by rw [hsg]; omega⟩, rfl⟩
      · simp [resA, resVs, resV, fget, hsg]
      · simp [entM, pinv, mget, mset, renL, AV.ren, lexC]
    · have hdn := u8ne (k := 62) hdd
      have hsg : signL (s.drop a) = 0 := by
        rw [hd, hcv, signL, if_neg, if_neg (by decide)]
        have hh : ¬ s[a + 1]? = some 62 := by
          intro h
          apply hdn
          rw [← hd2, List.getD_eq_getElem?_getD, h]
          rfl
        simp [hh]
      refine bwp_seq fun K hK => bwp_region rfl ?_
      simp -implicitDefEqProofs only [go_sem, ↓reduceIte, Nat.reduceEqDiff, Nat.reduceAdd, Nat.reduceLeDiff, Nat.reduceMul, Nat.reduceSub, Int.reduceLE, Int.reduceLT, Int.reduceEq, Int.reduceToNat, Int.reducePow, Int.reduceNeg, h60, h62, hdd]
      refine hK _ ?_; clear hK
      refine bwp_seq fun K3 hK3 => ?_
      refine bwp_block ?_
      refine bwp_seq fun K hK => bwp_region rfl ?_
      simp -implicitDefEqProofs only [go_sem, ↓reduceIte, Nat.reduceEqDiff, Nat.reduceAdd, Nat.reduceLeDiff, Nat.reduceMul, Nat.reduceSub, Int.reduceLE, Int.reduceLT, Int.reduceEq, Int.reduceToNat, Int.reducePow, Int.reduceNeg]
      refine hK _ ?_; clear hK
      refine bwp_cond false (by simp [ev, fget]) (fun h => nomatch h) (fun _ => ?_)
      refine bwp_seq fun K hK => bwp_region rfl ?_
      simp -implicitDefEqProofs only [go_sem, ↓reduceIte, Nat.reduceEqDiff, Nat.reduceAdd, Nat.reduceLeDiff, Nat.reduceMul, Nat.reduceSub, Int.reduceLE, Int.reduceLT, Int.reduceEq, Int.reduceToNat, Int.reducePow, Int.reduceNeg, h60, h62]
      refine hK _ ?_; clear hK
      refine bwp_cond true (by simp [ev, fget]) (fun _ => ?_) (fun h => nomatch h)
      refine bwp_seq fun K hK => bwp_region rfl ?_
      simp -implicitDefEqProofs only [go_sem, ↓reduceIte, Nat.reduceEqDiff, Nat.reduceAdd, Nat.reduceLeDiff, Nat.reduceMul, Nat.reduceSub, Int.reduceLE, Int.reduceLT, Int.reduceEq, Int.reduceToNat, Int.reducePow, Int.reduceNeg]
      refine hK _ ?_; clear hK
      refine bwp_ret ?_
      simp only [go_sem]
      refine aend_mem (.d (.str ((s.drop a).take (signL (s.drop a))))) [(0, 0)] [(0, lexC s a rd2 0 0)] ?_ rfl rfl ?_ ⟨rfl, rd2, ⟨by omega, by omega, by omega, fun h => absurd hsg h⟩, rfl⟩
      · rw [hsg]
        simp [resA, resVs, resV, fget]
      · simp [entM, pinv, mget, mset, renL, AV.ren, lexC]
  by_cases h61 : (c.toNat : Int) = 61
  · have hcv := u8eq (k := 61) h61
    refine bwp_seq fun K hK => bwp_region rfl ?_
    simp -implicitDefEqProofs only [go_sem, ↓reduceIte, Nat.reduceEqDiff, Nat.reduceAdd, Nat.reduceLeDiff, Nat.reduceMul, Nat.reduceSub, Int.reduceLE, Int.reduceLT, Int.reduceEq, Int.reduceToNat, Int.reducePow, Int.reduceNeg, h60]
    refine hK _ ?_; clear hK
    refine bwp_cond false (by simp [ev, fget]) (fun h => nomatch h) (fun _ => ?_)
    refine bwp_seq fun K hK => bwp_region rfl ?_
    simp -implicitDefEqProofs only [go_sem, ↓reduceIte, Nat.reduceEqDiff, Nat.reduceAdd, Nat.reduceLeDiff, Nat.reduceMul, Nat.reduceSub, Int.reduceLE, Int.reduceLT, Int.reduceEq, Int.reduceToNat, Int.reducePow, Int.reduceNeg, h62]
    refine hK _ ?_; clear hK
    refine bwp_cond false (by simp [ev, fget]) (fun h => nomatch h) (fun _ => ?_)
    refine bwp_seq fun K hK => bwp_region rfl ?_
    simp -implicitDefEqProofs only [go_sem, ↓reduceIte, Nat.reduceEqDiff, Nat.reduceAdd, Nat.reduceLeDiff, Nat.reduceMul, Nat.reduceSub, Int.reduceLE, Int.reduceLT, Int.reduceEq, Int.reduceToNat, Int.reducePow, Int.reduceNeg, h61]
    refine hK _ ?_; clear hK
    refine bwp_cond true (by simp [ev, fget]) (fun _ => ?_) (fun h => nomatch h)
    refine bwp_skip ?_
    refine hK2 _ ?_; clear hK2
    refine bwp_cond true (by simp [ev, fget]) (fun _ => ?_) (fun h => nomatch h)
    refine bwp_seq fun K hK => bwp_region rfl ?_
    simp -implicitDefEqProofs only [go_sem, ↓reduceIte, Nat.reduceEqDiff, Nat.reduceAdd, Nat.reduceLeDiff, Nat.reduceMul, Nat.reduceSub, Int.reduceLE, Int.reduceLT, Int.reduceEq, Int.reduceToNat, Int.reducePow, Int.reduceNeg, hw1]
    refine peek_callK hs a rd1 0 0 (a + 1) rfl ?_
    obtain ⟨rd2, hr2, q1, q2, q3, q4⟩ : ∃ rd2, rdW s rd1 (a + 1) = rd2 ∧ rd1 ≤ rd2 ∧ rd2 ≤ s.length ∧ rd2 ≤ max rd (a + 2) ∧ (a + 1 < s.length → a + 2 ≤ rd2) := ⟨_, rfl, by unfold rdW; split <;> omega⟩
    rw [hr2]
    generalize hd2 : s.getD (a + 1) 0 = d
    simp -implicitDefEqProofs only [go_sem, ↓reduceIte, Nat.reduceEqDiff, Nat.reduceAdd, Nat.reduceLeDiff, Nat.reduceMul, Nat.reduceSub, Int.reduceLE, Int.reduceLT, Int.reduceEq, Int.reduceToNat, Int.reducePow, Int.reduceNeg, lexC, mset]
    refine hK _ ?_; clear hK
    by_cases hdd : (d.toNat : Int) = 61
    · have hdv := u8eq (k := 61) hdd
      have hin : a + 1 < s.length := by
        rcases Nat.lt_or_ge (a + 1) s.length with h | h
        · exact h
        · rw [List.getD_eq_getElem?_getD, List.getElem?_eq_none (by omega)] at hd2
          rw [← hd2] at hdv
          cases hdv
      have hdr := drop_at hin
      rw [hd2, hdv] at hdr
      have hsg : signL (s.drop a) = 2 := by rw [hd, hdr, hcv]; rfl
      have hw2 : IntKind.i64.wrap ((a : Int) + 2) = ((a + 2 : Nat) : Int) := by rw [wrap_i64 (by omega) (by omega)]; rfl
      have b0 : (0 : Int) ≤ (a : Int) := Int.natCast_nonneg _
      have b1 : (0 : Int) ≤ ((a + 2 : Nat) : Int) := Int.natCast_nonneg _
      have b2 : a ≤ a + 2 := by omega
      have b3 : a + 2 ≤ s.length := by omega
      have hsl : (s.take (a + 2)).drop a = (s.drop a).take 2 := by rw [List.drop_take]; congr 1; omega
      refine bwp_seq fun K hK => bwp_region rfl ?_
      simp -implicitDefEqProofs only [go_sem, ↓reduceIte, Nat.reduceEqDiff, Nat.reduceAdd, Nat.reduceLeDiff, Nat.reduceMul, Nat.reduceSub, Int.reduceLE, Int.reduceLT, Int.reduceEq, Int.reduceToNat, Int.reducePow, Int.reduceNeg, h60, h62, h61, hdd]
      refine hK _ ?_; clear hK
      refine bwp_seq fun K3 hK3 => ?_
      refine bwp_block ?_
      refine bwp_seq fun K hK => bwp_region rfl ?_
      simp -implicitDefEqProofs only [go_sem, ↓reduceIte, Nat.reduceEqDiff, Nat.reduceAdd, Nat.reduceLeDiff, Nat.reduceMul, Nat.reduceSub, Int.reduceLE, Int.reduceLT, Int.reduceEq, Int.reduceToNat, Int.reducePow, Int.reduceNeg]
      refine hK _ ?_; clear hK
      refine bwp_cond true (by simp [ev, fget]) (fun _ => ?_) (fun h => nomatch h)
      refine bwp_seq fun K hK => bwp_region_draw rfl rfl ?_
      simp -implicitDefEqProofs only [go_sem, ↓reduceIte, Nat.reduceEqDiff, Nat.reduceAdd, Nat.reduceLeDiff, Nat.reduceMul, Nat.reduceSub, Int.reduceLE, Int.reduceLT, Int.reduceEq, Int.reduceToNat, Int.reducePow, Int.reduceNeg, hw2, b0, b1, b2, b3, Int.toNat_natCast, hsl]
      refine ⟨rfl, hK _ ?_⟩; clear hK
      refine bwp_ret ?_
      simp only [go_sem]
      refine aend_mem (.d (.str ((s.drop a).take (signL (s.drop a))))) [(0, 0)] [(0, lexC s a rd2 0 0)] ?_ rfl rfl ?_ ⟨rfl, rd2, ⟨by omega, by omega, by omega, fun _ => by rw [hsg]; omega⟩, rfl⟩
      · simp [resA, resVs, resV, fget, hsg]
      · simp [entM, pinv, mget, mset, renL, AV.ren, lexC]
    · have hdn := u8ne (k := 61) hdd
      have hsg : signL (s.drop a) = 1 := by
        rw [hd, hcv, signL, if_neg, if_pos (by decide)]
        have hh : ¬ s[a + 1]? = some 61 := by
          intro h
          apply hdn
          rw [← hd2, List.getD_eq_getElem?_getD, h]
          rfl
        simp [hh]
      refine bwp_seq fun K hK => bwp_region rfl ?_
      simp -implicitDefEqProofs only [go_sem, ↓reduceIte, Nat.reduceEqDiff, Nat.reduceAdd, Nat.reduceLeDiff, Nat.reduceMul, Nat.reduceSub, Int.reduceLE, Int.reduceLT, Int.reduceEq, Int.reduceToNat, Int.reducePow, Int.reduceNeg, h60, h62, h61, hdd]
      refine hK _ ?_; clear hK
      refine bwp_seq fun K3 hK3 => ?_
      refine bwp_block ?_
      refine bwp_seq fun K hK => bwp_region rfl ?_
      simp -implicitDefEqProofs only [go_sem, ↓reduceIte, Nat.reduceEqDiff, Nat.reduceAdd, Nat.reduceLeDiff, Nat.reduceMul, Nat.reduceSub, Int.reduceLE, Int.reduceLT, Int.reduceEq, Int.reduceToNat, Int.reducePow, Int.reduceNeg]
      refine hK _ ?_; clear hK
      refine bwp_cond false (by simp [ev, fget]) (fun h => nomatch h) (fun _ => ?_)
      refine bwp_seq fun K hK => bwp_region rfl ?_
      simp -implicitDefEqProofs only [go_sem, ↓reduceIte, Nat.reduceEqDiff, Nat.reduceAdd, Nat.reduceLeDiff, Nat.reduceMul, Nat.reduceSub, Int.reduceLE, Int.reduceLT, Int.reduceEq, Int.reduceToNat, Int.reducePow, Int.reduceNeg, h60, h62, h61]
      refine hK _ ?_; clear hK
      refine bwp_cond false (by simp [ev, fget]) (fun h => nomatch h) (fun _ => ?_)
      refine bwp_skip ?_
      refine hK3 _ ?_; clear hK3
      refine bwp_seq fun K hK => bwp_region rfl ?_
      simp -implicitDefEqProofs only [go_sem, ↓reduceIte, Nat.reduceEqDiff, Nat.reduceAdd, Nat.reduceLeDiff, Nat.reduceMul, Nat.reduceSub, Int.reduceLE, Int.reduceLT, Int.reduceEq, Int.reduceToNat, Int.reducePow, Int.reduceNeg, h60, h62, h61]
      refine hK _ ?_; clear hK
      refine bwp_ret ?_
      simp only [go_sem]
      refine aend_mem (.d (.str ((s.drop a).take (signL (s.drop a))))) [(0, 0)] [(0, lexC s a rd2 0 0)] ?_ rfl rfl ?_ ⟨rfl, rd2, ⟨by omega, by omega, by omega, fun _ => by rw [hsg]; omega⟩, rfl⟩
      · rw [hsg, hd, hcv]
        simp [resA, resVs, resV, fget]
        rfl
      · simp [entM, pinv, mget, mset, renL, AV.ren, lexC]
  by_cases h33 : (c.toNat : Int) = 33
  · have hcv := u8eq (k := 33) h33
    refine bwp_seq fun K hK => bwp_region rfl ?_
    simp -implicitDefEqProofs only [go_sem, ↓reduceIte, Nat.reduceEqDiff, Nat.reduceAdd, Nat.reduceLeDiff, Nat.reduceMul, Nat.reduceSub, Int.reduceLE, Int.reduceLT, Int.reduceEq, Int.reduceToNat, Int.reducePow, Int.reduceNeg, h60]
    refine hK _ ?_; clear hK
    refine bwp_cond false (by simp [ev, fget]) (fun h => nomatch h) (fun _ => ?_)
    refine bwp_seq fun K hK => bwp_region rfl ?_
    simp -implicitDefEqProofs only [go_sem, ↓reduceIte, Nat.reduceEqDiff, Nat.reduceAdd, Nat.reduceLeDiff, Nat.reduceMul, Nat.reduceSub, Int.reduceLE, Int.reduceLT, Int.reduceEq, Int.reduceToNat, Int.reducePow, Int.reduceNeg, h62]
    refine hK _ ?_; clear hK
    refine bwp_cond false (by simp [ev, fget]) (fun h => nomatch h) (fun _ => ?_)
    refine bwp_seq fun K hK => bwp_region rfl ?_
    simp -implicitDefEqProofs only [go_sem, ↓reduceIte, Nat.reduceEqDiff, Nat.reduceAdd, Nat.reduceLeDiff, Nat.reduceMul, Nat.reduceSub, Int.reduceLE, Int.reduceLT, Int.reduceEq, Int.reduceToNat, Int.reducePow, Int.reduceNeg, h61]
    refine hK _ ?_; clear hK
    refine bwp_cond false (by simp [ev, fget]) (fun h => nomatch h) (fun _ => ?_)
    refine bwp_region rfl ?_
    simp -implicitDefEqProofs only [go_sem, ↓reduceIte, Nat.reduceEqDiff, Nat.reduceAdd, Nat.reduceLeDiff, Nat.reduceMul, Nat.reduceSub, Int.reduceLE, Int.reduceLT, Int.reduceEq, Int.reduceToNat, Int.reducePow, Int.reduceNeg, h33]
    refine hK2 _ ?_; clear hK2
    refine bwp_cond true (by simp [ev, fget]) (fun _ => ?_) (fun h => nomatch h)
    refine bwp_seq fun K hK => bwp_region rfl ?_
    simp -implicitDefEqProofs only [go_sem, ↓reduceIte, Nat.reduceEqDiff, Nat.reduceAdd, Nat.reduceLeDiff, Nat.reduceMul, Nat.reduceSub, Int.reduceLE, Int.reduceLT, Int.reduceEq, Int.reduceToNat, Int.reducePow, Int.reduceNeg, hw1]
    refine peek_callK hs a rd1 0 0 (a + 1) rfl ?_
    obtain ⟨rd2, hr2, q1, q2, q3, q4⟩ : ∃ rd2, rdW s rd1 (a + 1) = rd2 ∧ rd1 ≤ rd2 ∧ rd2 ≤ s.length ∧ rd2 ≤ max rd (a + 2) ∧ (a + 1 < s.length → a + 2 ≤ rd2) := ⟨_, rfl, by unfold rdW; split <;> omega⟩
    rw [hr2]
    generalize hd2 : s.getD (a + 1) 0 = d
    simp -implicitDefEqProofs only [go_sem, ↓reduceIte, Nat.reduceEqDiff, Nat.reduceAdd, Nat.reduceLeDiff, Nat.reduceMul, Nat.reduceSub, Int.reduceLE, Int.reduceLT, Int.reduceEq, Int.reduceToNat, Int.reducePow, Int.reduceNeg, lexC, mset]
    refine hK _ ?_; clear hK
    by_cases hdd : (d.toNat : Int) = 61
    · have hdv := u8eq (k := 61) hdd
      have hin : a + 1 < s.length := by
        rcases Nat.lt_or_ge (a + 1) s.length with h | h
        · exact h
        · rw [List.getD_eq_getElem?_getD, List.getElem?_eq_none (by omega)] at hd2
          rw [← hd2] at hdv
          cases hdv
      have hdr := drop_at hin
      rw [hd2, hdv] at hdr
      have hsg : signL (s.drop a) = 2 := by rw [hd, hdr, hcv]; rfl
      have hw2 : IntKind.i64.wrap ((a : Int) + 2) = ((a + 2 : Nat) : Int) := by rw [wrap_i64 (by omega) (by omega)]; rfl
      have b0 : (0 : Int) ≤ (a : Int) := Int.natCast_nonneg _
      have b1 : (0 : Int) ≤ ((a + 2 : Nat) : Int) := Int.natCast_nonneg _
      have b2 : a ≤ a + 2 := by omega
      have b3 : a + 2 ≤ s.length := by omega
      have hsl : (s.take (a + 2)).drop a = (s.drop a).take 2 := by rw [List.drop_take]; congr 1; omega
      refine bwp_seq fun K hK => bwp_region rfl ?_
      simp -implicitDefEqProofs only [go_sem, ↓reduceIte, Nat.reduceEqDiff, Nat.reduceAdd, Nat.reduceLeDiff, Nat.reduceMul, Nat.reduceSub, Int.reduceLE, Int.reduceLT, Int.reduceEq, Int.reduceToNat, Int.reducePow, Int.reduceNeg, h60, h62, h61, h33, hdd]
      refine hK _ ?_; clear hK
      refine bwp_seq fun K3 hK3 => ?_
      refine bwp_block ?_
      refine bwp_seq fun K hK => bwp_region rfl ?_
      simp -implicitDefEqProofs only [go_sem, ↓reduceIte, Nat.reduceEqDiff, Nat.reduceAdd, Nat.reduceLeDiff, Nat.reduceMul, Nat.reduceSub, Int.reduceLE, Int.reduceLT, Int.reduceEq, Int.reduceToNat, Int.reducePow, Int.reduceNeg]
      refine hK _ ?_; clear hK
      refine bwp_cond true (by simp [ev, fget]) (fun _ => ?_) (fun h => nomatch h)
      refine bwp_seq fun K hK => bwp_region_draw rfl rfl ?_
      simp -implicitDefEqProofs only [go_sem, ↓reduceIte, Nat.reduceEqDiff, Nat.reduceAdd, Nat.reduceLeDiff, Nat.reduceMul, Nat.reduceSub, Int.reduceLE, Int.reduceLT, Int.reduceEq, Int.reduceToNat, Int.reducePow, Int.reduceNeg, hw2, b0, b1, b2, b3, Int.toNat_natCast, hsl]
      refine ⟨rfl, hK _ ?_⟩; clear hK
      refine bwp_ret ?_
      simp only [go_sem]
      refine aend_mem (.d (.str ((s.drop a).take (signL (s.drop a))))) [(0, 0)] [(0, lexC s a rd2 0 0)] ?_ rfl rfl ?_ ⟨rfl, rd2, ⟨by omega, by omega, by omega, fun _ => by rw [hsg]; omega⟩, rfl⟩
      · simp [resA, resVs, resV, fget, hsg]
      · simp [entM, pinv, mget, mset, renL, AV.ren, lexC]
    · have hdn := u8ne (k := 61) hdd
      have hsg : signL (s.drop a) = 0 := by
        rw [hd, hcv, signL, if_neg, if_neg (by decide)]
        have hh : ¬ s[a + 1]? = some 61 := by
          intro h
          apply hdn
          rw [← hd2, List.getD_eq_getElem?_getD, h]
          rfl
        simp [hh]
      refine bwp_seq fun K hK => bwp_region rfl ?_
      simp -implicitDefEqProofs only [go_sem, ↓reduceIte, Nat.reduceEqDiff, Nat.reduceAdd, Nat.reduceLeDiff, Nat.reduceMul, Nat.reduceSub, Int.reduceLE, Int.reduceLT, Int.reduceEq, Int.reduceToNat, Int.reducePow, Int.reduceNeg, h60, h62, h61, h33, hdd]
      refine hK _ ?_; clear hK
      refine bwp_seq fun K3 hK3 => ?_
      refine bwp_block ?_
      refine bwp_seq fun K hK => bwp_region rfl ?_
      simp -implicitDefEqProofs only [go_sem, ↓reduceIte, Nat.reduceEqDiff, Nat.reduceAdd, Nat.reduceLeDiff, Nat.reduceMul, Nat.reduceSub, Int.reduceLE, Int.reduceLT, Int.reduceEq, Int.reduceToNat, Int.reducePow, Int.reduceNeg]
      refine hK _ ?_; clear hK
      refine bwp_cond false (by simp [ev, fget]) (fun h => nomatch h) (fun _ => ?_)
      refine bwp_seq fun K hK => bwp_region rfl ?_
      simp -implicitDefEqProofs only [go_sem, ↓reduceIte, Nat.reduceEqDiff, Nat.reduceAdd, Nat.reduceLeDiff, Nat.reduceMul, Nat.reduceSub, Int.reduceLE, Int.reduceLT, Int.reduceEq, Int.reduceToNat, Int.reducePow, Int.reduceNeg, h60, h62, h61, h33]
      refine hK _ ?_; clear hK
      refine bwp_cond true (by simp [ev, fget]) (fun _ => ?_) (fun h => nomatch h)
      refine bwp_seq fun K hK => bwp_region rfl ?_
      simp -implicitDefEqProofs only [go_sem, ↓reduceIte, Nat.reduceEqDiff, Nat.reduceAdd, Nat.reduceLeDiff, Nat.reduceMul, Nat.reduceSub, Int.reduceLE, Int.reduceLT, Int.reduceEq, Int.reduceToNat, Int.reducePow, Int.reduceNeg]
      refine hK _ ?_; clear hK
      refine bwp_ret ?_
      simp only [go_sem]
      refine aend_mem (.d (.str ((s.drop a).take (signL (s.drop a))))) [(0, 0)] [(0, lexC s a rd2 0 0)] ?_ rfl rfl ?_ ⟨rfl, rd2, ⟨by omega, by omega, by omega, fun h => absurd hsg h⟩, rfl⟩
      · rw [hsg]
        simp [resA, resVs, resV, fget]
      · simp [entM, pinv, mget, mset, renL, AV.ren, lexC]
  refine bwp_seq fun K hK => bwp_region rfl ?_
  simp -implicitDefEqProofs only [go_sem, ↓reduceIte, Nat.reduceEqDiff, Nat.reduceAdd, Nat.reduceLeDiff, Nat.reduceMul, Nat.reduceSub, Int.reduceLE, Int.reduceLT, Int.reduceEq, Int.reduceToNat, Int.reducePow, Int.reduceNeg, h60]
  refine hK _ ?_; clear hK
  refine bwp_cond false (by simp [ev, fget]) (fun h => nomatch h) (fun _ => ?_)
  refine bwp_seq fun K hK => bwp_region rfl ?_
  simp -implicitDefEqProofs only [go_sem, ↓reduceIte, Nat.reduceEqDiff, Nat.reduceAdd, Nat.reduceLeDiff, Nat.reduceMul, Nat.reduceSub, Int.reduceLE, Int.reduceLT, Int.reduceEq, Int.reduceToNat, Int.reducePow, Int.reduceNeg, h62]
  refine hK _ ?_; clear hK
  refine bwp_cond false (by simp [ev, fget]) (fun h => nomatch h) (fun _ => ?_)
  refine bwp_seq fun K hK => bwp_region rfl ?_
  simp -implicitDefEqProofs only [go_sem, ↓reduceIte, Nat.reduceEqDiff, Nat.reduceAdd, Nat.reduceLeDiff, Nat.reduceMul, Nat.reduceSub, Int.reduceLE, Int.reduceLT, Int.reduceEq, Int.reduceToNat, Int.reducePow, Int.reduceNeg, h61]
  refine hK _ ?_; clear hK
  refine bwp_cond false (by simp [ev, fget]) (fun h => nomatch h) (fun _ => ?_)
  refine bwp_region rfl ?_
  simp -implicitDefEqProofs only [go_sem, ↓reduceIte, Nat.reduceEqDiff, Nat.reduceAdd, Nat.reduceLeDiff, Nat.reduceMul, Nat.reduceSub, Int.reduceLE, Int.reduceLT, Int.reduceEq, Int.reduceToNat, Int.reducePow, Int.reduceNeg, h33]
  refine hK2 _ ?_; clear hK2
  refine bwp_cond false (by simp [ev, fget]) (fun h => nomatch h) (fun _ => ?_)
  refine bwp_skip ?_
  refine hK1 _ ?_; clear hK1
  have n60 := u8ne (k := 60) h60
  have n62 := u8ne (k := 62) h62
  have n61 := u8ne (k := 61) h61
  have n33 := u8ne (k := 33) h33
  have hsg : signL (s.drop a) = if c ∈ plain then 1 else 0 := by
    rw [hd, signL, if_neg (by simp [n60, n62, n61, n33])]
    simp [ones_iff, n60, n61]
  have ki := idx_pure plain c
  refine bwp_seq fun K1 hK1 => ?_
  by_cases hm : c ∈ plain
  · rw [if_pos hm] at hsg
    have h0 : ¬ (c.toNat : Int) = 0 := by
      intro h
      have := u8eq (k := 0) h
      rw [this] at hm
      revert hm; decide
    have hi := (idx_mem plain c).2 hm
    generalize Lib.indexByte plain c = ix at ki hi
    unfold plain at ki
    refine bwp_seq fun K hK => bwp_region rfl ?_
    simp -implicitDefEqProofs only [go_sem, ↓reduceIte, Nat.reduceEqDiff, Nat.reduceAdd, Nat.reduceLeDiff, Nat.reduceMul, Nat.reduceSub, Int.reduceLE, Int.reduceLT, Int.reduceEq, Int.reduceToNat, Int.reducePow, Int.reduceNeg, h0]
    repeat' (first
      | (refine gateK_split (fun hb => ?_) (fun hb => ?_) <;> simp -implicitDefEqProofs only [go_sem, ↓reduceIte, Nat.reduceEqDiff, Nat.reduceAdd, Nat.reduceLeDiff, Nat.reduceMul, Nat.reduceSub, Int.reduceLE, Int.reduceLT, Int.reduceEq, Int.reduceToNat, Int.reducePow, Int.reduceNeg, hb, h0, hi])
      | (refine dGateK_split (fun hb => ?_) (fun hb => ?_) <;> simp -implicitDefEqProofs only [go_sem, ↓reduceIte, Nat.reduceEqDiff, Nat.reduceAdd, Nat.reduceLeDiff, Nat.reduceMul, Nat.reduceSub, Int.reduceLE, Int.reduceLT, Int.reduceEq, Int.reduceToNat, Int.reducePow, Int.reduceNeg, hb, h0, hi])
      | (refine callK_pure (ki) rfl rfl ?_; simp -implicitDefEqProofs only [go_sem, ↓reduceIte, Nat.reduceEqDiff, Nat.reduceAdd, Nat.reduceLeDiff, Nat.reduceMul, Nat.reduceSub, Int.reduceLE, Int.reduceLT, Int.reduceEq, Int.reduceToNat, Int.reducePow, Int.reduceNeg, h0, hi])
      | (refine dCallK_pure (ki) rfl rfl ?_; simp -implicitDefEqProofs only [go_sem, ↓reduceIte, Nat.reduceEqDiff, Nat.reduceAdd, Nat.reduceLeDiff, Nat.reduceMul, Nat.reduceSub, Int.reduceLE, Int.reduceLT, Int.reduceEq, Int.reduceToNat, Int.reducePow, Int.reduceNeg, h0, hi])
      | (rw [if_pos (by (try simp only [List.length_append, List.length_cons, List.length_nil, List.length_map]); omega)]; simp -implicitDefEqProofs only [go_sem, ↓reduceIte, Nat.reduceEqDiff, Nat.reduceAdd, Nat.reduceLeDiff, Nat.reduceMul, Nat.reduceSub, Int.reduceLE, Int.reduceLT, Int.reduceEq, Int.reduceToNat, Int.reducePow, Int.reduceNeg, h0, hi]))
    refine hK _ ?_; clear hK
    refine bwp_cond true (by simp [ev, fget]) (fun _ => ?_) (fun h => nomatch h)
    have henc : ∀ k ∈ plain, (Utf8.encode (k.toNat : Int)).data.toList = [k] := by decide
    refine bwp_seq fun K hK => bwp_region rfl ?_
    simp -implicitDefEqProofs only [go_sem, ↓reduceIte, Nat.reduceEqDiff, Nat.reduceAdd, Nat.reduceLeDiff, Nat.reduceMul, Nat.reduceSub, Int.reduceLE, Int.reduceLT, Int.reduceEq, Int.reduceToNat, Int.reducePow, Int.reduceNeg]
    refine hK _ ?_; clear hK
    refine bwp_ret ?_
    simp only [go_sem]
    refine aend_mem (.d (.str ((s.drop a).take (signL (s.drop a))))) [(0, 0)] [(0, lexC s a rd1 0 0)] ?_ rfl rfl ?_ ⟨rfl, rd1, ⟨by omega, by omega, by omega, fun _ => by rw [hsg]; omega⟩, rfl⟩
    · rw [hsg, hd]
      simp [resA, resVs, resV, fget, henc c hm]
    · simp [entM, pinv, mget, mset, renL, AV.ren, lexC]
  · rw [if_neg hm] at hsg
    have hi : ¬ 0 ≤ Lib.indexByte plain c := fun h => hm ((idx_mem plain c).1 h)
    by_cases h0 : (c.toNat : Int) = 0
    · refine bwp_seq fun K hK => bwp_region rfl ?_
      simp -implicitDefEqProofs only [go_sem, ↓reduceIte, Nat.reduceEqDiff, Nat.reduceAdd, Nat.reduceLeDiff, Nat.reduceMul, Nat.reduceSub, Int.reduceLE, Int.reduceLT, Int.reduceEq, Int.reduceToNat, Int.reducePow, Int.reduceNeg, h0]
      refine hK _ ?_; clear hK
      refine bwp_cond false (by simp [ev, fget]) (fun h => nomatch h) (fun _ => ?_)
      refine bwp_skip ?_
      refine hK1 _ ?_; clear hK1
      refine bwp_seq fun K hK => bwp_region rfl ?_
      simp -implicitDefEqProofs only [go_sem, ↓reduceIte, Nat.reduceEqDiff, Nat.reduceAdd, Nat.reduceLeDiff, Nat.reduceMul, Nat.reduceSub, Int.reduceLE, Int.reduceLT, Int.reduceEq, Int.reduceToNat, Int.reducePow, Int.reduceNeg]
      refine hK _ ?_; clear hK
      refine bwp_ret ?_
      simp only [go_sem]
      refine aend_mem (.d (.str ((s.drop a).take (signL (s.drop a))))) [(0, 0)] [(0, lexC s a rd1 0 0)] ?_ rfl rfl ?_ ⟨rfl, rd1, ⟨by omega, by omega, by omega, fun h => absurd hsg h⟩, rfl⟩
      · rw [hsg]
        simp [resA, resVs, resV, fget]
      · simp [entM, pinv, mget, mset, renL, AV.ren, lexC]
    · generalize Lib.indexByte plain c = ix at ki hi
      unfold plain at ki
      refine bwp_seq fun K hK => bwp_region rfl ?_
      simp -implicitDefEqProofs only [go_sem, ↓reduceIte, Nat.reduceEqDiff, Nat.reduceAdd, Nat.reduceLeDiff, Nat.reduceMul, Nat.reduceSub, Int.reduceLE, Int.reduceLT, Int.reduceEq, Int.reduceToNat, Int.reducePow, Int.reduceNeg, h0]
      repeat' (first
        | (refine gateK_split (fun hb => ?_) (fun hb => ?_) <;> simp -implicitDefEqProofs only [go_sem, ↓reduceIte, Nat.reduceEqDiff, Nat.reduceAdd, Nat.reduceLeDiff, Nat.reduceMul, Nat.reduceSub, Int.reduceLE, Int.reduceLT, Int.reduceEq, Int.reduceToNat, Int.reducePow, Int.reduceNeg, hb, h0, hi])
        | (refine dGateK_split (fun hb => ?_) (fun hb => ?_) <;> simp -implicitDefEqProofs only [go_sem, ↓reduceIte, Nat.reduceEqDiff, Nat.reduceAdd, Nat.reduceLeDiff, Nat.reduceMul, Nat.reduceSub, Int.reduceLE, Int.reduceLT, Int.reduceEq, Int.reduceToNat, Int.reducePow, Int.reduceNeg, hb, h0, hi])
        | (refine callK_pure (ki) rfl rfl ?_; simp -implicitDefEqProofs only [go_sem, ↓reduceIte, Nat.reduceEqDiff, Nat.reduceAdd, Nat.reduceLeDiff, Nat.reduceMul, Nat.reduceSub, Int.reduceLE, Int.reduceLT, Int.reduceEq, Int.reduceToNat, Int.reducePow, Int.reduceNeg, h0, hi])
        | (refine dCallK_pure (ki) rfl rfl ?_; simp -implicitDefEqProofs only [go_sem, ↓reduceIte, Nat.reduceEqDiff, Nat.reduceAdd, Nat.reduceLeDiff, Nat.reduceMul, Nat.reduceSub, Int.reduceLE, Int.reduceLT, Int.reduceEq, Int.reduceToNat, Int.reducePow, Int.reduceNeg, h0, hi])
        | (rw [if_pos (by (try simp only [List.length_append, List.length_cons, List.length_nil, List.length_map]); omega)]; simp -implicitDefEqProofs only [go_sem, ↓reduceIte, Nat.reduceEqDiff, Nat.reduceAdd, Nat.reduceLeDiff, Nat.reduceMul, Nat.reduceSub, Int.reduceLE, Int.reduceLT, Int.reduceEq, Int.reduceToNat, Int.reducePow, Int.reduceNeg, h0, hi]))
      refine hK _ ?_; clear hK
      refine bwp_cond false (by simp [ev, fget]) (fun h => nomatch h) (fun _ => ?_)
      refine bwp_skip ?_
      refine hK1 _ ?_; clear hK1
      refine bwp_seq fun K hK => bwp_region rfl ?_
      simp -implicitDefEqProofs only [go_sem, ↓reduceIte, Nat.reduceEqDiff, Nat.reduceAdd, Nat.reduceLeDiff, Nat.reduceMul, Nat.reduceSub, Int.reduceLE, Int.reduceLT, Int.reduceEq, Int.reduceToNat, Int.reducePow, Int.reduceNeg]
      refine hK _ ?_; clear hK
      refine bwp_ret ?_
      simp only [go_sem]
      refine aend_mem (.d (.str ((s.drop a).take (signL (s.drop a))))) [(0, 0)] [(0, lexC s a rd1 0 0)] ?_ rfl rfl ?_ ⟨rfl, rd1, ⟨by omega, by omega, by omega, fun h => absurd hsg h⟩, rfl⟩
      · rw [hsg]
        simp [resA, resVs, resV, fget]
      · simp [entM, pinv, mget, mset, renL, AV.ren, lexC]

end Go.Proofs.YtpfbljkfbjjlkaaDoor

/- The document's Parse of a number, gone through. -/
namespace Go.Proofs.YtpfbljkfbjjlkaaDoor
open Go Go.Jq
set_option maxRecDepth 100000
set_option linter.unusedSimpArgs false

def rpS (neg : Bool) (d : List UInt8) (i : Nat) : St := ⟨[(7, .d (.int .i64 i)), (6, .d (.int .u64 (valD (d.take i)))), (5, .d (.str d)), (4, .d (.bool neg))], [], 0⟩

theorem all_digB {d : List UInt8} (h : ∀ i, i < d.length → digB (d.getD i 0) = true) : d.all digB = true := by
  rw [List.all_eq_true]
  intro c hc
  obtain ⟨i, hi, rfl⟩ := List.getElem_of_mem hc
  have := h i hi
  rwa [List.getD_eq_getElem?_getD, List.getElem?_eq_getElem hi, Option.getD_some] at this

theorem not_all_digB {d : List UInt8} {i : Nat} (hi : i < d.length) (h : digB (d.getD i 0) = false) : d.all digB = false := by
  rw [List.all_eq_false]
  refine ⟨d.getD i 0, ?_, by rw [h]; decide⟩
  rw [List.getD_eq_getElem?_getD, List.getElem?_eq_getElem hi, Option.getD_some]
  exact List.getElem_mem hi

theorem take_all {d : List UInt8} {i : Nat} (h : ∀ j, j < i → digB (d.getD j 0) = true) (hi : i ≤ d.length) : (d.take i).all digB = true := by
  refine all_digB fun j hj => ?_
  rw [List.length_take] at hj
  have := h j (by omega)
  rw [List.getD_eq_getElem?_getD] at this ⊢
  rw [List.getElem?_take_of_lt (by omega)]
  exact this

set_option maxHeartbeats 4000000 in
theorem rp_loop {neg : Bool} {d : List UInt8} (hl : d.length ≤ 19) {Q : Exit → St → Prop}
    (hbad : d.all digB = false → ∀ t : Fr, fget t 2 = .d (.int .i64 0) → fget t 3 = .d (.bool false) → Q .ret ⟨t, [], 0⟩)
    (hend : d.all digB = true → Q (.exit 0) (rpS neg d d.length)) :
    BWP Tryd.prog (mbound []) 74 (.loop ac43L0) (rpS neg d 0) Q := by
  refine bwp_countI (fun i => rpS neg d i) (fun i => ∀ j, j < i → digB (d.getD j 0) = true) d.length (fun j h => by omega) ?_
  intro i hi hp
  have hv := valD_lt (d.take i) (take_all hp hi)
  rw [List.length_take, Nat.min_eq_left hi] at hv
  unfold ac43L0 rpS
  by_cases hlt : i < d.length
  · have hlt' : (i : Int) < d.length := by omega
    have hi0 : (0 : Int) ≤ (i : Int) := Int.natCast_nonneg _
    have htk : d.take (i + 1) = d.take i ++ [d.getD i 0] := by
      rw [List.take_add_one, List.getD_eq_getElem?_getD, List.getElem?_eq_getElem hlt]; rfl
    have hnx : valD (d.take (i + 1)) = 10 * valD (d.take i) + ((d.getD i 0).toNat - 48) := by rw [htk, valD_snoc]
    have hp18 : 10 ^ i ≤ 10 ^ 18 := Nat.pow_le_pow_right (by decide) (by omega)
    generalize hw : valD (d.take i) = v at *
    refine bwp_seq fun K1 hK1 => ?_
    refine bwp_seq fun K hK => bwp_region rfl ?_
    simp only [go_sem, ↓reduceIte, Nat.reduceEqDiff, Nat.reduceAdd, hlt']
    refine hK _ ?_; clear hK
    refine bwp_cond true (by simp [ev, fget]) (fun _ => ?_) (fun h => nomatch h)
    refine bwp_skip ?_
    refine hK1 _ ?_; clear hK1
    refine bwp_seq fun K1 hK1 => ?_
    refine bwp_block ?_
    refine bwp_seq fun K2 hK2 => ?_
    generalize hcd : d.getD i 0 = c at *
    have bad : digB c = false → ∀ t : Fr, fget t 2 = .d (.int .i64 0) → fget t 3 = .d (.bool false) → Q .ret ⟨t, [], 0⟩ := fun h => hbad (not_all_digB hlt (by rw [hcd]; exact h))
    by_cases h1 : (c.toNat : Int) < 48
    · refine bwp_seq fun K hK => bwp_region rfl ?_
      simp only [go_sem, ↓reduceIte, Nat.reduceEqDiff, Nat.reduceAdd, hi0, hlt', Int.toNat_natCast, hcd, h1]
      refine hK _ ?_; clear hK
      refine bwp_cond true (by simp [ev, fget]) (fun _ => ?_) (fun h => nomatch h)
      refine bwp_seq fun K hK => bwp_region rfl ?_
      simp only [go_sem, ↓reduceIte, Nat.reduceEqDiff, Nat.reduceAdd]
      refine hK _ ?_; clear hK
      refine bwp_ret ?_
      simp only [go_sem, ↓reduceIte, Nat.reduceEqDiff, Nat.reduceAdd]
      exact bad (by unfold digB; have : ¬ 48 ≤ c.toNat := by omega
                    simp [this]) _ rfl rfl
    by_cases h2 : (57 : Int) < c.toNat
    · refine bwp_seq fun K hK => bwp_region rfl ?_
      simp only [go_sem, ↓reduceIte, Nat.reduceEqDiff, Nat.reduceAdd, hi0, hlt', Int.toNat_natCast, hcd, h1, h2]
      refine hK _ ?_; clear hK
      refine bwp_cond true (by simp [ev, fget]) (fun _ => ?_) (fun h => nomatch h)
      refine bwp_seq fun K hK => bwp_region rfl ?_
      simp only [go_sem, ↓reduceIte, Nat.reduceEqDiff, Nat.reduceAdd]
      refine hK _ ?_; clear hK
      refine bwp_ret ?_
      simp only [go_sem, ↓reduceIte, Nat.reduceEqDiff, Nat.reduceAdd]
      exact bad (by unfold digB; have : ¬ c.toNat ≤ 57 := by omega
                    simp [this]) _ rfl rfl
    refine bwp_seq fun K hK => bwp_region rfl ?_
    simp only [go_sem, ↓reduceIte, Nat.reduceEqDiff, Nat.reduceAdd, hi0, hlt', Int.toNat_natCast, hcd, h1, h2]
    refine hK _ ?_; clear hK
    refine bwp_cond false (by simp [ev, fget]) (fun h => nomatch h) (fun _ => ?_)
    refine bwp_skip ?_
    refine hK2 _ ?_; clear hK2
    have e1 : IntKind.u64.wrap (10 * (v : Int)) = ((10 * v : Nat) : Int) := by rw [u64_mod]; omega
    have e2 : IntKind.u8.wrap ((c.toNat : Int) - 48) = ((c.toNat - 48 : Nat) : Int) := by
      have e : (2 : Int) ^ 8 = 256 := rfl
      simp only [IntKind.wrap, IntKind.signed, IntKind.bits, Bool.false_and, Bool.false_eq_true, if_false, e]
      omega
    have e3 : IntKind.u64.wrap ((c.toNat - 48 : Nat) : Int) = ((c.toNat - 48 : Nat) : Int) := by rw [u64_mod]; omega
    have e4 : IntKind.u64.wrap (((10 * v : Nat) : Int) + ((c.toNat - 48 : Nat) : Int)) = ((10 * v + (c.toNat - 48) : Nat) : Int) := by
      have : 10 ^ 18 = 1000000000000000000 := rfl
      rw [u64_mod]; omega
    refine bwp_region rfl ?_
    simp only [go_sem, ↓reduceIte, Nat.reduceEqDiff, Nat.reduceAdd, hi0, hlt', Int.toNat_natCast, hcd, e1, e2, e3, e4]
    refine hK1 _ ?_; clear hK1
    have hwi : IntKind.i64.wrap ((i : Int) + 1) = ((i + 1 : Nat) : Int) := by rw [wrap_id (by unfold I64; omega)]; rfl
    refine bwp_region rfl ?_
    simp only [go_sem, ↓reduceIte, Nat.reduceEqDiff, Nat.reduceAdd, hwi]
    refine ⟨hlt, fun j hj => ?_, Leads.ent [] ⟨by simp [entT, fget, AV.ren, pget, hnx], by simp [entM], rfl, rfl⟩⟩
    by_cases hji : j = i
    · subst hji
      rw [hcd]
      unfold digB
      simp
      omega
    · exact hp j (by omega)
  · have hlt' : ¬ (i : Int) < d.length := by omega
    have hin : i = d.length := by omega
    subst hin
    refine bwp_seq fun K1 hK1 => ?_
    refine bwp_seq fun K hK => bwp_region rfl ?_
    simp only [go_sem, ↓reduceIte, Nat.reduceEqDiff, Nat.reduceAdd, hlt']
    refine hK _ ?_; clear hK
    refine bwp_cond false (by simp [ev, fget]) (fun h => nomatch h) (fun _ => ?_)
    refine bwp_leads (S' := rpS neg d d.length) (Leads.ent [] ⟨by simp [entT, fget, AV.ren, renL, pget, rpS], by simp [entM, pinv, mget, mset, renL, AV.ren, pget, renL_append, -List.map_map, rpS], rfl, rfl⟩) ?_
    exact bwp_exit (hend (all_digB hp))

def rpI (neg : Bool) (d : List UInt8) : St := ⟨[(5, .d (.str d)), (4, .d (.bool neg))], [], 0⟩

set_option maxHeartbeats 8000000 in
theorem rp_tail (neg : Bool) (d : List UInt8) (hmax : d.length ≤ maxLen) :
    BWP Tryd.prog (mbound []) 74 (dropSeq 4 ac43) (rpI neg d) (AEnd Tryd.prog #[.tmp 2, .tmp 3] (mbound []) fun r m' => r = .tup [.d (.int .i64 (refD neg d).1), .d (.bool (refD neg d).2)] ∧ m' = []) := by
  unfold ac43 rpI
  simp only [dropSeq]
  refine bwp_seq fun K1 hK1 => ?_
  have no : refD neg d = (0, false) → ∀ t : Fr, BWP Tryd.prog (mbound []) 74 (.seq (.region false [⟨some 2, .mv (.c (.d (.int .i64 0))), none⟩, ⟨some 3, .mv (.c (.d (.bool false))), none⟩] []) .ret) ⟨t, [], 0⟩ (Exit.thenA K1 (AEnd Tryd.prog #[.tmp 2, .tmp 3] (mbound []) fun r m' => r = .tup [.d (.int .i64 (refD neg d).1), .d (.bool (refD neg d).2)] ∧ m' = [])) := by
    intro h t
    refine bwp_seq fun K hK => bwp_region rfl ?_
    simp only [go_sem, ↓reduceIte, Nat.reduceEqDiff, Nat.reduceAdd]
    refine hK _ ?_; clear hK
    refine bwp_ret ?_
    simp only [go_sem, ↓reduceIte, Nat.reduceEqDiff, Nat.reduceAdd]
    refine aend_ret _ rfl rfl ⟨?_, rfl⟩
    simp [fget, h]
  by_cases h1 : d = []
  · refine bwp_seq fun K hK => bwp_region rfl ?_
    simp only [go_sem, ↓reduceIte, Nat.reduceEqDiff, Nat.reduceAdd, h1]
    refine hK _ ?_; clear hK
    refine bwp_cond true (by simp [ev, fget]) (fun _ => ?_) (fun h => nomatch h)
    exact no (by unfold refD; rw [if_pos (.inl h1)]) _
  by_cases h2 : (19 : Int) < d.length
  · refine bwp_seq fun K hK => bwp_region rfl ?_
    simp only [go_sem, ↓reduceIte, Nat.reduceEqDiff, Nat.reduceAdd, h1, h2]
    refine hK _ ?_; clear hK
    refine bwp_cond true (by simp [ev, fget]) (fun _ => ?_) (fun h => nomatch h)
    exact no (by unfold refD; rw [if_pos (.inr (.inl (by omega)))]) _
  have hlen : 0 < d.length := by
    cases d with
    | nil => exact absurd rfl h1
    | cons c r => simp
  have hlen' : (0 : Int) < d.length := by omega
  have yes : ¬ (d.getD 0 0 = 48 ∧ (1 < d.length ∨ neg = true)) → ∀ t : Fr, fget t 5 = .d (.str d) → fget t 4 = .d (.bool neg) → K1 ⟨t, [], 0⟩ := by
    intro h3 t t5 t4
    have hR : refD neg d = if d.all digB = true then
        (if neg = true then (IntKind.i64.wrap (IntKind.u64.wrap (0 - (valD d : Int))), decide ((valD d : Int) ≤ 9223372036854775808)) else (IntKind.i64.wrap (valD d), decide ((valD d : Int) < 9223372036854775808)))
      else (0, false) := by
      unfold refD
      rw [if_neg (by rintro (h | h | h); exact h1 h; omega; exact h3 h)]
    refine hK1 _ ?_; clear hK1
    refine bwp_seq fun K hK => bwp_region rfl ?_
    simp only [go_sem, ↓reduceIte, Nat.reduceEqDiff, Nat.reduceAdd]
    refine hK _ ?_; clear hK
    refine bwp_seq fun K2 hK2 => ?_
    refine bwp_seq fun K3 hK3 => ?_
    refine bwp_region rfl ?_
    simp only [go_sem, ↓reduceIte, Nat.reduceEqDiff, Nat.reduceAdd]
    refine hK3 _ ?_; clear hK3
    refine bwp_block ?_
    refine bwp_leads (S' := rpS neg d 0) (Leads.ent [] ⟨by simp [entT, fget, AV.ren, renL, pget, rpS, t5, t4, valD], by simp [entM, pinv, mget, mset, renL, AV.ren, pget, renL_append, -List.map_map, rpS, t5, t4, valD], rfl, rfl⟩) ?_
    refine rp_loop (by omega) ?_ ?_
    · intro ha t' g2 g3
      simp only [go_sem, ↓reduceIte, Nat.reduceEqDiff, Nat.reduceAdd]
      refine aend_ret (.tup [fget t' 2, fget t' 3]) rfl (by rw [g2, g3]; rfl) ⟨?_, rfl⟩
      rw [g2, g3, hR, ha]
      simp
    · intro ha
      have hk : d.take d.length = d := List.take_length
      unfold rpS
      rw [hk]
      simp only [go_sem, ↓reduceIte, Nat.reduceEqDiff, Nat.reduceAdd]
      refine hK2 _ ?_; clear hK2
      rw [if_pos ha] at hR
      refine bwp_seq fun K2 hK2 => ?_
      cases neg with
      | true =>
        rw [if_pos rfl] at hR
        refine bwp_seq fun K hK => bwp_region rfl ?_
        simp only [go_sem, ↓reduceIte, Nat.reduceEqDiff, Nat.reduceAdd]
        refine hK _ ?_; clear hK
        refine bwp_cond true (by simp [ev, fget]) (fun _ => ?_) (fun h => nomatch h)
        by_cases h5 : (valD d : Int) ≤ 9223372036854775808
        · refine bwp_seq fun K hK => bwp_region rfl ?_
          simp only [go_sem, ↓reduceIte, Nat.reduceEqDiff, Nat.reduceAdd, h5]
          refine hK _ ?_; clear hK
          refine bwp_ret ?_
          simp only [go_sem]
          refine aend_ret _ rfl rfl ⟨?_, rfl⟩
          simp [fget, hR, h5]
        · refine bwp_seq fun K hK => bwp_region rfl ?_
          simp only [go_sem, ↓reduceIte, Nat.reduceEqDiff, Nat.reduceAdd, h5]
          refine hK _ ?_; clear hK
          refine bwp_ret ?_
          simp only [go_sem]
          refine aend_ret _ rfl rfl ⟨?_, rfl⟩
          simp [fget, hR, h5]
      | false =>
        rw [if_neg (by decide)] at hR
        refine bwp_seq fun K hK => bwp_region rfl ?_
        simp only [go_sem, ↓reduceIte, Nat.reduceEqDiff, Nat.reduceAdd]
        refine hK _ ?_; clear hK
        refine bwp_cond false (by simp [ev, fget]) (fun h => nomatch h) (fun _ => ?_)
        refine bwp_skip ?_
        refine hK2 _ ?_; clear hK2
        by_cases h5 : (valD d : Int) < 9223372036854775808
        · refine bwp_seq fun K hK => bwp_region rfl ?_
          simp only [go_sem, ↓reduceIte, Nat.reduceEqDiff, Nat.reduceAdd, h5]
          refine hK _ ?_; clear hK
          refine bwp_ret ?_
          simp only [go_sem]
          refine aend_ret _ rfl rfl ⟨?_, rfl⟩
          simp [fget, hR, h5]
        · refine bwp_seq fun K hK => bwp_region rfl ?_
          simp only [go_sem, ↓reduceIte, Nat.reduceEqDiff, Nat.reduceAdd, h5]
          refine hK _ ?_; clear hK
          refine bwp_ret ?_
          simp only [go_sem]
          refine aend_ret _ rfl rfl ⟨?_, rfl⟩
          simp [fget, hR, h5]
  have hc8 : (((d.getD 0 0).toNat : Int) = 48) ↔ d.getD 0 0 = 48 := by
    constructor
    · intro h; apply UInt8.toNat_inj.1; exact_mod_cast h
    · intro h; rw [h]; rfl
  by_cases h3 : d.getD 0 0 = 48
  · have h3' := hc8.2 h3
    by_cases h4 : (1 : Int) < d.length
    · refine bwp_seq fun K hK => bwp_region rfl ?_
      simp -implicitDefEqProofs only [go_sem, ↓reduceIte, Nat.reduceEqDiff, Nat.reduceAdd, Nat.reduceLeDiff, Nat.reduceMul, Nat.reduceSub, Int.reduceLE, Int.reduceLT, Int.reduceEq, Int.reduceToNat, Int.reducePow, Int.reduceNeg, h1, h2, hlen', h3', h4]
      refine hK _ ?_; clear hK
      refine bwp_cond true (by simp [ev, fget]) (fun _ => ?_) (fun h => nomatch h)
      exact no (by unfold refD; rw [if_pos (.inr (.inr ⟨h3, .inl (by omega)⟩))]) _
    · cases neg with
      | true =>
        refine bwp_seq fun K hK => bwp_region rfl ?_
        simp -implicitDefEqProofs only [go_sem, ↓reduceIte, Nat.reduceEqDiff, Nat.reduceAdd, Nat.reduceLeDiff, Nat.reduceMul, Nat.reduceSub, Int.reduceLE, Int.reduceLT, Int.reduceEq, Int.reduceToNat, Int.reducePow, Int.reduceNeg, h1, h2, hlen', h3', h4]
        refine hK _ ?_; clear hK
        refine bwp_cond true (by simp [ev, fget]) (fun _ => ?_) (fun h => nomatch h)
        exact no (by unfold refD; rw [if_pos (.inr (.inr ⟨h3, .inr rfl⟩))]) _
      | false =>
        refine bwp_seq fun K hK => bwp_region rfl ?_
        simp -implicitDefEqProofs only [go_sem, ↓reduceIte, Nat.reduceEqDiff, Nat.reduceAdd, Nat.reduceLeDiff, Nat.reduceMul, Nat.reduceSub, Int.reduceLE, Int.reduceLT, Int.reduceEq, Int.reduceToNat, Int.reducePow, Int.reduceNeg, h1, h2, hlen', h3', h4]
        refine hK _ ?_; clear hK
        refine bwp_cond false (by simp [ev, fget]) (fun h => nomatch h) (fun _ => ?_)
        refine bwp_skip ?_
        simp only [go_sem, ↓reduceIte, Nat.reduceEqDiff, Nat.reduceAdd]
        exact yes (fun h => by rcases h.2 with h | h; omega; cases h) _ rfl rfl
  · have h3' : ¬ ((d.getD 0 0).toNat : Int) = 48 := fun h => h3 (hc8.1 h)
    refine bwp_seq fun K hK => bwp_region rfl ?_
    simp -implicitDefEqProofs only [go_sem, ↓reduceIte, Nat.reduceEqDiff, Nat.reduceAdd, Nat.reduceLeDiff, Nat.reduceMul, Nat.reduceSub, Int.reduceLE, Int.reduceLT, Int.reduceEq, Int.reduceToNat, Int.reducePow, Int.reduceNeg, h1, h2, hlen', h3']
    refine hK _ ?_; clear hK
    refine bwp_cond false (by simp [ev, fget]) (fun h => nomatch h) (fun _ => ?_)
    refine bwp_skip ?_
    simp only [go_sem, ↓reduceIte, Nat.reduceEqDiff, Nat.reduceAdd]
    exact yes (fun h => h3 h.1) _ rfl rfl

set_option maxHeartbeats 8000000 in
theorem refParse_pure {s : List UInt8} (hmax : s.length ≤ maxLen) : Pure Tryd.prog 43 [.d (.str s)] (.tup [.d (.int .i64 (refW s).1), .d (.bool (refW s).2)]) := by
  have hfin : ∀ (S : St) (neg : Bool) (d : List UInt8) (K : St → Prop), d.length ≤ maxLen → refW s = refD neg d → Leads (mbound []) 74 S (rpI neg d) →
      (∀ S', BWP Tryd.prog (mbound []) 74 (dropSeq 4 ac43) S' (AEnd Tryd.prog #[.tmp 2, .tmp 3] (mbound []) fun r m' => r = .tup [.d (.int .i64 (refW s).1), .d (.bool (refW s).2)] ∧ m' = []) → K S') → K S := by
    intro S neg d K hd he hS hK
    refine hK _ ?_
    refine bwp_leads hS ?_
    rw [he]
    exact rp_tail neg d hd
  unfold ac43 at hfin
  simp only [dropSeq] at hfin
  refine acalls_of Tryd.func43 ac43_ok Tryd.ntmps43 Tryd.results43 rfl ?_
  unfold ac43
  refine bwp_seq fun K hK => bwp_region rfl ?_
  simp only [go_sem, ↓reduceIte, Nat.reduceEqDiff, Nat.reduceAdd]
  refine hK _ ?_; clear hK
  cases s with
  | nil =>
    have hn : ¬ (0 : Int) < ((0 : Nat) : Int) := by decide
    refine bwp_seq fun K hK => bwp_region rfl ?_
    simp only [go_sem, ↓reduceIte, Nat.reduceEqDiff, Nat.reduceAdd, hn]
    refine hK _ ?_; clear hK
    refine bwp_seq fun K hK => bwp_region rfl ?_
    simp only [go_sem, ↓reduceIte, Nat.reduceEqDiff, Nat.reduceAdd]
    refine hK _ ?_; clear hK
    refine bwp_seq fun K1 hK1 => ?_
    refine bwp_seq fun K hK => bwp_region rfl ?_
    simp only [go_sem, ↓reduceIte, Nat.reduceEqDiff, Nat.reduceAdd, Nat.reduceLeDiff, Nat.reduceMul, Int.reduceEq]
    refine hK _ ?_; clear hK
    refine bwp_cond false (by simp [ev, fget]) (fun h => nomatch h) (fun _ => ?_)
    refine bwp_skip ?_
    refine hfin _ false [] K1 (by simp) rfl (Leads.ent [] ⟨by simp [entT, fget, AV.ren, renL, pget, rpI], by simp [entM, rpI], rfl, rfl⟩) hK1
  | cons c r =>
    have hn : (0 : Int) < ((r.length + 1 : Nat) : Int) := by omega
    have hc8 : ((c.toNat : Int) = 45) ↔ c = 45 := by
      constructor
      · intro h; apply UInt8.toNat_inj.1; exact_mod_cast h
      · rintro rfl; rfl
    have hg : (c :: r).getD 0 0 = c := rfl
    by_cases h : c = 45
    · have h' := hc8.2 h
      have hr : refW (c :: r) = refD true r := by simp [refW, h]
      have hl1 : 1 ≤ r.length + 1 := by omega
      have hd1 : (c :: r).drop 1 = r := rfl
      refine bwp_seq fun K hK => bwp_region rfl ?_
      simp -implicitDefEqProofs only [go_sem, ↓reduceIte, Nat.reduceEqDiff, Nat.reduceAdd, Nat.reduceLeDiff, Nat.reduceMul, Nat.reduceSub, Int.reduceLE, Int.reduceLT, Int.reduceEq, Int.reduceToNat, Int.reducePow, Int.reduceNeg, hn, hg, h']
      refine hK _ ?_; clear hK
      refine bwp_seq fun K hK => bwp_region rfl ?_
      simp -implicitDefEqProofs only [go_sem, ↓reduceIte, Nat.reduceEqDiff, Nat.reduceAdd, Nat.reduceLeDiff, Nat.reduceMul, Nat.reduceSub, Int.reduceLE, Int.reduceLT, Int.reduceEq, Int.reduceToNat, Int.reducePow, Int.reduceNeg]
      refine hK _ ?_; clear hK
      refine bwp_seq fun K1 hK1 => ?_
      refine bwp_seq fun K hK => bwp_region rfl ?_
      simp -implicitDefEqProofs only [go_sem, ↓reduceIte, Nat.reduceEqDiff, Nat.reduceAdd, Nat.reduceLeDiff, Nat.reduceMul, Nat.reduceSub, Int.reduceLE, Int.reduceLT, Int.reduceEq, Int.reduceToNat, Int.reducePow, Int.reduceNeg]
      refine hK _ ?_; clear hK
      refine bwp_cond true (by simp [ev, fget]) (fun _ => ?_) (fun h => nomatch h)
      refine bwp_region rfl ?_
      simp -implicitDefEqProofs only [go_sem, ↓reduceIte, Nat.reduceEqDiff, Nat.reduceAdd, Nat.reduceLeDiff, Nat.reduceMul, Nat.reduceSub, Int.reduceLE, Int.reduceLT, Int.reduceEq, Int.reduceToNat, Int.reducePow, Int.reduceNeg, hl1, hd1]
      refine hfin _ true r K1 (by simp only [List.length_cons] at hmax; omega) hr (Leads.ent [] ⟨by simp [entT, fget, AV.ren, renL, pget, rpI], by simp [entM, rpI], rfl, rfl⟩) hK1
    · have h' : ¬ ((c.toNat : Int) = 45) := fun e => h (hc8.1 e)
      have hr : refW (c :: r) = refD false (c :: r) := by simp [refW, h]
      refine bwp_seq fun K hK => bwp_region rfl ?_
      simp -implicitDefEqProofs only [go_sem, ↓reduceIte, Nat.reduceEqDiff, Nat.reduceAdd, Nat.reduceLeDiff, Nat.reduceMul, Nat.reduceSub, Int.reduceLE, Int.reduceLT, Int.reduceEq, Int.reduceToNat, Int.reducePow, Int.reduceNeg, hn, hg, h']
      refine hK _ ?_; clear hK
      refine bwp_seq fun K hK => bwp_region rfl ?_
      simp -implicitDefEqProofs only [go_sem, ↓reduceIte, Nat.reduceEqDiff, Nat.reduceAdd, Nat.reduceLeDiff, Nat.reduceMul, Nat.reduceSub, Int.reduceLE, Int.reduceLT, Int.reduceEq, Int.reduceToNat, Int.reducePow, Int.reduceNeg]
      refine hK _ ?_; clear hK
      refine bwp_seq fun K1 hK1 => ?_
      refine bwp_seq fun K hK => bwp_region rfl ?_
      simp -implicitDefEqProofs only [go_sem, ↓reduceIte, Nat.reduceEqDiff, Nat.reduceAdd, Nat.reduceLeDiff, Nat.reduceMul, Nat.reduceSub, Int.reduceLE, Int.reduceLT, Int.reduceEq, Int.reduceToNat, Int.reducePow, Int.reduceNeg]
      refine hK _ ?_; clear hK
      refine bwp_cond false (by simp [ev, fget]) (fun h => nomatch h) (fun _ => ?_)
      refine bwp_skip ?_
      refine hfin _ false (c :: r) K1 hmax hr (Leads.ent [] ⟨by simp [entT, fget, AV.ren, renL, pget, rpI], by simp [entM, rpI], rfl, rfl⟩) hK1

end Go.Proofs.YtpfbljkfbjjlkaaDoor

/- The document's next token, gone through. -/
namespace Go.Proofs.YtpfbljkfbjjlkaaDoor
open Go Go.Jq
set_option maxRecDepth 100000
set_option linter.unusedSimpArgs false

def nxV (s : List UInt8) (a : Nat) : AV := .tup [.agg ((nextW s a).1.cells.map .d), .d (.int .i64 (nextW s a).2.1), .agg [.d (.int .i64 (nextW s a).2.2), .d (.int .i64 (errAt s a))]]

theorem nxV_ok {s : List UInt8} {a : Nat} {t : Tok} {e : Nat} (h : nextW s a = (t, e, 0)) : nxV s a = .tup [.agg [.d (.int .i64 t.kd), .d (.str t.tx), .d (.int .i64 t.pl)], .d (.int .i64 e), .agg [.d (.int .i64 0), .d (.int .i64 0)]] := by
  simp [nxV, errAt, h, Tok.cells]

theorem nxV_bad {s : List UInt8} {a : Nat} {e : Nat} {c : Int} (hc : c ≠ 0) (h : nextW s a = (noTok, e, c)) : nxV s a = .tup [.agg [.d (.int .i64 0), .d (.str []), .d (.int .i64 0)], .d (.int .i64 e), .agg [.d (.int .i64 c), .d (.int .i64 (skipA s a))]] := by
  simp [nxV, errAt, h, hc, Tok.cells, noTok]

theorem nxV_ren (s : List UInt8) (a : Nat) : (nxV s a).ren (fun _ => none) = nxV s a := by simp [nxV, Tok.cells, AV.ren, renL]

def nxM : Mem := [(0, [.d (.int .i64 0), .d (.str []), .d (.int .i64 0)]), (1, [.d (.int .i64 0), .d (.int .i64 0)])]
def rnS (s : List UInt8) (at' : Nat) (c : UInt8) (p : Nat) : St := ⟨[(9, .d (.int .i64 p)), (0, .d (.str s)), (7, .d (.int .i64 at')), (8, .d (.int .u8 c.toNat)), (4, .ptr 0 0), (6, .ptr 1 0)], nxM, 2⟩

theorem run_at {s : List UInt8} {p : Nat} (h : p < s.length) : runL (s.drop p) = if alnB (s.getD p 0) = true then 1 + runL (s.drop (p + 1)) else 0 := by rw [drop_at h, runL]

theorem slice_eq (s : List UInt8) (a b : Nat) : (s.take b).drop a = (s.drop a).take (b - a) := by rw [List.drop_take]

set_option maxHeartbeats 4000000 in
theorem rn_loop0 {s : List UInt8} (hs : s.length ≤ 140737488351232) {at' : Nat} {c : UInt8} {p0 : Nat} (hp0 : p0 ≤ s.length) {Q : Exit → St → Prop}
    (hQ : Q (.exit 0) (rnS s at' c (p0 + runL (s.drop p0)))) :
    BWP Tryd.prog (mbound []) 174 (.loop ac23L0) (rnS s at' c p0) Q := by
  refine bwp_fam (ι := { p : Nat // p ≤ s.length ∧ p + runL (s.drop p) = p0 + runL (s.drop p0) }) (fun p => rnS s at' c p.1) (fun p => s.length - p.1) ⟨p0, hp0, rfl⟩ ?_
  rintro ⟨p, hl, hT⟩
  simp only
  unfold ac23L0 rnS nxM
  have hi0 : (0 : Int) ≤ (p : Int) := Int.natCast_nonneg _
  have hout : runL (s.drop p) = 0 → Q (.exit 0) (rnS s at' c p) := fun h => by rw [← hT, h] at hQ; exact hQ
  by_cases hlt : p < s.length
  · have hlt' : (p : Int) < s.length := by omega
    have hd := run_at hlt
    generalize hc : s.getD p 0 = d at hd
    have k1 := letter_pure d
    have k2 := digit_pure d
    have hw : IntKind.i64.wrap ((p : Int) + 1) = ((p + 1 : Nat) : Int) := by rw [wrap_i64 (by omega) (by omega)]; rfl
    refine bwp_seq fun K1 hK1 => ?_
    refine bwp_seq fun K hK => bwp_region rfl ?_
    simp only [go_sem, ↓reduceIte, Nat.reduceEqDiff, Nat.reduceAdd, hlt', hi0, Int.toNat_natCast, hc]
    by_cases ha : alnB d = true
    · rw [if_pos ha] at hd
      have fin : ∀ t : Fr, fget t 49 = .d (.bool true) → fget t 9 = .d (.int .i64 p) → fget t 0 = .d (.str s) → fget t 7 = .d (.int .i64 at') → fget t 8 = .d (.int .u8 c.toNat) → fget t 4 = .ptr 0 0 → fget t 6 = .ptr 1 0 → K ⟨t, nxM, 2⟩ := by
        intro t g1 g9 g0 g7 g8 g4 g6
        refine hK _ ?_; clear hK
        refine bwp_cond true (by simp [ev, fget, g1]) (fun _ => ?_) (fun h => nomatch h)
        refine bwp_skip ?_
        refine hK1 _ ?_; clear hK1
        refine bwp_block ?_
        refine bwp_region rfl ?_
        simp only [go_sem, ↓reduceIte, Nat.reduceEqDiff, Nat.reduceAdd, g9, hw]
        refine ⟨⟨p + 1, by omega, by omega⟩, by simp only; omega, ?_⟩
        exact Leads.ent [(0, 0), (1, 1)] ⟨by simp [entT, fget, AV.ren, renL, pget, rnS, g0, g7, g8, g4, g6], by simp [entM, pinv, mget, renL, AV.ren, rnS, nxM], rfl, rfl⟩
      cases h1 : letB d with
      | true =>
        rw [h1] at k1
        repeat' (first
          | (refine gateK_split (fun hb => ?_) (fun hb => ?_) <;> simp only [go_sem, ↓reduceIte, Nat.reduceEqDiff, Nat.reduceAdd, hb, hlt', hi0, Int.toNat_natCast, hc])
          | (refine dGateK_split (fun hb => ?_) (fun hb => ?_) <;> simp only [go_sem, ↓reduceIte, Nat.reduceEqDiff, Nat.reduceAdd, hb, hlt', hi0, Int.toNat_natCast, hc])
          | (refine callK_pure (k1) rfl rfl ?_; simp only [go_sem, ↓reduceIte, Nat.reduceEqDiff, Nat.reduceAdd, hlt', hi0, Int.toNat_natCast, hc])
          | (refine dCallK_pure (k1) rfl rfl ?_; simp only [go_sem, ↓reduceIte, Nat.reduceEqDiff, Nat.reduceAdd, hlt', hi0, Int.toNat_natCast, hc])
          | (rw [if_pos (by (try simp only [List.length_append, List.length_cons, List.length_nil, List.length_map]); omega)]; simp only [go_sem, ↓reduceIte, Nat.reduceEqDiff, Nat.reduceAdd, hlt', hi0, Int.toNat_natCast, hc]))
        exact fin _ rfl rfl rfl rfl rfl rfl rfl
      | false =>
        have h2 : digB d = true := by simpa [alnB, h1] using ha
        rw [h1] at k1
        rw [h2] at k2
        repeat' (first
          | (refine gateK_split (fun hb => ?_) (fun hb => ?_) <;> simp only [go_sem, ↓reduceIte, Nat.reduceEqDiff, Nat.reduceAdd, hb, hlt', hi0, Int.toNat_natCast, hc])
          | (refine dGateK_split (fun hb => ?_) (fun hb => ?_) <;> simp only [go_sem, ↓reduceIte, Nat.reduceEqDiff, Nat.reduceAdd, hb, hlt', hi0, Int.toNat_natCast, hc])
          | (refine callK_pure (k1) rfl rfl ?_; simp only [go_sem, ↓reduceIte, Nat.reduceEqDiff, Nat.reduceAdd, hlt', hi0, Int.toNat_natCast, hc])
          | (refine dCallK_pure (k1) rfl rfl ?_; simp only [go_sem, ↓reduceIte, Nat.reduceEqDiff, Nat.reduceAdd, hlt', hi0, Int.toNat_natCast, hc])
          | (refine callK_pure (k2) rfl rfl ?_; simp only [go_sem, ↓reduceIte, Nat.reduceEqDiff, Nat.reduceAdd, hlt', hi0, Int.toNat_natCast, hc])
          | (refine dCallK_pure (k2) rfl rfl ?_; simp only [go_sem, ↓reduceIte, Nat.reduceEqDiff, Nat.reduceAdd, hlt', hi0, Int.toNat_natCast, hc])
          | (rw [if_pos (by (try simp only [List.length_append, List.length_cons, List.length_nil, List.length_map]); omega)]; simp only [go_sem, ↓reduceIte, Nat.reduceEqDiff, Nat.reduceAdd, hlt', hi0, Int.toNat_natCast, hc]))
        exact fin _ rfl rfl rfl rfl rfl rfl rfl
    · rw [if_neg ha] at hd
      have ha' : letB d = false ∧ digB d = false := by simpa [alnB] using ha
      rw [ha'.1] at k1
      rw [ha'.2] at k2
      repeat' (first
        | (refine gateK_split (fun hb => ?_) (fun hb => ?_) <;> simp only [go_sem, ↓reduceIte, Nat.reduceEqDiff, Nat.reduceAdd, hb, hlt', hi0, Int.toNat_natCast, hc])
        | (refine dGateK_split (fun hb => ?_) (fun hb => ?_) <;> simp only [go_sem, ↓reduceIte, Nat.reduceEqDiff, Nat.reduceAdd, hb, hlt', hi0, Int.toNat_natCast, hc])
        | (refine callK_pure (k1) rfl rfl ?_; simp only [go_sem, ↓reduceIte, Nat.reduceEqDiff, Nat.reduceAdd, hlt', hi0, Int.toNat_natCast, hc])
        | (refine dCallK_pure (k1) rfl rfl ?_; simp only [go_sem, ↓reduceIte, Nat.reduceEqDiff, Nat.reduceAdd, hlt', hi0, Int.toNat_natCast, hc])
        | (refine callK_pure (k2) rfl rfl ?_; simp only [go_sem, ↓reduceIte, Nat.reduceEqDiff, Nat.reduceAdd, hlt', hi0, Int.toNat_natCast, hc])
        | (refine dCallK_pure (k2) rfl rfl ?_; simp only [go_sem, ↓reduceIte, Nat.reduceEqDiff, Nat.reduceAdd, hlt', hi0, Int.toNat_natCast, hc])
        | (rw [if_pos (by (try simp only [List.length_append, List.length_cons, List.length_nil, List.length_map]); omega)]; simp only [go_sem, ↓reduceIte, Nat.reduceEqDiff, Nat.reduceAdd, hlt', hi0, Int.toNat_natCast, hc]))
      refine hK _ ?_; clear hK
      refine bwp_cond false (by simp [ev, fget]) (fun h => nomatch h) (fun _ => ?_)
      refine bwp_leads (S' := rnS s at' c p) (Leads.ent [(0, 0), (1, 1)] ⟨by simp [entT, fget, AV.ren, renL, pget, rnS, nxM], by simp [entM, pinv, mget, mset, renL, AV.ren, pget, renL_append, -List.map_map, rnS, nxM], rfl, rfl⟩) ?_
      exact bwp_exit (hout hd)
  · have hlt' : ¬ (p : Int) < s.length := by omega
    have he : p = s.length := by omega
    refine bwp_seq fun K1 hK1 => ?_
    refine bwp_seq fun K hK => bwp_region rfl ?_
    simp only [go_sem, ↓reduceIte, Nat.reduceEqDiff, Nat.reduceAdd, hlt']
    refine hK _ ?_; clear hK
    refine bwp_cond false (by simp [ev, fget]) (fun h => nomatch h) (fun _ => ?_)
    refine bwp_leads (S' := rnS s at' c p) (Leads.ent [(0, 0), (1, 1)] ⟨by simp [entT, fget, AV.ren, renL, pget, rnS, nxM], by simp [entM, pinv, mget, mset, renL, AV.ren, pget, renL_append, -List.map_map, rnS, nxM], rfl, rfl⟩) ?_
    exact bwp_exit (hout (by rw [he, List.drop_length]; rfl))

set_option maxHeartbeats 4000000 in
theorem rn_loop1 {s : List UInt8} (hs : s.length ≤ 140737488351232) {at' : Nat} {c : UInt8} {p0 : Nat} (hp0 : p0 ≤ s.length) {Q : Exit → St → Prop}
    (hQ : Q (.exit 2) (rnS s at' c (p0 + runL (s.drop p0)))) :
    BWP Tryd.prog (mbound []) 174 (.loop ac23L1) (rnS s at' c p0) Q := by
  refine bwp_fam (ι := { p : Nat // p ≤ s.length ∧ p + runL (s.drop p) = p0 + runL (s.drop p0) }) (fun p => rnS s at' c p.1) (fun p => s.length - p.1) ⟨p0, hp0, rfl⟩ ?_
  rintro ⟨p, hl, hT⟩
  simp only
  unfold ac23L1 rnS nxM
  have hi0 : (0 : Int) ≤ (p : Int) := Int.natCast_nonneg _
  have hout : runL (s.drop p) = 0 → Q (.exit 2) (rnS s at' c p) := fun h => by rw [← hT, h] at hQ; exact hQ
  by_cases hlt : p < s.length
  · have hlt' : (p : Int) < s.length := by omega
    have hd := run_at hlt
    generalize hc : s.getD p 0 = d at hd
    have k1 := letter_pure d
    have k2 := digit_pure d
    have hw : IntKind.i64.wrap ((p : Int) + 1) = ((p + 1 : Nat) : Int) := by rw [wrap_i64 (by omega) (by omega)]; rfl
    refine bwp_seq fun K1 hK1 => ?_
    refine bwp_seq fun K hK => bwp_region rfl ?_
    simp only [go_sem, ↓reduceIte, Nat.reduceEqDiff, Nat.reduceAdd, hlt', hi0, Int.toNat_natCast, hc]
    by_cases ha : alnB d = true
    · rw [if_pos ha] at hd
      have fin : ∀ t : Fr, fget t 93 = .d (.bool true) → fget t 9 = .d (.int .i64 p) → fget t 0 = .d (.str s) → fget t 7 = .d (.int .i64 at') → fget t 8 = .d (.int .u8 c.toNat) → fget t 4 = .ptr 0 0 → fget t 6 = .ptr 1 0 → K ⟨t, nxM, 2⟩ := by
        intro t g1 g9 g0 g7 g8 g4 g6
        refine hK _ ?_; clear hK
        refine bwp_cond true (by simp [ev, fget, g1]) (fun _ => ?_) (fun h => nomatch h)
        refine bwp_skip ?_
        refine hK1 _ ?_; clear hK1
        refine bwp_block ?_
        refine bwp_region rfl ?_
        simp only [go_sem, ↓reduceIte, Nat.reduceEqDiff, Nat.reduceAdd, g9, hw]
        refine ⟨⟨p + 1, by omega, by omega⟩, by simp only; omega, ?_⟩
        exact Leads.ent [(0, 0), (1, 1)] ⟨by simp [entT, fget, AV.ren, renL, pget, rnS, g0, g7, g8, g4, g6], by simp [entM, pinv, mget, renL, AV.ren, rnS, nxM], rfl, rfl⟩
      cases h1 : letB d with
      | true =>
        rw [h1] at k1
        repeat' (first
          | (refine gateK_split (fun hb => ?_) (fun hb => ?_) <;> simp only [go_sem, ↓reduceIte, Nat.reduceEqDiff, Nat.reduceAdd, hb, hlt', hi0, Int.toNat_natCast, hc])
          | (refine dGateK_split (fun hb => ?_) (fun hb => ?_) <;> simp only [go_sem, ↓reduceIte, Nat.reduceEqDiff, Nat.reduceAdd, hb, hlt', hi0, Int.toNat_natCast, hc])
          | (refine callK_pure (k1) rfl rfl ?_; simp only [go_sem, ↓reduceIte, Nat.reduceEqDiff, Nat.reduceAdd, hlt', hi0, Int.toNat_natCast, hc])
          | (refine dCallK_pure (k1) rfl rfl ?_; simp only [go_sem, ↓reduceIte, Nat.reduceEqDiff, Nat.reduceAdd, hlt', hi0, Int.toNat_natCast, hc])
          | (rw [if_pos (by (try simp only [List.length_append, List.length_cons, List.length_nil, List.length_map]); omega)]; simp only [go_sem, ↓reduceIte, Nat.reduceEqDiff, Nat.reduceAdd, hlt', hi0, Int.toNat_natCast, hc]))
        exact fin _ rfl rfl rfl rfl rfl rfl rfl
      | false =>
        have h2 : digB d = true := by simpa [alnB, h1] using ha
        rw [h1] at k1
        rw [h2] at k2
        repeat' (first
          | (refine gateK_split (fun hb => ?_) (fun hb => ?_) <;> simp only [go_sem, ↓reduceIte, Nat.reduceEqDiff, Nat.reduceAdd, hb, hlt', hi0, Int.toNat_natCast, hc])
          | (refine dGateK_split (fun hb => ?_) (fun hb => ?_) <;> simp only [go_sem, ↓reduceIte, Nat.reduceEqDiff, Nat.reduceAdd, hb, hlt', hi0, Int.toNat_natCast, hc])
          | (refine callK_pure (k1) rfl rfl ?_; simp only [go_sem, ↓reduceIte, Nat.reduceEqDiff, Nat.reduceAdd, hlt', hi0, Int.toNat_natCast, hc])
          | (refine dCallK_pure (k1) rfl rfl ?_; simp only [go_sem, ↓reduceIte, Nat.reduceEqDiff, Nat.reduceAdd, hlt', hi0, Int.toNat_natCast, hc])
          | (refine callK_pure (k2) rfl rfl ?_; simp only [go_sem, ↓reduceIte, Nat.reduceEqDiff, Nat.reduceAdd, hlt', hi0, Int.toNat_natCast, hc])
          | (refine dCallK_pure (k2) rfl rfl ?_; simp only [go_sem, ↓reduceIte, Nat.reduceEqDiff, Nat.reduceAdd, hlt', hi0, Int.toNat_natCast, hc])
          | (rw [if_pos (by (try simp only [List.length_append, List.length_cons, List.length_nil, List.length_map]); omega)]; simp only [go_sem, ↓reduceIte, Nat.reduceEqDiff, Nat.reduceAdd, hlt', hi0, Int.toNat_natCast, hc]))
        exact fin _ rfl rfl rfl rfl rfl rfl rfl
    · rw [if_neg ha] at hd
      have ha' : letB d = false ∧ digB d = false := by simpa [alnB] using ha
      rw [ha'.1] at k1
      rw [ha'.2] at k2
      repeat' (first
        | (refine gateK_split (fun hb => ?_) (fun hb => ?_) <;> simp only [go_sem, ↓reduceIte, Nat.reduceEqDiff, Nat.reduceAdd, hb, hlt', hi0, Int.toNat_natCast, hc])
        | (refine dGateK_split (fun hb => ?_) (fun hb => ?_) <;> simp only [go_sem, ↓reduceIte, Nat.reduceEqDiff, Nat.reduceAdd, hb, hlt', hi0, Int.toNat_natCast, hc])
        | (refine callK_pure (k1) rfl rfl ?_; simp only [go_sem, ↓reduceIte, Nat.reduceEqDiff, Nat.reduceAdd, hlt', hi0, Int.toNat_natCast, hc])
        | (refine dCallK_pure (k1) rfl rfl ?_; simp only [go_sem, ↓reduceIte, Nat.reduceEqDiff, Nat.reduceAdd, hlt', hi0, Int.toNat_natCast, hc])
        | (refine callK_pure (k2) rfl rfl ?_; simp only [go_sem, ↓reduceIte, Nat.reduceEqDiff, Nat.reduceAdd, hlt', hi0, Int.toNat_natCast, hc])
        | (refine dCallK_pure (k2) rfl rfl ?_; simp only [go_sem, ↓reduceIte, Nat.reduceEqDiff, Nat.reduceAdd, hlt', hi0, Int.toNat_natCast, hc])
        | (rw [if_pos (by (try simp only [List.length_append, List.length_cons, List.length_nil, List.length_map]); omega)]; simp only [go_sem, ↓reduceIte, Nat.reduceEqDiff, Nat.reduceAdd, hlt', hi0, Int.toNat_natCast, hc]))
      refine hK _ ?_; clear hK
      refine bwp_cond false (by simp [ev, fget]) (fun h => nomatch h) (fun _ => ?_)
      refine bwp_leads (S' := rnS s at' c p) (Leads.ent [(0, 0), (1, 1)] ⟨by simp [entT, fget, AV.ren, renL, pget, rnS, nxM], by simp [entM, pinv, mget, mset, renL, AV.ren, pget, renL_append, -List.map_map, rnS, nxM], rfl, rfl⟩) ?_
      exact bwp_exit (hout hd)
  · have hlt' : ¬ (p : Int) < s.length := by omega
    have he : p = s.length := by omega
    refine bwp_seq fun K1 hK1 => ?_
    refine bwp_seq fun K hK => bwp_region rfl ?_
    simp only [go_sem, ↓reduceIte, Nat.reduceEqDiff, Nat.reduceAdd, hlt']
    refine hK _ ?_; clear hK
    refine bwp_cond false (by simp [ev, fget]) (fun h => nomatch h) (fun _ => ?_)
    refine bwp_leads (S' := rnS s at' c p) (Leads.ent [(0, 0), (1, 1)] ⟨by simp [entT, fget, AV.ren, renL, pget, rnS, nxM], by simp [entM, pinv, mget, mset, renL, AV.ren, pget, renL_append, -List.map_map, rnS, nxM], rfl, rfl⟩) ?_
    exact bwp_exit (hout (by rw [he, List.drop_length]; rfl))

end Go.Proofs.YtpfbljkfbjjlkaaDoor

/- The document's next token, gone through: signs. -/
namespace Go.Proofs.YtpfbljkfbjjlkaaDoor
open Go Go.Jq
set_option maxRecDepth 100000
set_option linter.unusedSimpArgs false

def tw : List (List UInt8) := [[60, 60], [62, 62], [61, 61], [33, 61]]
def twC : List AV := tw.map fun x => .d (.str x)

theorem tw_at {i : Nat} (hi : i < 4) : twC[i]? = some (.d (.str (tw.getD i []))) := by
  have key : ∀ q : Fin 4, twC[q.1]? = some (.d (.str (tw.getD q.1 []))) := by
    intro q
    match q with
    | ⟨0, _⟩ => rfl | ⟨1, _⟩ => rfl | ⟨2, _⟩ => rfl | ⟨3, _⟩ => rfl
  exact key ⟨i, hi⟩

def twS (s : List UInt8) (at' : Nat) (c : UInt8) (i : Nat) : St := ⟨[(13, .d (.int .i64 i)), (12, .sl 2 1 0 4), (9, .d (.int .i64 (at' + 1 : Nat))), (0, .d (.str s)), (7, .d (.int .i64 at')), (8, .d (.int .u8 c.toNat)), (4, .ptr 0 0), (6, .ptr 1 0)], nxM ++ [(2, twC)], 3⟩

set_option maxHeartbeats 4000000 in
theorem two_loop {s : List UInt8} (hs : s.length ≤ 140737488351232) {at' : Nat} (hat : at' < s.length) {c : UInt8} {Q : Exit → St → Prop}
    (hR : ∀ i, i < 4 → tw.getD i [] = (s.drop at').take 2 → ∀ (t : Fr) (n : Nat), fget t 5 = .d (.int .i64 (at' + 2 : Nat)) → fget t 4 = .ptr 0 0 → fget t 6 = .ptr 1 0 → Q .ret ⟨t, [(0, [.d (.int .i64 3), .d (.str ((s.drop at').take 2)), .d (.int .i64 at')]), (1, [.d (.int .i64 0), .d (.int .i64 0)]), (2, twC)], n⟩)
    (hE : ∀ i, (at' + 1 < s.length → ∀ j, j < 4 → tw.getD j [] ≠ (s.drop at').take 2) → Q (.exit 4) (twS s at' c i)) :
    BWP Tryd.prog (mbound []) 174 (.loop ac23L2) (twS s at' c 0) Q := by
  refine bwp_countI (fun i => twS s at' c i) (fun i => ∀ j, j < i → tw.getD j [] ≠ (s.drop at').take 2) 4 (fun j h => by omega) ?_
  intro i hi hp
  unfold ac23L2 twS nxM
  have hren : ∀ f, renL f twC = twC := fun _ => rfl
  by_cases hlt : i < 4
  · have hlt' : (i : Int) < 4 := by omega
    have hi0 : (0 : Int) ≤ (i : Int) := Int.natCast_nonneg _
    by_cases hto : at' + 1 < s.length
    · have hto' : ((at' + 1 : Nat) : Int) < s.length := by omega
      have hw1 : IntKind.i64.wrap (((at' + 1 : Nat) : Int) + 1) = ((at' + 2 : Nat) : Int) := by rw [wrap_i64 (by omega) (by omega)]; rfl
      have hw2 : IntKind.i64.wrap ((i : Int) + 1) = ((i + 1 : Nat) : Int) := by rw [wrap_i64 (by omega) (by omega)]; rfl
      have a0 : (0 : Int) ≤ (at' : Int) := Int.natCast_nonneg _
      have a2 : (0 : Int) ≤ ((at' + 2 : Nat) : Int) := Int.natCast_nonneg _
      have a3 : at' ≤ at' + 2 := by omega
      have a4 : at' + 2 ≤ s.length := by omega
      have a5 : at' ≤ at' + 2 ∧ at' + 2 ≤ s.length := ⟨a3, a4⟩
      have hsl : (s.take (at' + 2)).drop at' = (s.drop at').take 2 := by rw [slice_eq]; congr 1; omega
      have hcell := tw_at hlt
      refine bwp_seq fun K1 hK1 => ?_
      refine bwp_seq fun K hK => bwp_region rfl ?_
      simp only [go_sem, ↓reduceIte, Nat.reduceEqDiff, Nat.reduceAdd, hlt', hto']
      refine hK _ ?_; clear hK
      refine bwp_cond true (by simp [ev, fget]) (fun _ => ?_) (fun h => nomatch h)
      refine bwp_skip ?_
      refine hK1 _ ?_; clear hK1
      refine bwp_seq fun K1 hK1 => ?_
      refine bwp_block ?_
      by_cases he : tw.getD i [] = (s.drop at').take 2
      · refine bwp_seq fun K hK => bwp_region_draw rfl rfl ?_
        simp only [go_sem, ↓reduceIte, Nat.reduceEqDiff, Nat.reduceAdd, hw1, a0, a2, a3, a4, a5, Int.toNat_natCast, hsl, hi0, hlt', hlt, Nat.mul_one, Nat.zero_add, Nat.add_zero, List.getElem?_drop, hcell, Option.map_some, he]
        refine ⟨rfl, hK _ ?_⟩; clear hK
        refine bwp_cond true (by simp [ev, fget]) (fun _ => ?_) (fun h => nomatch h)
        refine bwp_seq fun K hK => bwp_region rfl ?_
        simp only [go_sem, ↓reduceIte, Nat.reduceEqDiff, Nat.reduceAdd, Nat.reduceLeDiff, Nat.reduceMul, Int.reduceEq, hw1, hi0, hlt', hlt, Int.toNat_natCast, Nat.mul_one, Nat.zero_add, Nat.add_zero, List.getElem?_drop, hcell, Option.map_some, he]
        refine hK _ ?_; clear hK
        refine bwp_ret ?_
        simp -implicitDefEqProofs only [go_sem, ↓reduceIte, Nat.reduceEqDiff, Nat.reduceAdd, Nat.reduceLeDiff, Nat.reduceMul, Nat.reduceSub, Int.reduceLE, Int.reduceLT, Int.reduceEq, Int.reduceToNat, Int.reducePow, Int.reduceNeg]
        exact hR i hlt he _ _ rfl rfl rfl
      · refine bwp_seq fun K hK => bwp_region_draw rfl rfl ?_
        have he' : ¬ (s.drop at').take 2 = tw.getD i [] := fun h => he h.symm
        simp only [go_sem, ↓reduceIte, Nat.reduceEqDiff, Nat.reduceAdd, hw1, a0, a2, a3, a4, a5, Int.toNat_natCast, hsl, hi0, hlt', hlt, Nat.mul_one, Nat.zero_add, Nat.add_zero, List.getElem?_drop, hcell, Option.map_some, he']
        refine ⟨rfl, hK _ ?_⟩; clear hK
        refine bwp_cond false (by simp [ev, fget]) (fun h => nomatch h) (fun _ => ?_)
        refine bwp_skip ?_
        refine hK1 _ ?_; clear hK1
        refine bwp_region rfl ?_
        simp only [go_sem, ↓reduceIte, Nat.reduceEqDiff, Nat.reduceAdd, hw2]
        refine ⟨hlt, fun j hj => ?_, Leads.ent [(0, 0), (1, 1), (2, 2)] ⟨by simp [entT, fget, AV.ren, renL, pget], by simp [entM, pinv, mget, renL, AV.ren, hren], rfl, rfl⟩⟩
        by_cases hji : j = i
        · subst hji; exact he
        · exact hp j (by omega)
    · have hto' : ¬ ((at' + 1 : Nat) : Int) < s.length := by omega
      refine bwp_seq fun K1 hK1 => ?_
      refine bwp_seq fun K hK => bwp_region rfl ?_
      simp only [go_sem, ↓reduceIte, Nat.reduceEqDiff, Nat.reduceAdd, Nat.reduceLeDiff, Nat.reduceMul, Int.reduceEq, hlt', hto']
      refine hK _ ?_; clear hK
      refine bwp_cond false (by simp [ev, fget]) (fun h => nomatch h) (fun _ => ?_)
      refine bwp_leads (S' := twS s at' c i) (Leads.ent [(0, 0), (1, 1), (2, 2)] ⟨by simp [entT, fget, AV.ren, renL, pget, twS, nxM, hren], by simp [entM, pinv, mget, mset, renL, AV.ren, pget, renL_append, -List.map_map, twS, nxM, hren], rfl, rfl⟩) ?_
      exact bwp_exit (hE i (fun h => absurd h hto))
  · have hlt' : ¬ (i : Int) < 4 := by omega
    have hin : i = 4 := by omega
    subst hin
    refine bwp_seq fun K1 hK1 => ?_
    refine bwp_seq fun K hK => bwp_region rfl ?_
    simp -implicitDefEqProofs only [go_sem, ↓reduceIte, Nat.reduceEqDiff, Nat.reduceAdd, Nat.reduceLeDiff, Nat.reduceMul, Nat.reduceSub, Int.reduceLE, Int.reduceLT, Int.reduceEq, Int.reduceToNat, Int.reducePow, Int.reduceNeg, hlt']
    refine hK _ ?_; clear hK
    refine bwp_cond false (by simp [ev, fget]) (fun h => nomatch h) (fun _ => ?_)
    refine bwp_leads (S' := twS s at' c 4) (Leads.ent [(0, 0), (1, 1), (2, 2)] ⟨by simp [entT, fget, AV.ren, renL, pget, twS, nxM, hren], by simp [entM, pinv, mget, mset, renL, AV.ren, pget, renL_append, -List.map_map, twS, nxM, hren], rfl, rfl⟩) ?_
    exact bwp_exit (hE 4 (fun _ => hp))

theorem ones_at {i : Nat} (hi : i < 12) : (ones.take (i + 1)).drop i = [ones.getD i 0] := by
  have key : ∀ q : Fin 12, (ones.take (q.1 + 1)).drop q.1 = [ones.getD q.1 0] := by decide
  exact key ⟨i, hi⟩

def onS (s : List UInt8) (at' : Nat) (c : UInt8) (i : Nat) : St := ⟨[(15, .d (.int .i64 i)), (14, .d (.str ones)), (9, .d (.int .i64 (at' + 1 : Nat))), (7, .d (.int .i64 at')), (8, .d (.int .u8 c.toNat)), (4, .ptr 0 0), (6, .ptr 1 0)], nxM, 2⟩

set_option maxHeartbeats 4000000 in
theorem one_loop (s : List UInt8) {at' : Nat} {c : UInt8} {Q : Exit → St → Prop}
    (hR : c ∈ ones → ∀ t : Fr, fget t 5 = .d (.int .i64 (at' + 1 : Nat)) → fget t 4 = .ptr 0 0 → fget t 6 = .ptr 1 0 → Q .ret ⟨t, [(0, [.d (.int .i64 3), .d (.str [c]), .d (.int .i64 at')]), (1, [.d (.int .i64 0), .d (.int .i64 0)])], 2⟩)
    (hE : ¬ c ∈ ones → Q (.exit 6) (onS s at' c 12)) :
    BWP Tryd.prog (mbound []) 174 (.loop ac23L3) (onS s at' c 0) Q := by
  refine bwp_countI (fun i => onS s at' c i) (fun i => ∀ j, j < i → ones.getD j 0 ≠ c) 12 (fun j h => by omega) ?_
  intro i hi hp
  unfold ac23L3 onS nxM
  have hlen : ones.length = 12 := rfl
  by_cases hlt : i < 12
  · have hlt' : (i : Int) < 12 := by omega
    have hi0 : (0 : Int) ≤ (i : Int) := Int.natCast_nonneg _
    have hi1 : (0 : Int) ≤ ((i + 1 : Nat) : Int) := Int.natCast_nonneg _
    have hw2 : IntKind.i64.wrap ((i : Int) + 1) = ((i + 1 : Nat) : Int) := by rw [wrap_i64 (by omega) (by omega)]; rfl
    have h4 : i ≤ i + 1 := by omega
    have h5 : i + 1 ≤ 12 := by omega
    have h6 : i ≤ i + 1 ∧ i + 1 ≤ 12 := ⟨h4, h5⟩
    have hpc := ones_at hlt
    generalize hd : ones.getD i 0 = d at *
    have hmem : d ∈ ones := by
      rw [← hd, List.getD_eq_getElem?_getD, List.getElem?_eq_getElem (by rw [hlen]; exact hlt), Option.getD_some]
      exact List.getElem_mem _
    refine bwp_seq fun K1 hK1 => ?_
    refine bwp_seq fun K hK => bwp_region rfl ?_
    simp only [go_sem, ↓reduceIte, Nat.reduceEqDiff, Nat.reduceAdd, hlen, hlt']
    refine hK _ ?_; clear hK
    refine bwp_cond true (by simp [ev, fget]) (fun _ => ?_) (fun h => nomatch h)
    refine bwp_skip ?_
    refine hK1 _ ?_; clear hK1
    refine bwp_seq fun K1 hK1 => ?_
    refine bwp_block ?_
    by_cases he : (d.toNat : Int) = c.toNat
    · have hdc : d = c := UInt8.toNat_inj.1 (by exact_mod_cast he)
      subst hdc
      refine bwp_seq fun K hK => bwp_region rfl ?_
      simp only [go_sem, ↓reduceIte, Nat.reduceEqDiff, Nat.reduceAdd, hlen, hlt', hi0, Int.toNat_natCast, hd]
      refine hK _ ?_; clear hK
      refine bwp_cond true (by simp [ev, fget]) (fun _ => ?_) (fun h => nomatch h)
      refine bwp_seq fun K hK => bwp_region rfl ?_
      simp only [go_sem, ↓reduceIte, Nat.reduceEqDiff, Nat.reduceAdd, hw2, hi0, hi1, Int.toNat_natCast, hlen, h4, h5, h6, hpc]
      refine hK _ ?_; clear hK
      refine bwp_ret ?_
      simp only [go_sem, ↓reduceIte, Nat.reduceEqDiff, Nat.reduceAdd]
      exact hR hmem _ rfl rfl rfl
    · refine bwp_seq fun K hK => bwp_region rfl ?_
      simp only [go_sem, ↓reduceIte, Nat.reduceEqDiff, Nat.reduceAdd, hlen, hlt', hi0, Int.toNat_natCast, hd, he]
      refine hK _ ?_; clear hK
      refine bwp_cond false (by simp [ev, fget]) (fun h => nomatch h) (fun _ => ?_)
      refine bwp_skip ?_
      refine hK1 _ ?_; clear hK1
      refine bwp_region rfl ?_
      simp only [go_sem, ↓reduceIte, Nat.reduceEqDiff, Nat.reduceAdd, hw2]
      refine ⟨hlt, fun j hj => ?_, Leads.ent [(0, 0), (1, 1)] ⟨by simp [entT, fget, AV.ren, renL, pget], by simp [entM, pinv, mget, renL, AV.ren], rfl, rfl⟩⟩
      by_cases hji : j = i
      · subst hji; rw [hd]; intro h; exact he (by rw [h])
      · exact hp j (by omega)
  · have hlt' : ¬ (i : Int) < 12 := by omega
    have hin : i = 12 := by omega
    subst hin
    refine bwp_seq fun K1 hK1 => ?_
    refine bwp_seq fun K hK => bwp_region rfl ?_
    simp only [go_sem, ↓reduceIte, Nat.reduceEqDiff, Nat.reduceAdd, hlen, hlt']
    refine hK _ ?_; clear hK
    refine bwp_cond false (by simp [ev, fget]) (fun h => nomatch h) (fun _ => ?_)
    refine bwp_leads (S' := onS s at' c 12) (Leads.ent [(0, 0), (1, 1)] ⟨by simp [entT, fget, AV.ren, renL, pget, onS, nxM], by simp [entM, pinv, mget, mset, renL, AV.ren, pget, renL_append, -List.map_map, onS, nxM], rfl, rfl⟩) ?_
    refine bwp_exit (hE ?_)
    intro hm
    obtain ⟨j, hj, e⟩ := List.getElem_of_mem hm
    refine hp j (by rw [hlen] at hj; exact hj) ?_
    rw [List.getD_eq_getElem?_getD, List.getElem?_eq_getElem hj, Option.getD_some]
    exact e

/-! ### The next token -/

theorem sign_two {c : UInt8} {r : List UInt8} : signL (c :: r) = 2 ↔ ∃ i, i < 4 ∧ tw.getD i [] = (c :: r).take 2 ∧ 1 ≤ r.length := by
  constructor
  · intro h
    rw [signL] at h
    split at h
    · rename_i h1
      cases r with
      | nil => simp at h1
      | cons d r =>
        simp only [List.head?_cons, Option.some.injEq] at h1
        rcases h1 with ⟨rfl, rfl⟩ | ⟨rfl, rfl⟩ | ⟨rfl | rfl, rfl⟩
        · exact ⟨0, by omega, rfl, by simp⟩
        · exact ⟨1, by omega, rfl, by simp⟩
        · exact ⟨2, by omega, rfl, by simp⟩
        · exact ⟨3, by omega, rfl, by simp⟩
    · split at h <;> omega
  · rintro ⟨i, hi, h1, h2⟩
    cases r with
    | nil => simp at h2
    | cons d r =>
      simp only [List.take_succ_cons, List.take_zero] at h1
      have : (c = 60 ∧ d = 60) ∨ (c = 62 ∧ d = 62) ∨ ((c = 61 ∨ c = 33) ∧ d = 61) := by
        match i, hi with
        | 0, _ => simp [tw] at h1; exact .inl ⟨h1.1.symm, h1.2.symm⟩
        | 1, _ => simp [tw] at h1; exact .inr (.inl ⟨h1.1.symm, h1.2.symm⟩)
        | 2, _ => simp [tw] at h1; exact .inr (.inr ⟨.inl h1.1.symm, h1.2.symm⟩)
        | 3, _ => simp [tw] at h1; exact .inr (.inr ⟨.inr h1.1.symm, h1.2.symm⟩)
      rw [signL, if_pos (by simpa using this)]

set_option maxHeartbeats 16000000 in
theorem refNext_pure {s : List UInt8} (hs : s.length ≤ 140737488351232) {a : Nat} (ha : a ≤ s.length) : Pure Tryd.prog 23 [.d (.str s), .d (.int .i64 a)] (nxV s a) := by
  have hskl := skipA_le ha
  have k1 := skip_pure hs ha
  have hnw : nextW s a = tokAt (skipA s a) (s.drop (skipA s a)) := rfl
  generalize hp : skipA s a = p at *
  have h34 : ldk Tryd.prog 34 = some (some 3) := by kernel_rfl
  have h26 : ldk Tryd.prog 26 = some (some 2) := by kernel_rfl
  refine acalls_of Tryd.func23 ac23_ok Tryd.ntmps23 Tryd.results23 rfl ?_
  unfold ac23
  refine bwp_seq fun K hK => bwp_region rfl ?_
  simp only [go_sem, ↓reduceIte, Nat.reduceEqDiff, Nat.reduceAdd]
  refine hK _ ?_; clear hK
  refine bwp_seq fun K hK => bwp_region rfl ?_
  simp only [go_sem, ↓reduceIte, Nat.reduceEqDiff, Nat.reduceAdd]
  repeat' (first
    | (refine gateK_split (fun hb => ?_) (fun hb => ?_) <;> simp only [go_sem, ↓reduceIte, Nat.reduceEqDiff, Nat.reduceAdd, hb])
    | (refine dGateK_split (fun hb => ?_) (fun hb => ?_) <;> simp only [go_sem, ↓reduceIte, Nat.reduceEqDiff, Nat.reduceAdd, hb])
    | (refine callK_pure (k1) rfl rfl ?_; simp only [go_sem, ↓reduceIte, Nat.reduceEqDiff, Nat.reduceAdd])
    | (refine dCallK_pure (k1) rfl rfl ?_; simp only [go_sem, ↓reduceIte, Nat.reduceEqDiff, Nat.reduceAdd])
    | (rw [if_pos (by (try simp only [List.length_append, List.length_cons, List.length_nil, List.length_map]); omega)]; simp only [go_sem, ↓reduceIte, Nat.reduceEqDiff, Nat.reduceAdd]))
  refine hK _ ?_; clear hK
  refine bwp_seq fun K1 hK1 => ?_
  by_cases he : p = s.length
  · have he' : (p : Int) = (s.length : Int) := by omega
    have hn : nextW s a = (⟨4, [], p⟩, p, 0) := by rw [hnw, he, List.drop_length]; rfl
    refine bwp_seq fun K hK => bwp_region rfl ?_
    simp only [go_sem, ↓reduceIte, Nat.reduceEqDiff, Nat.reduceAdd, he']
    refine hK _ ?_; clear hK
    refine bwp_cond true (by simp [ev, fget]) (fun _ => ?_) (fun h => nomatch h)
    refine bwp_seq fun K hK => bwp_region rfl ?_
    simp only [go_sem, ↓reduceIte, Nat.reduceEqDiff, Nat.reduceAdd]
    refine hK _ ?_; clear hK
    refine bwp_ret ?_
    simp only [go_sem, ↓reduceIte, Nat.reduceEqDiff, Nat.reduceAdd]
    refine aend_ret (nxV s a) ?_ (nxV_ren s a) ⟨rfl, rfl⟩
    rw [nxV_ok hn]
    simp [resA, resVs, resV, fget, mget, mset, loadA, h34, h26, he]
  have he' : ¬ (p : Int) = (s.length : Int) := by omega
  have hlt : p < s.length := by omega
  have hlt' : (p : Int) < s.length := by omega
  have hi0 : (0 : Int) ≤ (p : Int) := Int.natCast_nonneg _
  have hd := drop_at hlt
  have hw : IntKind.i64.wrap ((p : Int) + 1) = ((p + 1 : Nat) : Int) := by rw [wrap_i64 (by omega) (by omega)]; rfl
  generalize hcd : s.getD p 0 = c at hd
  have hrl := runL_le (s.drop (p + 1))
  rw [List.length_drop] at hrl
  rw [hd] at hnw
  refine bwp_seq fun K hK => bwp_region rfl ?_
  simp only [go_sem, ↓reduceIte, Nat.reduceEqDiff, Nat.reduceAdd, he']
  refine hK _ ?_; clear hK
  refine bwp_cond false (by simp [ev, fget]) (fun h => nomatch h) (fun _ => ?_)
  refine bwp_skip ?_
  refine hK1 _ ?_; clear hK1
  refine bwp_seq fun K hK => bwp_region rfl ?_
  simp only [go_sem, ↓reduceIte, Nat.reduceEqDiff, Nat.reduceAdd, hi0, hlt', Int.toNat_natCast, hcd]
  refine hK _ ?_; clear hK
  refine bwp_seq fun K hK => bwp_region rfl ?_
  simp only [go_sem, ↓reduceIte, Nat.reduceEqDiff, Nat.reduceAdd, hw]
  refine hK _ ?_; clear hK
  refine bwp_seq fun K1 hK1 => ?_
  have q1 := letter_pure c
  have q2 := digit_pure c
  have hw2 : p + 1 + runL (s.drop (p + 1)) = p + (1 + runL (s.drop (p + 1))) := by omega
  have slc : ∀ e, e = p + (1 + runL (s.drop (p + 1))) → (s.take e).drop p = c :: (s.drop (p + 1)).take (runL (s.drop (p + 1))) := fun e h => by
    rw [slice_eq, hd, h, show p + (1 + runL (s.drop (p + 1))) - p = runL (s.drop (p + 1)) + 1 by omega, List.take_succ_cons]
  by_cases h1 : letB c = true
  · rw [h1] at q1
    refine bwp_seq fun K hK => bwp_region rfl ?_
    simp only [go_sem, ↓reduceIte, Nat.reduceEqDiff, Nat.reduceAdd]
    repeat' (first
      | (refine gateK_split (fun hb => ?_) (fun hb => ?_) <;> simp only [go_sem, ↓reduceIte, Nat.reduceEqDiff, Nat.reduceAdd, hb])
      | (refine dGateK_split (fun hb => ?_) (fun hb => ?_) <;> simp only [go_sem, ↓reduceIte, Nat.reduceEqDiff, Nat.reduceAdd, hb])
      | (refine callK_pure (q1) rfl rfl ?_; simp only [go_sem, ↓reduceIte, Nat.reduceEqDiff, Nat.reduceAdd])
      | (refine dCallK_pure (q1) rfl rfl ?_; simp only [go_sem, ↓reduceIte, Nat.reduceEqDiff, Nat.reduceAdd])
      | (rw [if_pos (by (try simp only [List.length_append, List.length_cons, List.length_nil, List.length_map]); omega)]; simp only [go_sem, ↓reduceIte, Nat.reduceEqDiff, Nat.reduceAdd]))
    refine hK _ ?_; clear hK
    refine bwp_cond true (by simp [ev, fget]) (fun _ => ?_) (fun h => nomatch h)
    refine bwp_seq fun K2 hK2 => ?_
    refine bwp_block ?_
    refine bwp_leads (S' := rnS s p c (p + 1)) (Leads.ent [(0, 0), (1, 1)] ⟨by simp [entT, fget, AV.ren, renL, pget, rnS, nxM], by simp [entM, pinv, mget, mset, renL, AV.ren, pget, renL_append, -List.map_map, rnS, nxM], rfl, rfl⟩) ?_
    refine rn_loop0 hs (by omega) ?_
    have hn : nextW s a = (⟨1, c :: (s.drop (p + 1)).take (runL (s.drop (p + 1))), p⟩, p + (1 + runL (s.drop (p + 1))), 0) := by rw [hnw, tokAt, if_pos h1]
    have hsl := slc _ rfl
    rw [hw2]
    generalize hq : p + (1 + runL (s.drop (p + 1))) = q at *
    have b0 : (0 : Int) ≤ (q : Int) := Int.natCast_nonneg _
    have b1 : p ≤ q := by omega
    have b2 : q ≤ s.length := by omega
    unfold rnS nxM
    simp only [go_sem, ↓reduceIte, Nat.reduceEqDiff, Nat.reduceAdd]
    refine hK2 _ ?_; clear hK2
    refine bwp_seq fun K hK => bwp_region rfl ?_
    simp only [go_sem, ↓reduceIte, Nat.reduceEqDiff, Nat.reduceAdd, hi0, b0, b1, b2, Int.toNat_natCast, hsl]
    refine hK _ ?_; clear hK
    refine bwp_ret ?_
    simp only [go_sem, ↓reduceIte, Nat.reduceEqDiff, Nat.reduceAdd]
    refine aend_ret (nxV s a) ?_ (nxV_ren s a) ⟨rfl, rfl⟩
    rw [nxV_ok hn]
    simp [resA, resVs, resV, fget, mget, mset, loadA, h34, h26]
  have h1' : letB c = false := by simpa using h1
  rw [h1'] at q1
  refine bwp_seq fun K hK => bwp_region rfl ?_
  simp only [go_sem, ↓reduceIte, Nat.reduceEqDiff, Nat.reduceAdd]
  repeat' (first
    | (refine gateK_split (fun hb => ?_) (fun hb => ?_) <;> simp only [go_sem, ↓reduceIte, Nat.reduceEqDiff, Nat.reduceAdd, hb])
    | (refine dGateK_split (fun hb => ?_) (fun hb => ?_) <;> simp only [go_sem, ↓reduceIte, Nat.reduceEqDiff, Nat.reduceAdd, hb])
    | (refine callK_pure (q1) rfl rfl ?_; simp only [go_sem, ↓reduceIte, Nat.reduceEqDiff, Nat.reduceAdd])
    | (refine dCallK_pure (q1) rfl rfl ?_; simp only [go_sem, ↓reduceIte, Nat.reduceEqDiff, Nat.reduceAdd])
    | (rw [if_pos (by (try simp only [List.length_append, List.length_cons, List.length_nil, List.length_map]); omega)]; simp only [go_sem, ↓reduceIte, Nat.reduceEqDiff, Nat.reduceAdd]))
  refine hK _ ?_; clear hK
  refine bwp_cond false (by simp [ev, fget]) (fun h => nomatch h) (fun _ => ?_)
  refine bwp_skip ?_
  refine hK1 _ ?_; clear hK1
  have pw : ∀ x, (parseW x).2 = (refW x).2 := fun x => by
    rw [← numW_eq]; unfold numW
    cases h : (refW x).2 with
    | true => rw [if_pos rfl, h]
    | false => rw [if_neg (by decide)]
  refine bwp_seq fun K1 hK1 => ?_
  refine bwp_seq fun K hK => bwp_region rfl ?_
  simp only [go_sem, ↓reduceIte, Nat.reduceEqDiff, Nat.reduceAdd]
  have yes : (digB c = true ∨ (c = 45 ∧ ((s.drop (p + 1)).head?.map digB).getD false = true)) → ∀ t : Fr, fget t 77 = .d (.bool true) → fget t 9 = .d (.int .i64 (p + 1 : Nat)) → fget t 0 = .d (.str s) → fget t 7 = .d (.int .i64 p) → fget t 8 = .d (.int .u8 c.toNat) → fget t 4 = .ptr 0 0 → fget t 6 = .ptr 1 0 → K ⟨t, nxM, 2⟩ := by
    intro hdg t g77 g9 g0 g7 g8 g4 g6
    refine hK _ ?_; clear hK
    refine bwp_cond true (by simp [ev, fget, g77]) (fun _ => ?_) (fun h => nomatch h)
    refine bwp_seq fun K2 hK2 => ?_
    refine bwp_block ?_
    refine bwp_leads (S' := rnS s p c (p + 1)) (Leads.ent [(0, 0), (1, 1)] ⟨by simp [entT, fget, AV.ren, renL, pget, rnS, nxM, g9, g0, g7, g8, g4, g6], by simp [entM, pinv, mget, mset, renL, AV.ren, pget, renL_append, -List.map_map, rnS, nxM, g9, g0, g7, g8, g4, g6], rfl, rfl⟩) ?_
    refine rn_loop1 hs (by omega) ?_
    have hn1 := hnw
    rw [tokAt, if_neg h1, if_pos hdg, pw] at hn1
    have hsl := slc _ rfl
    have hwl : (c :: (s.drop (p + 1)).take (runL (s.drop (p + 1)))).length ≤ maxLen := by
      rw [List.length_cons, List.length_take, List.length_drop]
      exact Nat.le_trans (by omega : _ ≤ 140737488351233) (by decide)
    have kp := refParse_pure hwl
    rw [hw2]
    generalize c :: (s.drop (p + 1)).take (runL (s.drop (p + 1))) = w at *
    generalize hq : p + (1 + runL (s.drop (p + 1))) = q at *
    generalize refW w = rw' at *
    obtain ⟨rn, rb⟩ := rw'
    have b0 : (0 : Int) ≤ (q : Int) := Int.natCast_nonneg _
    have b1 : p ≤ q := by omega
    have b2 : q ≤ s.length := by omega
    unfold rnS nxM
    simp only [go_sem, ↓reduceIte, Nat.reduceEqDiff, Nat.reduceAdd]
    refine hK2 _ ?_; clear hK2
    refine bwp_seq fun K2 hK2 => ?_
    refine bwp_seq fun K hK => bwp_region rfl ?_
    simp only [go_sem, ↓reduceIte, Nat.reduceEqDiff, Nat.reduceAdd, hi0, b0, b1, b2, Int.toNat_natCast, hsl]
    repeat' (first
      | (refine gateK_split (fun hb => ?_) (fun hb => ?_) <;> simp only [go_sem, ↓reduceIte, Nat.reduceEqDiff, Nat.reduceAdd, hb, hi0, b0, b1, b2, Int.toNat_natCast, hsl])
      | (refine dGateK_split (fun hb => ?_) (fun hb => ?_) <;> simp only [go_sem, ↓reduceIte, Nat.reduceEqDiff, Nat.reduceAdd, hb, hi0, b0, b1, b2, Int.toNat_natCast, hsl])
      | (refine callK_pure (kp) rfl rfl ?_; simp only [go_sem, ↓reduceIte, Nat.reduceEqDiff, Nat.reduceAdd, hi0, b0, b1, b2, Int.toNat_natCast, hsl])
      | (refine dCallK_pure (kp) rfl rfl ?_; simp only [go_sem, ↓reduceIte, Nat.reduceEqDiff, Nat.reduceAdd, hi0, b0, b1, b2, Int.toNat_natCast, hsl])
      | (rw [if_pos (by (try simp only [List.length_append, List.length_cons, List.length_nil, List.length_map]); omega)]; simp only [go_sem, ↓reduceIte, Nat.reduceEqDiff, Nat.reduceAdd, hi0, b0, b1, b2, Int.toNat_natCast, hsl]))
    refine hK _ ?_; clear hK
    cases rb with
    | false =>
      rw [if_neg (by exact Bool.false_ne_true)] at hn1
      refine bwp_seq fun K hK => bwp_region rfl ?_
      simp only [go_sem, ↓reduceIte, Nat.reduceEqDiff, Nat.reduceAdd]
      refine hK _ ?_; clear hK
      refine bwp_cond true (by simp [ev, fget]) (fun _ => ?_) (fun h => nomatch h)
      refine bwp_seq fun K hK => bwp_region rfl ?_
      simp only [go_sem, ↓reduceIte, Nat.reduceEqDiff, Nat.reduceAdd]
      refine hK _ ?_; clear hK
      refine bwp_ret ?_
      simp only [go_sem, ↓reduceIte, Nat.reduceEqDiff, Nat.reduceAdd]
      refine aend_ret (nxV s a) ?_ (nxV_ren s a) ⟨rfl, rfl⟩
      rw [nxV_bad (by decide) hn1, hp]
      simp [resA, resVs, resV, fget, mget, mset, loadA, h34, h26]
    | true =>
      rw [if_pos rfl] at hn1
      refine bwp_seq fun K hK => bwp_region rfl ?_
      simp only [go_sem, ↓reduceIte, Nat.reduceEqDiff, Nat.reduceAdd]
      refine hK _ ?_; clear hK
      refine bwp_cond false (by simp [ev, fget]) (fun h => nomatch h) (fun _ => ?_)
      refine bwp_skip ?_
      refine hK2 _ ?_; clear hK2
      refine bwp_seq fun K hK => bwp_region rfl ?_
      simp only [go_sem, ↓reduceIte, Nat.reduceEqDiff, Nat.reduceAdd, hi0, b0, b1, b2, Int.toNat_natCast, hsl]
      refine hK _ ?_; clear hK
      refine bwp_ret ?_
      simp only [go_sem, ↓reduceIte, Nat.reduceEqDiff, Nat.reduceAdd]
      refine aend_ret (nxV s a) ?_ (nxV_ren s a) ⟨rfl, rfl⟩
      rw [nxV_ok hn1]
      simp [resA, resVs, resV, fget, mget, mset, loadA, h34, h26]
  have no : ¬ (digB c = true ∨ (c = 45 ∧ ((s.drop (p + 1)).head?.map digB).getD false = true)) → ∀ t : Fr, fget t 77 = .d (.bool false) → fget t 9 = .d (.int .i64 (p + 1 : Nat)) → fget t 0 = .d (.str s) → fget t 7 = .d (.int .i64 p) → fget t 8 = .d (.int .u8 c.toNat) → fget t 4 = .ptr 0 0 → fget t 6 = .ptr 1 0 → K ⟨t, nxM, 2⟩ := by
    intro hdg t g77 g9 g0 g7 g8 g4 g6
    refine hK _ ?_; clear hK
    refine bwp_cond false (by simp [ev, fget, g77]) (fun h => nomatch h) (fun _ => ?_)
    refine bwp_skip ?_
    refine hK1 _ ?_; clear hK1
    rw [tokAt, if_neg h1, if_neg hdg] at hnw
    unfold nxM
    refine bwp_seq fun K hK => bwp_region rfl ?_
    simp only [go_sem, ↓reduceIte, Nat.reduceEqDiff, Nat.reduceAdd]
    refine hK _ ?_; clear hK
    refine bwp_seq fun K2 hK2 => ?_
    refine bwp_seq fun K3 hK3 => ?_
    refine bwp_region rfl ?_
    simp only [go_sem, ↓reduceIte, Nat.reduceEqDiff, Nat.reduceAdd]
    refine hK3 _ ?_; clear hK3
    refine bwp_block ?_
    have hrt : ∀ f, renL f twC = twC := fun _ => rfl
    refine bwp_leads (S' := twS s p c 0) (Leads.ent [(0, 0), (1, 1), (2, 2)] ⟨by simp [entT, fget, AV.ren, renL, pget, twS, nxM, g9, g0, g7, g8, g4, g6, twC, tw], by simp [entM, pinv, mget, mset, renL, AV.ren, pget, renL_append, -List.map_map, twS, nxM, g9, g0, g7, g8, g4, g6, twC, tw], rfl, rfl⟩) ?_
    refine two_loop hs hlt ?_ ?_
    · intro i hi he t n g5 g4 g6
      have h2 : signL (c :: s.drop (p + 1)) = 2 ∨ s.drop (p + 1) = [] := by
        by_cases hnil : s.drop (p + 1) = []
        · exact .inr hnil
        · refine .inl (sign_two.2 ⟨i, hi, by rw [he, hd], ?_⟩)
          cases hx : s.drop (p + 1) with
          | nil => exact absurd hx hnil
          | cons d r => simp
      have h2 : signL (c :: s.drop (p + 1)) = 2 := by
        rcases h2 with h2 | h2
        · exact h2
        · rw [hd, h2] at he
          exfalso
          match i, hi with
          | 0, _ => simp [tw] at he
          | 1, _ => simp [tw] at he
          | 2, _ => simp [tw] at he
          | 3, _ => simp [tw] at he
      rw [h2, if_neg (by decide), ← hd] at hnw
      simp only [go_sem, ↓reduceIte, Nat.reduceEqDiff, Nat.reduceAdd]
      refine aend_ret (nxV s a) ?_ (nxV_ren s a) ⟨rfl, rfl⟩
      rw [nxV_ok hnw]
      simp [resA, resVs, resV, fget, mget, mset, loadA, h34, h26, g4, g5, g6]
    · intro i hne
      have h2 : signL (c :: s.drop (p + 1)) ≠ 2 := by
        intro h
        obtain ⟨j, hj, e, hl⟩ := sign_two.1 h
        rw [List.length_drop] at hl
        exact hne (by omega) j hj (by rw [hd]; exact e)
      unfold twS nxM
      simp only [go_sem, ↓reduceIte, Nat.reduceEqDiff, Nat.reduceAdd]
      refine hK2 _ ?_; clear hK2
      refine bwp_seq fun K hK => bwp_region rfl ?_
      simp only [go_sem, ↓reduceIte, Nat.reduceEqDiff, Nat.reduceAdd]
      refine hK _ ?_; clear hK
      refine bwp_seq fun K2 hK2 => ?_
      refine bwp_seq fun K3 hK3 => ?_
      refine bwp_region rfl ?_
      simp only [go_sem, ↓reduceIte, Nat.reduceEqDiff, Nat.reduceAdd]
      refine hK3 _ ?_; clear hK3
      refine bwp_block ?_
      refine bwp_leads (S' := onS s p c 0) (Leads.ent [(0, 0), (1, 1)] ⟨by simp [entT, fget, AV.ren, renL, pget, onS, nxM, ones], by simp [entM, pinv, mget, mset, renL, AV.ren, pget, renL_append, -List.map_map, onS, nxM, ones], rfl, rfl⟩) ?_
      have h12 : signL (c :: s.drop (p + 1)) = if c ∈ ones then 1 else 0 := by
        rw [signL]
        split
        · rename_i hx
          exfalso
          apply h2
          rw [signL, if_pos hx]
        · rfl
      refine one_loop s ?_ ?_
      · intro hm t g5 g4 g6
        rw [h12, if_pos hm, if_neg (by decide)] at hnw
        simp only [go_sem, ↓reduceIte, Nat.reduceEqDiff, Nat.reduceAdd]
        refine aend_ret (nxV s a) ?_ (nxV_ren s a) ⟨rfl, rfl⟩
        rw [nxV_ok hnw]
        simp [resA, resVs, resV, fget, mget, mset, loadA, h34, h26, g4, g5, g6]
      · intro hm
        rw [h12, if_neg hm, if_pos rfl] at hnw
        unfold onS nxM
        simp only [go_sem, ↓reduceIte, Nat.reduceEqDiff, Nat.reduceAdd]
        refine hK2 _ ?_; clear hK2
        refine bwp_seq fun K hK => bwp_region rfl ?_
        simp only [go_sem, ↓reduceIte, Nat.reduceEqDiff, Nat.reduceAdd]
        refine hK _ ?_; clear hK
        refine bwp_ret ?_
        simp only [go_sem, ↓reduceIte, Nat.reduceEqDiff, Nat.reduceAdd]
        refine aend_ret (nxV s a) ?_ (nxV_ren s a) ⟨rfl, rfl⟩
        rw [nxV_bad (by decide) hnw, hp]
        simp [resA, resVs, resV, fget, mget, mset, loadA, h34, h26]
  cases hdc : digB c with
  | true =>
    rw [hdc] at q2
    repeat' (first
      | (refine gateK_split (fun hb => ?_) (fun hb => ?_) <;> simp only [go_sem, ↓reduceIte, Nat.reduceEqDiff, Nat.reduceAdd, hb])
      | (refine dGateK_split (fun hb => ?_) (fun hb => ?_) <;> simp only [go_sem, ↓reduceIte, Nat.reduceEqDiff, Nat.reduceAdd, hb])
      | (refine callK_pure (q2) rfl rfl ?_; simp only [go_sem, ↓reduceIte, Nat.reduceEqDiff, Nat.reduceAdd])
      | (refine dCallK_pure (q2) rfl rfl ?_; simp only [go_sem, ↓reduceIte, Nat.reduceEqDiff, Nat.reduceAdd])
      | (rw [if_pos (by (try simp only [List.length_append, List.length_cons, List.length_nil, List.length_map]); omega)]; simp only [go_sem, ↓reduceIte, Nat.reduceEqDiff, Nat.reduceAdd]))
    exact yes (.inl hdc) _ rfl rfl rfl rfl rfl rfl rfl
  | false =>
    rw [hdc] at q2
    by_cases h45 : (c.toNat : Int) = 45
    · have hc45 := u8eq (k := 45) h45
      by_cases hto : p + 1 < s.length
      · have hto' : ((p + 1 : Nat) : Int) < s.length := by omega
        have hi1 : (0 : Int) ≤ ((p + 1 : Nat) : Int) := Int.natCast_nonneg _
        have hd2 := drop_at hto
        have q3 := digit_pure (s.getD (p + 1) 0)
        cases hdd : digB (s.getD (p + 1) 0) with
        | true =>
          rw [hdd] at q3
          repeat' (first
            | (refine gateK_split (fun hb => ?_) (fun hb => ?_) <;> simp only [go_sem, ↓reduceIte, Nat.reduceEqDiff, Nat.reduceAdd, hb, h45, hto', hi1, Int.toNat_natCast])
            | (refine dGateK_split (fun hb => ?_) (fun hb => ?_) <;> simp only [go_sem, ↓reduceIte, Nat.reduceEqDiff, Nat.reduceAdd, hb, h45, hto', hi1, Int.toNat_natCast])
            | (refine callK_pure (q2) rfl rfl ?_; simp only [go_sem, ↓reduceIte, Nat.reduceEqDiff, Nat.reduceAdd, h45, hto', hi1, Int.toNat_natCast])
            | (refine dCallK_pure (q2) rfl rfl ?_; simp only [go_sem, ↓reduceIte, Nat.reduceEqDiff, Nat.reduceAdd, h45, hto', hi1, Int.toNat_natCast])
            | (refine callK_pure (q3) rfl rfl ?_; simp only [go_sem, ↓reduceIte, Nat.reduceEqDiff, Nat.reduceAdd, h45, hto', hi1, Int.toNat_natCast])
            | (refine dCallK_pure (q3) rfl rfl ?_; simp only [go_sem, ↓reduceIte, Nat.reduceEqDiff, Nat.reduceAdd, h45, hto', hi1, Int.toNat_natCast])
            | (rw [if_pos (by (try simp only [List.length_append, List.length_cons, List.length_nil, List.length_map]); omega)]; simp only [go_sem, ↓reduceIte, Nat.reduceEqDiff, Nat.reduceAdd, h45, hto', hi1, Int.toNat_natCast]))
          exact yes (.inr ⟨hc45, by rw [hd2]; simpa using hdd⟩) _ rfl rfl rfl rfl (by rw [h45]; rfl) rfl rfl
        | false =>
          rw [hdd] at q3
          repeat' (first
            | (refine gateK_split (fun hb => ?_) (fun hb => ?_) <;> simp only [go_sem, ↓reduceIte, Nat.reduceEqDiff, Nat.reduceAdd, hb, h45, hto', hi1, Int.toNat_natCast])
            | (refine dGateK_split (fun hb => ?_) (fun hb => ?_) <;> simp only [go_sem, ↓reduceIte, Nat.reduceEqDiff, Nat.reduceAdd, hb, h45, hto', hi1, Int.toNat_natCast])
            | (refine callK_pure (q2) rfl rfl ?_; simp only [go_sem, ↓reduceIte, Nat.reduceEqDiff, Nat.reduceAdd, h45, hto', hi1, Int.toNat_natCast])
            | (refine dCallK_pure (q2) rfl rfl ?_; simp only [go_sem, ↓reduceIte, Nat.reduceEqDiff, Nat.reduceAdd, h45, hto', hi1, Int.toNat_natCast])
            | (refine callK_pure (q3) rfl rfl ?_; simp only [go_sem, ↓reduceIte, Nat.reduceEqDiff, Nat.reduceAdd, h45, hto', hi1, Int.toNat_natCast])
            | (refine dCallK_pure (q3) rfl rfl ?_; simp only [go_sem, ↓reduceIte, Nat.reduceEqDiff, Nat.reduceAdd, h45, hto', hi1, Int.toNat_natCast])
            | (rw [if_pos (by (try simp only [List.length_append, List.length_cons, List.length_nil, List.length_map]); omega)]; simp only [go_sem, ↓reduceIte, Nat.reduceEqDiff, Nat.reduceAdd, h45, hto', hi1, Int.toNat_natCast]))
          exact no (by rintro (h | ⟨_, h⟩); rw [hdc] at h; cases h; rw [hd2] at h; simp at h; rw [← List.getD_eq_getElem?_getD, hdd] at h; cases h) _ rfl rfl rfl rfl (by rw [h45]; rfl) rfl rfl
      · have hto' : ¬ ((p + 1 : Nat) : Int) < s.length := by omega
        have hnil : s.drop (p + 1) = [] := List.drop_eq_nil_of_le (by omega)
        repeat' (first
          | (refine gateK_split (fun hb => ?_) (fun hb => ?_) <;> simp only [go_sem, ↓reduceIte, Nat.reduceEqDiff, Nat.reduceAdd, hb, h45, hto'])
          | (refine dGateK_split (fun hb => ?_) (fun hb => ?_) <;> simp only [go_sem, ↓reduceIte, Nat.reduceEqDiff, Nat.reduceAdd, hb, h45, hto'])
          | (refine callK_pure (q2) rfl rfl ?_; simp only [go_sem, ↓reduceIte, Nat.reduceEqDiff, Nat.reduceAdd, h45, hto'])
          | (refine dCallK_pure (q2) rfl rfl ?_; simp only [go_sem, ↓reduceIte, Nat.reduceEqDiff, Nat.reduceAdd, h45, hto'])
          | (rw [if_pos (by (try simp only [List.length_append, List.length_cons, List.length_nil, List.length_map]); omega)]; simp only [go_sem, ↓reduceIte, Nat.reduceEqDiff, Nat.reduceAdd, h45, hto']))
        exact no (by rintro (h | ⟨_, h⟩); rw [hdc] at h; cases h; rw [hnil] at h; simp at h) _ rfl rfl rfl rfl (by rw [h45]; rfl) rfl rfl
    · have hc45 := u8ne (k := 45) h45
      repeat' (first
        | (refine gateK_split (fun hb => ?_) (fun hb => ?_) <;> simp only [go_sem, ↓reduceIte, Nat.reduceEqDiff, Nat.reduceAdd, hb, h45])
        | (refine dGateK_split (fun hb => ?_) (fun hb => ?_) <;> simp only [go_sem, ↓reduceIte, Nat.reduceEqDiff, Nat.reduceAdd, hb, h45])
        | (refine callK_pure (q2) rfl rfl ?_; simp only [go_sem, ↓reduceIte, Nat.reduceEqDiff, Nat.reduceAdd, h45])
        | (refine dCallK_pure (q2) rfl rfl ?_; simp only [go_sem, ↓reduceIte, Nat.reduceEqDiff, Nat.reduceAdd, h45])
        | (rw [if_pos (by (try simp only [List.length_append, List.length_cons, List.length_nil, List.length_map]); omega)]; simp only [go_sem, ↓reduceIte, Nat.reduceEqDiff, Nat.reduceAdd, h45]))
      exact no (by rintro (h | ⟨h, _⟩); rw [hdc] at h; cases h; exact hc45 h) _ rfl rfl rfl rfl rfl rfl rfl

end Go.Proofs.YtpfbljkfbjjlkaaDoor

/- All tokens of a text by the document's reader, gone through. -/
namespace Go.Proofs.YtpfbljkfbjjlkaaDoor
open Go Go.Jq
set_option maxRecDepth 100000
set_option linter.unusedSimpArgs false

theorem tokAt_bad {a : Nat} {l : List UInt8} (h : (tokAt a l).2.2 ≠ 0) : (noTok, (tokAt a l).2.1, (tokAt a l).2.2) = tokAt a l := by
  cases l with
  | nil => exact absurd rfl h
  | cons c r =>
    rw [tokAt] at h ⊢
    split at h
    · exact absurd rfl h
    · rename_i h1
      rw [if_neg h1]
      split at h
      · rename_i h2
        rw [if_pos h2]
        split at h
        · exact absurd rfl h
        · rename_i h3
          rw [if_neg h3]
      · rename_i h2
        rw [if_neg h2]
        split at h
        · rename_i h3
          rw [if_pos h3]
        · exact absurd rfl h

end Go.Proofs.YtpfbljkfbjjlkaaDoor

/- The lexer's next token, gone through. -/
namespace Go.Proofs.YtpfbljkfbjjlkaaDoor
open Go Go.Jq
set_option maxRecDepth 100000
set_option linter.unusedSimpArgs false

theorem fail_calls (s : List UInt8) (a rd : Nat) (e : Int) : ACalls Tryd.prog 38 [.ptr 0 0, .d (.int .i64 e)] [(0, lexC s a rd 0 0)] fun r m' => r = .tup [.agg [.d (.int .i64 0), .d (.str []), .d (.int .i64 0)], .agg [.d (.int .i64 e), .d (.int .i64 a)]] ∧ m' = [(0, lexC s a rd e a)] := by
  have h34 : ldk Tryd.prog 34 = some (some 3) := by kernel_rfl
  have h26 : ldk Tryd.prog 26 = some (some 2) := by kernel_rfl
  refine acalls_of Tryd.func38 ac38_ok Tryd.ntmps38 Tryd.results38 rfl ?_
  unfold ac38
  refine bwp_seq fun K hK => bwp_region rfl ?_
  simp only [go_sem, ↓reduceIte, Nat.reduceEqDiff, Nat.reduceAdd]
  refine hK _ ?_; clear hK
  refine bwp_seq fun K hK => bwp_region rfl ?_
  simp only [go_sem, ↓reduceIte, Nat.reduceEqDiff, Nat.reduceAdd, lexC]
  refine hK _ ?_; clear hK
  refine bwp_seq fun K hK => bwp_region_draw rfl rfl ?_
  simp only [go_sem, ↓reduceIte, Nat.reduceEqDiff, Nat.reduceAdd]
  refine ⟨rfl, hK _ ?_⟩; clear hK
  refine bwp_ret ?_
  simp only [go_sem]
  refine aend_mem (.tup [.agg [.d (.int .i64 0), .d (.str []), .d (.int .i64 0)], .agg [.d (.int .i64 e), .d (.int .i64 a)]]) [(0, 0)] [(0, lexC s a rd e a)] ?_ rfl rfl ?_ ⟨rfl, rfl⟩
  · simp [resA, resVs, resV, fget, mget, mset, loadA, h34, h26]
  · simp [entM, pinv, mget, mset, renL, AV.ren, lexC]

theorem fail_callK (s : List UInt8) (a rd : Nat) (e : Int) {j : Nat} {dst : Option Nat} {r : List AOper} {K : St → Prop} {t : Fr} {m : Mem} {n : Nat} (hm : mget m j = some (lexC s a rd 0 0))
    (hk : runOps Tryd.prog r ⟨putF t dst (.tup [.agg [.d (.int .i64 0), .d (.str []), .d (.int .i64 0)], .agg [.d (.int .i64 e), .d (.int .i64 a)]]), mset m j (lexC s a rd e a), n + 1⟩ K) : callK Tryd.prog 38 [.ptr j 0, .d (.int .i64 e)] dst r K t m n := by
  refine meth_callK (rest := [.d (.int .i64 e)]) (Q := fun r c' => r = .tup [.agg [.d (.int .i64 0), .d (.str []), .d (.int .i64 0)], .agg [.d (.int .i64 e), .d (.int .i64 a)]] ∧ c' = lexC s a rd e a) ((fail_calls s a rd e).mono fun r m' h => ⟨_, h.2, h.1, rfl⟩) rfl rfl ?_ hm ?_
  · rintro _ _ ⟨rfl, rfl⟩; exact ⟨rfl, rfl⟩
  · rintro _ _ ⟨rfl, rfl⟩; exact hk

theorem sign_callK {s : List UInt8} (hs : s.length ≤ 140737488351232) {a rd : Nat} (ha : a < s.length) (hr : a ≤ rd ∧ rd ≤ s.length) {j : Nat} {dst : Option Nat} {r : List AOper} {K : St → Prop} {t : Fr} {m : Mem} {n : Nat} (hm : mget m j = some (lexC s a rd 0 0))
    (hk : ∀ rd', (rd ≤ rd' ∧ a + 1 ≤ rd' ∧ rd' ≤ s.length ∧ (signL (s.drop a) ≠ 0 → a + signL (s.drop a) ≤ rd' ∧ rd' ≤ max rd (a + signL (s.drop a) + 1))) →
      runOps Tryd.prog r ⟨putF t dst (.d (.str ((s.drop a).take (signL (s.drop a))))), mset m j (lexC s a rd' 0 0), n + 1⟩ K) : callK Tryd.prog 39 [.ptr j 0] dst r K t m n := by
  refine meth_callK (rest := []) (Q := fun r c' => sgQ s a rd r [(0, c')]) ((sign_calls hs ha hr).mono fun r m' h => ?_) rfl rfl ?_ hm ?_
  · obtain ⟨h1, rd', h2, h3⟩ := h
    exact ⟨_, h3, h1, rd', h2, rfl⟩
  · rintro _ c' ⟨rfl, rd', _, h⟩
    have : c' = lexC s a rd' 0 0 := by simpa using h
    subst this
    exact ⟨rfl, rfl⟩
  · rintro _ c' ⟨rfl, rd', h1, h⟩
    have : c' = lexC s a rd' 0 0 := by simpa using h
    subst this
    exact hk rd' h1

theorem not_let_dig' {c : UInt8} (h : digB c = true) : letB c = false := by
  simp only [digB, Bool.and_eq_true, decide_eq_true_eq] at h
  have : ¬ 97 ≤ c.toNat := by omega
  simp [letB, this]

theorem kind_let (c : UInt8) : kindW c = 2 ↔ letB c = true := by
  unfold kindW
  cases h : letB c with
  | true => simp [(let_heads h).1]
  | false => cases blankB c <;> cases digB c <;> decide

theorem kind_dig (c : UInt8) : kindW c = 3 ↔ digB c = true := by
  unfold kindW
  cases h : digB c with
  | true => simp [(dig_heads h).1, not_let_dig' h]
  | false => cases blankB c <;> cases letB c <;> decide

/-- What Next tells. -/
def nxR (s : List UInt8) (a : Nat) : AV := .tup [.agg ((nextW s a).1.cells.map .d), .agg [.d (.int .i64 (nextW s a).2.2), .d (.int .i64 (errAt s a))]]
theorem nxR_in (s : List UInt8) (a : Nat) : inB (fun _ => none) (nxR s a) = true := rfl
theorem nxR_ok {s : List UInt8} {a : Nat} {t : Tok} {e : Nat} (h : nextW s a = (t, e, 0)) : nxR s a = .tup [.agg [.d (.int .i64 t.kd), .d (.str t.tx), .d (.int .i64 t.pl)], .agg [.d (.int .i64 0), .d (.int .i64 0)]] := by
  simp [nxR, errAt, h, Tok.cells]
theorem nxR_bad {s : List UInt8} {a : Nat} {e : Nat} {c : Int} (hc : c ≠ 0) (h : nextW s a = (noTok, e, c)) : nxR s a = .tup [.agg [.d (.int .i64 0), .d (.str []), .d (.int .i64 0)], .agg [.d (.int .i64 c), .d (.int .i64 (skipA s a))]] := by
  simp [nxR, errAt, h, hc, Tok.cells, noTok]

def nxQ (s : List UInt8) (a rd : Nat) (r : AV) (c' : List AV) : Prop :=
  r = nxR s a ∧ ∃ rd', (rd ≤ rd' ∧ rd' ≤ s.length ∧ (nextW s a).2.1 ≤ rd' ∧ ((nextW s a).2.2 = 0 → rd' ≤ max rd ((nextW s a).2.1 + 1))) ∧ c' = lexC s (nextW s a).2.1 rd' (nextW s a).2.2 (errAt s a)

/-- The state in which a token's text is cut. -/
def fnS (s : List UInt8) (p q rd : Nat) (k : Int) : St := ⟨[(6, .d (.int .i64 q)), (0, .ptr 0 0), (5, .ptr 3 0), (2, .ptr 1 0), (3, .ptr 2 0)], [(0, lexC s p rd 0 0), (1, [.d (.int .i64 0), .d (.str []), .d (.int .i64 0)]), (2, [.d (.int .i64 0), .d (.int .i64 0)]), (3, [.d (.int .i64 k), .d (.str []), .d (.int .i64 p)])], 4⟩

/-- The state in which it is seen whether a number begins. -/
def kdS (s : List UInt8) (p rd : Nat) (c : UInt8) (b : Bool) : St := ⟨[(78, .d (.bool b)), (6, .d (.int .i64 p)), (4, .d (.int .u8 c.toNat)), (0, .ptr 0 0), (5, .ptr 3 0), (2, .ptr 1 0), (3, .ptr 2 0)], [(0, lexC s p rd 0 0), (1, [.d (.int .i64 0), .d (.str []), .d (.int .i64 0)]), (2, [.d (.int .i64 0), .d (.int .i64 0)]), (3, [.d (.int .i64 0), .d (.str []), .d (.int .i64 p)])], 4⟩

set_option maxHeartbeats 16000000 in
theorem next_calls {s : List UInt8} (hs : s.length ≤ 140737488351232) {a rd : Nat} (ha : a ≤ s.length) (hr : a ≤ rd ∧ rd ≤ s.length) :
    ACalls Tryd.prog 22 [.ptr 0 0] [(0, lexC s a rd 0 0)] fun r m' => ∃ c', m' = [(0, c')] ∧ nxQ s a rd r c' := by
  have h34 : ldk Tryd.prog 34 = some (some 3) := by kernel_rfl
  have h26 : ldk Tryd.prog 26 = some (some 2) := by kernel_rfl
  have hskl := skipA_le ha
  have hska := le_skipA s a
  have hnw : nextW s a = tokAt (skipA s a) (s.drop (skipA s a)) := rfl
  refine acalls_of Tryd.func22 ac22_ok Tryd.ntmps22 Tryd.results22 rfl ?_
  unfold ac22
  refine bwp_seq fun K hK => bwp_region rfl ?_
  simp only [go_sem, ↓reduceIte, Nat.reduceEqDiff, Nat.reduceAdd]
  refine hK _ ?_; clear hK
  refine bwp_seq fun K1 hK1 => ?_
  refine bwp_seq fun K hK => bwp_region rfl ?_
  simp only [go_sem, ↓reduceIte, Nat.reduceEqDiff, Nat.reduceAdd, Nat.reduceLeDiff, Nat.reduceMul, Int.reduceEq, lexC]
  refine hK _ ?_; clear hK
  refine bwp_cond false (by simp [ev, fget]) (fun h => nomatch h) (fun _ => ?_)
  refine bwp_skip ?_
  refine hK1 _ ?_; clear hK1
  refine bwp_seq fun K hK => bwp_region rfl ?_
  simp only [go_sem, ↓reduceIte, Nat.reduceEqDiff, Nat.reduceAdd]
  refine skip_callK hs ha hr rfl ?_
  intro rd1 hrd1
  unfold rdIn at hrd1
  generalize hp : skipA s a = p at *
  simp only [go_sem, ↓reduceIte, Nat.reduceEqDiff, Nat.reduceAdd, lexC, mset]
  refine hK _ ?_; clear hK
  refine bwp_seq fun K1 hK1 => ?_
  refine bwp_seq fun K hK => bwp_region rfl ?_
  simp only [go_sem, ↓reduceIte, Nat.reduceEqDiff, Nat.reduceAdd]
  refine has_callK s p rd1 0 0 p rfl ?_
  by_cases hlt : p < s.length
  · simp only [go_sem, ↓reduceIte, Nat.reduceEqDiff, Nat.reduceAdd, hlt, decide_true, lexC, mset]
    refine hK _ ?_; clear hK
    refine bwp_cond false (by simp [ev, fget]) (fun h => nomatch h) (fun _ => ?_)
    refine bwp_skip ?_
    refine hK1 _ ?_; clear hK1
    refine bwp_seq fun K hK => bwp_region rfl ?_
    simp only [go_sem, ↓reduceIte, Nat.reduceEqDiff, Nat.reduceAdd]
    refine peek_callK hs p rd1 0 0 p rfl ?_
    have hd := drop_at hlt
    rw [rdW_lt hlt]
    generalize hcd : s.getD p 0 = c at hd
    obtain ⟨rd2, hr2, b1, b2, b3, b4⟩ : ∃ rd2, max rd1 (p + 1) = rd2 ∧ rd ≤ rd2 ∧ p + 1 ≤ rd2 ∧ rd2 ≤ s.length ∧ rd2 ≤ max rd (p + 1) := ⟨_, rfl, by omega⟩
    rw [hr2]
    rw [hd] at hnw
    simp only [go_sem, ↓reduceIte, Nat.reduceEqDiff, Nat.reduceAdd, lexC, mset]
    refine hK _ ?_; clear hK
    refine bwp_seq fun K hK => bwp_region rfl ?_
    simp only [go_sem, ↓reduceIte, Nat.reduceEqDiff, Nat.reduceAdd]
    refine hK _ ?_; clear hK
    refine bwp_seq fun K hK => bwp_region rfl ?_
    simp only [go_sem, ↓reduceIte, Nat.reduceEqDiff, Nat.reduceAdd]
    refine hK _ ?_; clear hK
    refine bwp_seq fun K1 hK1 => ?_
    refine bwp_block ?_
    have fin : ∀ (k : Int) (q rd' : Nat) (S : St), nextW s a = (⟨k, (s.drop p).take (q - p), p⟩, q, 0) → p ≤ q → q ≤ s.length → (rd ≤ rd' ∧ rd' ≤ s.length ∧ q ≤ rd' ∧ rd' ≤ max rd (q + 1)) → Leads (mbound [(0, lexC s a rd 0 0)]) 142 S (fnS s p q rd' k) → K1 S := by
      intro k q rd' S hn hq1 hq2 hb hS
      refine hK1 _ ?_; clear hK1
      refine bwp_leads hS ?_
      have hsl : (s.take q).drop p = (s.drop p).take (q - p) := by rw [List.drop_take]
      have i0 : (0 : Int) ≤ (p : Int) := Int.natCast_nonneg _
      have i1 : (0 : Int) ≤ (q : Int) := Int.natCast_nonneg _
      unfold fnS lexC
      refine bwp_seq fun K hK => bwp_region_draw rfl rfl ?_
      simp only [go_sem, ↓reduceIte, Nat.reduceEqDiff, Nat.reduceAdd, i0, i1, hq1, hq2, Int.toNat_natCast, hsl]
      refine ⟨rfl, hK _ ?_⟩; clear hK
      refine bwp_seq fun K hK => bwp_region rfl ?_
      simp only [go_sem, ↓reduceIte, Nat.reduceEqDiff, Nat.reduceAdd]
      refine hK _ ?_; clear hK
      refine bwp_ret ?_
      simp only [go_sem]
      refine aend_mem (nxR s a) [(0, 0)] [(0, lexC s q rd' 0 0)] ?_ rfl rfl ?_ ⟨_, rfl, rfl, rd', ⟨by omega, by omega, by rw [hn]; exact hb.2.2.1, fun _ => by rw [hn]; exact hb.2.2.2⟩, by unfold errAt; rw [hn]; rfl⟩
      · rw [nxR_ok hn]
        simp [resA, resVs, resV, fget, mget, mset, loadA, h34, h26]
      · simp [entM, pinv, mget, mset, renL, AV.ren, lexC]
    have kc := kind_pure c
    have hrun : ∀ q, q = runL (s.drop (p + 1)) → p + (1 + q) ≤ s.length := fun q h => by
      have := runL_le (s.drop (p + 1))
      rw [List.length_drop] at this
      omega
    have htk : ∀ q, (s.drop p).take (p + (1 + q) - p) = c :: (s.drop (p + 1)).take q := fun q => by
      rw [hd, show p + (1 + q) - p = q + 1 by omega, List.take_succ_cons]
    by_cases hlet : letB c = true
    · have hk2 := (kind_let c).2 hlet
      have haln : alnB c = true := by unfold alnB; rw [hlet]; rfl
      have hrl : runL (s.drop p) = 1 + runL (s.drop (p + 1)) := by rw [hd, runL, if_pos haln]
      rw [tokAt, if_pos hlet] at hnw
      refine bwp_seq fun K hK => bwp_region rfl ?_
      simp only [go_sem, ↓reduceIte, Nat.reduceEqDiff, Nat.reduceAdd]
      refine callK_pure kc rfl rfl ?_
      simp only [go_sem, ↓reduceIte, Nat.reduceEqDiff, Nat.reduceAdd, hk2]
      refine hK _ ?_; clear hK
      refine bwp_cond true (by simp [ev, fget]) (fun _ => ?_) (fun h => nomatch h)
      refine bwp_region rfl ?_
      simp only [go_sem, ↓reduceIte, Nat.reduceEqDiff, Nat.reduceAdd]
      refine run_callK hs (by omega) ⟨by omega, b3⟩ rfl ?_
      intro rd' hrd'
      rw [hrl] at hrd' ⊢
      unfold rdIn at hrd'
      have hq := hrun _ rfl
      have htq := htk (runL (s.drop (p + 1)))
      rw [← htq] at hnw
      have hq0 : p + 1 ≤ p + (1 + runL (s.drop (p + 1))) := by omega
      generalize p + (1 + runL (s.drop (p + 1))) = q at hnw hrd' hq hq0 ⊢
      simp only [go_sem, ↓reduceIte, Nat.reduceEqDiff, Nat.reduceAdd, Nat.reduceLeDiff, Nat.reduceMul, Int.reduceEq, lexC, mset]
      refine fin 1 q rd' _ hnw (by omega) hq (by omega) ?_
      exact Leads.ent [(0, 0), (1, 1), (2, 2), (6, 3)] ⟨by simp [entT, fget, AV.ren, renL, pget, fnS], by simp [entM, pinv, mget, mset, renL, AV.ren, fnS, lexC], rfl, rfl⟩
    · have hk2 : ¬ kindW c = 2 := fun h => hlet ((kind_let c).1 h)
      rw [tokAt, if_neg hlet] at hnw
      refine bwp_seq fun K hK => bwp_region rfl ?_
      simp only [go_sem, ↓reduceIte, Nat.reduceEqDiff, Nat.reduceAdd]
      refine callK_pure kc rfl rfl ?_
      simp only [go_sem, ↓reduceIte, Nat.reduceEqDiff, Nat.reduceAdd, hk2]
      refine hK _ ?_; clear hK
      refine bwp_cond false (by simp [ev, fget]) (fun h => nomatch h) (fun _ => ?_)
      have hH : ((s.drop (p + 1)).head?.map digB).getD false = digB (s.getD (p + 1) 0) := by
        rcases Nat.lt_or_ge (p + 1) s.length with h | h
        · rw [drop_at h]; rfl
        · rw [List.drop_eq_nil_of_le h, List.getD_eq_getElem?_getD, List.getElem?_eq_none h]; rfl
      have hw1 : IntKind.i64.wrap ((p : Int) + 1) = ((p + 1 : Nat) : Int) := by rw [wrap_i64 (by omega) (by omega)]; rfl
      rw [hH] at hnw
      refine bwp_seq fun K hK => bwp_region rfl ?_
      simp only [go_sem, ↓reduceIte, Nat.reduceEqDiff, Nat.reduceAdd]
      have yes : (digB c = true ∨ (c = 45 ∧ digB (s.getD (p + 1) 0) = true)) → ∀ (rd3 : Nat) (S : St), (rd ≤ rd3 ∧ p + 1 ≤ rd3 ∧ rd3 ≤ s.length ∧ rd3 ≤ max rd (p + 2)) → Leads (mbound [(0, lexC s a rd 0 0)]) 142 S (kdS s p rd3 c true) → K S := by
        intro hdg rd3 S hb hS
        rw [if_pos hdg] at hnw
        refine hK _ ?_; clear hK
        refine bwp_leads hS ?_
        unfold kdS lexC
        refine bwp_cond true (by simp [ev, fget]) (fun _ => ?_) (fun h => nomatch h)
        refine bwp_seq fun K hK => bwp_region rfl ?_
        simp only [go_sem, ↓reduceIte, Nat.reduceEqDiff, Nat.reduceAdd, hw1]
        refine run_callK hs (by omega) ⟨by omega, hb.2.2.1⟩ rfl ?_
        intro rd' hrd'
        unfold rdIn at hrd'
        have hq := hrun _ rfl
        have htq := htk (runL (s.drop (p + 1)))
        have hq0 : p + 1 ≤ p + (1 + runL (s.drop (p + 1))) := by omega
        have hql : (c :: (s.drop (p + 1)).take (runL (s.drop (p + 1)))).length ≤ 281474976710656 := by
          rw [List.length_cons, List.length_take, List.length_drop]
          omega
        have kp := parse_pure hql
        rw [← htq] at hnw kp
        rw [show p + 1 + runL (s.drop (p + 1)) = p + (1 + runL (s.drop (p + 1))) by omega] at hrd' ⊢
        generalize p + (1 + runL (s.drop (p + 1))) = q at hnw hrd' hq hq0 kp ⊢
        simp only [go_sem, ↓reduceIte, Nat.reduceEqDiff, Nat.reduceAdd, lexC, mset]
        refine hK _ ?_; clear hK
        have hsl : (s.take q).drop p = (s.drop p).take (q - p) := by rw [List.drop_take]
        have i0 : (0 : Int) ≤ (p : Int) := Int.natCast_nonneg _
        have i1 : (0 : Int) ≤ (q : Int) := Int.natCast_nonneg _
        have i2 : p ≤ q := by omega
        generalize hw : (s.drop p).take (q - p) = w at *
        generalize parseW w = pr at *
        obtain ⟨pn, pb⟩ := pr
        refine bwp_seq fun K hK => bwp_region_draw rfl rfl ?_
        simp only [go_sem, ↓reduceIte, Nat.reduceEqDiff, Nat.reduceAdd, i0, i1, i2, hq, Int.toNat_natCast, hsl]
        refine dCallK_pure kp rfl rfl ?_
        simp only [go_sem, ↓reduceIte, Nat.reduceEqDiff, Nat.reduceAdd]
        refine ⟨rfl, hK _ ?_⟩; clear hK
        cases pb with
        | true =>
          rw [if_pos rfl] at hnw
          refine bwp_seq fun K hK => bwp_region rfl ?_
          simp only [go_sem, ↓reduceIte, Nat.reduceEqDiff, Nat.reduceAdd]
          refine hK _ ?_; clear hK
          refine bwp_cond false (by simp [ev, fget]) (fun h => nomatch h) (fun _ => ?_)
          refine bwp_skip ?_
          simp only [go_sem, ↓reduceIte, Nat.reduceEqDiff, Nat.reduceAdd]
          refine fin 2 q rd' _ (by rw [hnw, hw]) (by omega) hq (by omega) ?_
          exact Leads.ent [(0, 0), (1, 1), (2, 2), (3, 3)] ⟨by simp [entT, fget, AV.ren, renL, pget, fnS], by simp [entM, pinv, mget, mset, renL, AV.ren, fnS, lexC], rfl, rfl⟩
        | false =>
          rw [if_neg (by exact Bool.false_ne_true)] at hnw
          refine bwp_seq fun K hK => bwp_region rfl ?_
          simp only [go_sem, ↓reduceIte, Nat.reduceEqDiff, Nat.reduceAdd]
          refine hK _ ?_; clear hK
          refine bwp_cond true (by simp [ev, fget]) (fun _ => ?_) (fun h => nomatch h)
          refine bwp_seq fun K hK => bwp_region rfl ?_
          simp only [go_sem, ↓reduceIte, Nat.reduceEqDiff, Nat.reduceAdd]
          refine fail_callK s p rd' 5 rfl ?_
          simp only [go_sem, ↓reduceIte, Nat.reduceEqDiff, Nat.reduceAdd, lexC, mset]
          refine hK _ ?_; clear hK
          refine bwp_ret ?_
          simp only [go_sem]
          refine aend_mem (nxR s a) [(0, 0)] [(0, lexC s p rd' 5 p)] ?_ rfl rfl ?_ ⟨_, rfl, rfl, rd', ⟨by omega, by omega, by rw [hnw]; simp only; omega, fun h => by rw [hnw] at h; cases h⟩, by unfold errAt; rw [hnw, hp]; rfl⟩
          · rw [nxR_bad (by decide) hnw, hp]
            simp [resA, resVs, resV, fget, mget, mset, loadA, h34, h26]
          · simp [entM, pinv, mget, mset, renL, AV.ren, lexC]
      have no : ¬ (digB c = true ∨ (c = 45 ∧ digB (s.getD (p + 1) 0) = true)) → ∀ (rd3 : Nat) (S : St), (rd ≤ rd3 ∧ p + 1 ≤ rd3 ∧ rd3 ≤ s.length ∧ rd3 ≤ max rd (p + 2)) → Leads (mbound [(0, lexC s a rd 0 0)]) 142 S (kdS s p rd3 c false) → K S := by
        intro hdg rd3 S hb hS
        rw [if_neg hdg] at hnw
        refine hK _ ?_; clear hK
        refine bwp_leads hS ?_
        unfold kdS lexC
        refine bwp_cond false (by simp [ev, fget]) (fun h => nomatch h) (fun _ => ?_)
        refine bwp_seq fun K hK => bwp_region rfl ?_
        simp only [go_sem, ↓reduceIte, Nat.reduceEqDiff, Nat.reduceAdd]
        refine sign_callK hs hlt ⟨by omega, hb.2.2.1⟩ rfl ?_
        intro rd' hrd'
        have hsl := signL_le (s.drop p)
        have hlw : ((s.drop p).take (signL (s.drop p))).length = signL (s.drop p) := by rw [List.length_take]; omega
        rw [List.length_drop] at hsl
        rw [← hd] at hnw
        generalize hk : signL (s.drop p) = k at *
        simp only [go_sem, ↓reduceIte, Nat.reduceEqDiff, Nat.reduceAdd, lexC, mset]
        refine hK _ ?_; clear hK
        refine bwp_seq fun K3 hK3 => ?_
        by_cases hk0 : k = 0
        · subst hk0
          rw [if_pos rfl] at hnw
          refine bwp_seq fun K hK => bwp_region rfl ?_
          simp only [go_sem, ↓reduceIte, Nat.reduceEqDiff, Nat.reduceAdd, List.take_zero]
          refine hK _ ?_; clear hK
          refine bwp_cond true (by simp [ev, fget]) (fun _ => ?_) (fun h => nomatch h)
          refine bwp_seq fun K hK => bwp_region rfl ?_
          simp only [go_sem, ↓reduceIte, Nat.reduceEqDiff, Nat.reduceAdd]
          refine fail_callK s p rd' 4 rfl ?_
          simp only [go_sem, ↓reduceIte, Nat.reduceEqDiff, Nat.reduceAdd, lexC, mset]
          refine hK _ ?_; clear hK
          refine bwp_ret ?_
          simp only [go_sem]
          refine aend_mem (nxR s a) [(0, 0)] [(0, lexC s p rd' 4 p)] ?_ rfl rfl ?_ ⟨_, rfl, rfl, rd', ⟨by omega, by omega, by rw [hnw]; simp only; omega, fun h => by rw [hnw] at h; cases h⟩, by unfold errAt; rw [hnw, hp]; rfl⟩
          · rw [nxR_bad (by decide) hnw, hp]
            simp [resA, resVs, resV, fget, mget, mset, loadA, h34, h26]
          · simp [entM, pinv, mget, mset, renL, AV.ren, lexC]
        · rw [if_neg hk0] at hnw
          have hne : ¬ (s.drop p).take k = [] := fun h => by rw [h] at hlw; simp at hlw; omega
          have hb2 := hrd'.2.2.2 hk0
          have hwk : IntKind.i64.wrap ((p : Int) + (k : Int)) = ((p + k : Nat) : Int) := by rw [wrap_i64 (by omega) (by omega)]; rfl
          have hqk : p + k - p = k := by omega
          have hpk1 : p + 1 ≤ p + k := by omega
          have hpk2 : p + k ≤ s.length := by omega
          generalize hw : (s.drop p).take k = w at *
          refine bwp_seq fun K hK => bwp_region rfl ?_
          simp only [go_sem, ↓reduceIte, Nat.reduceEqDiff, Nat.reduceAdd, hne]
          refine hK _ ?_; clear hK
          refine bwp_cond false (by simp [ev, fget]) (fun h => nomatch h) (fun _ => ?_)
          refine bwp_skip ?_
          refine hK3 _ ?_; clear hK3
          refine bwp_region_draw rfl rfl ?_
          simp only [go_sem, ↓reduceIte, Nat.reduceEqDiff, Nat.reduceAdd, Nat.reduceLeDiff, Nat.reduceMul, Int.reduceEq, hlw, hwk]
          refine ⟨rfl, fin 3 (p + k) rd' _ (by rw [hnw, hqk, hw]) (by omega) hpk2 (by omega) ?_⟩
          exact Leads.ent [(0, 0), (1, 1), (2, 2), (3, 3)] ⟨by simp [entT, fget, AV.ren, renL, pget, fnS], by simp [entM, pinv, mget, mset, renL, AV.ren, fnS, lexC], rfl, rfl⟩
      by_cases hdig : digB c = true
      · have hk3 := (kind_dig c).2 hdig
        refine callK_pure kc rfl rfl ?_
        simp only [go_sem, ↓reduceIte, Nat.reduceEqDiff, Nat.reduceAdd, hk3]
        refine yes (.inl hdig) rd2 _ (by omega) ?_
        exact Leads.ent [(0, 0), (1, 1), (2, 2), (6, 3)] ⟨by simp [entT, fget, AV.ren, renL, pget, kdS], by simp [entM, pinv, mget, mset, renL, AV.ren, kdS, lexC], rfl, rfl⟩
      · have hk3 : ¬ kindW c = 3 := fun h => hdig ((kind_dig c).1 h)
        refine callK_pure kc rfl rfl ?_
        by_cases h45 : (c.toNat : Int) = 45
        · have hc45 := u8eq (k := 45) h45
          simp only [go_sem, ↓reduceIte, Nat.reduceEqDiff, Nat.reduceAdd, Nat.reduceLeDiff, Nat.reduceMul, Int.reduceEq, hk3, h45, hw1]
          refine peek_callK hs p rd2 0 0 (p + 1) rfl ?_
          obtain ⟨rd3, hr3, q1, q2, q3⟩ : ∃ rd3, rdW s rd2 (p + 1) = rd3 ∧ rd2 ≤ rd3 ∧ rd3 ≤ s.length ∧ rd3 ≤ max rd (p + 2) := ⟨_, rfl, by unfold rdW; split <;> omega⟩
          rw [hr3]
          generalize hd2 : s.getD (p + 1) 0 = d at *
          have kd := kind_pure d
          simp only [go_sem, ↓reduceIte, Nat.reduceEqDiff, Nat.reduceAdd, lexC, mset]
          refine callK_pure kd rfl rfl ?_
          by_cases hdd : digB d = true
          · have hk4 := (kind_dig d).2 hdd
            simp only [go_sem, ↓reduceIte, Nat.reduceEqDiff, Nat.reduceAdd, hk4]
            refine yes (.inr ⟨hc45, hdd⟩) rd3 _ (by omega) ?_
            exact Leads.ent [(0, 0), (1, 1), (2, 2), (6, 3)] ⟨by simp [entT, fget, AV.ren, renL, pget, kdS, hc45], by simp [entM, pinv, mget, mset, renL, AV.ren, kdS, lexC], rfl, rfl⟩
          · have hk4 : ¬ kindW d = 3 := fun h => hdd ((kind_dig d).1 h)
            simp only [go_sem, ↓reduceIte, Nat.reduceEqDiff, Nat.reduceAdd, hk4]
            refine no (by rintro (h | ⟨_, h⟩); exact hdig h; exact hdd h) rd3 _ (by omega) ?_
            exact Leads.ent [(0, 0), (1, 1), (2, 2), (6, 3)] ⟨by simp [entT, fget, AV.ren, renL, pget, kdS, hc45], by simp [entM, pinv, mget, mset, renL, AV.ren, kdS, lexC], rfl, rfl⟩
        · have hc45 := u8ne (k := 45) h45
          simp only [go_sem, ↓reduceIte, Nat.reduceEqDiff, Nat.reduceAdd, hk3, h45]
          refine no (by rintro (h | ⟨h, _⟩); exact hdig h; exact hc45 h) rd2 _ (by omega) ?_
          exact Leads.ent [(0, 0), (1, 1), (2, 2), (6, 3)] ⟨by simp [entT, fget, AV.ren, renL, pget, kdS], by simp [entM, pinv, mget, mset, renL, AV.ren, kdS, lexC], rfl, rfl⟩
  · have he : p = s.length := by omega
    have hn : nextW s a = (⟨4, [], p⟩, p, 0) := by rw [hnw, he, List.drop_length]; rfl
    simp only [go_sem, ↓reduceIte, Nat.reduceEqDiff, Nat.reduceAdd, hlt, decide_false, lexC, mset]
    refine hK _ ?_; clear hK
    refine bwp_cond true (by simp [ev, fget]) (fun _ => ?_) (fun h => nomatch h)
    refine bwp_seq fun K hK => bwp_region rfl ?_
    simp only [go_sem, ↓reduceIte, Nat.reduceEqDiff, Nat.reduceAdd]
    refine hK _ ?_; clear hK
    refine bwp_ret ?_
    simp only [go_sem]
    refine aend_mem (nxR s a) [(0, 0)] [(0, lexC s p rd1 0 0)] ?_ rfl rfl ?_ ⟨_, rfl, rfl, rd1, ⟨by omega, by omega, by rw [hn]; simp only; omega, fun _ => by rw [hn]; simp only; omega⟩, by unfold errAt; rw [hn]; rfl⟩
    · rw [nxR_ok hn]
      simp [resA, resVs, resV, fget, mget, mset, loadA, h34, h26]
    · simp [entM, pinv, mget, mset, renL, AV.ren, lexC]

end Go.Proofs.YtpfbljkfbjjlkaaDoor

/- Tokens of certain texts: plain laws. -/
namespace Go.Proofs.YtpfbljkfbjjlkaaDoor
open Go Go.Jq
set_option maxRecDepth 100000
set_option linter.unusedSimpArgs false

end Go.Proofs.YtpfbljkfbjjlkaaDoor

/- The lexer: made, read, all tokens. -/
namespace Go.Proofs.YtpfbljkfbjjlkaaDoor
open Go Go.Jq
set_option maxRecDepth 100000
set_option linter.unusedSimpArgs false

theorem next_callK {s : List UInt8} (hs : s.length ≤ 140737488351232) {a rd : Nat} (ha : a ≤ s.length) (hr : a ≤ rd ∧ rd ≤ s.length) {j : Nat} {dst : Option Nat} {r : List AOper} {K : St → Prop} {t : Fr} {m : Mem} {n : Nat} (hm : mget m j = some (lexC s a rd 0 0))
    (hk : ∀ rd', (rd ≤ rd' ∧ rd' ≤ s.length ∧ (nextW s a).2.1 ≤ rd' ∧ ((nextW s a).2.2 = 0 → rd' ≤ max rd ((nextW s a).2.1 + 1))) →
      runOps Tryd.prog r ⟨putF t dst (nxR s a), mset m j (lexC s (nextW s a).2.1 rd' (nextW s a).2.2 (errAt s a)), n + 1⟩ K) : callK Tryd.prog 22 [.ptr j 0] dst r K t m n := by
  refine meth_callK (rest := []) (Q := nxQ s a rd) (next_calls hs ha hr) rfl rfl ?_ hm ?_
  · rintro _ _ ⟨rfl, rd', _, rfl⟩; exact ⟨nxR_in s a, rfl⟩
  · rintro _ _ ⟨rfl, rd', h, rfl⟩; exact hk rd' h

theorem new_calls (s : List UInt8) : ACalls Tryd.prog 20 [.d (.str s)] [] fun r m' => r = .ptr 0 0 ∧ m' = [(0, lexC s 0 0 0 0)] := by
  refine acalls_of Tryd.func20 ac20_ok Tryd.ntmps20 Tryd.results20 rfl ?_
  unfold ac20
  refine bwp_seq fun K hK => bwp_region rfl ?_
  simp only [go_sem, ↓reduceIte, Nat.reduceEqDiff, Nat.reduceAdd]
  refine hK _ ?_; clear hK
  refine bwp_seq fun K hK => bwp_region rfl ?_
  simp only [go_sem, ↓reduceIte, Nat.reduceEqDiff, Nat.reduceAdd]
  refine hK _ ?_; clear hK
  refine bwp_ret ?_
  simp only [go_sem]
  refine aend_mem (.ptr 0 0) [(0, 0)] [(0, lexC s 0 0 0 0)] ?_ rfl rfl ?_ ⟨rfl, rfl⟩
  · simp [resA, resVs, resV, fget]
  · simp [entM, pinv, mget, mset, renL, AV.ren, lexC]

theorem new_callK (s : List UInt8) {dst : Option Nat} {r : List AOper} {K : St → Prop} {t : Fr} {m : Mem} {n : Nat}
    (hk : runOps Tryd.prog r ⟨putF t dst (.ptr n 0), mset m n (lexC s 0 0 0 0), n + 1⟩ K) : callK Tryd.prog 20 [.d (.str s)] dst r K t m n := by
  refine callK_gen [] [.d (.str s)] [] (nb := 0) (new_calls s) rfl rfl rfl trivial rfl ?_
  rintro r0 m' ⟨rfl, rfl⟩
  have e1 : callMem [] [] [(0, lexC s 0 0 0 0)] n m = mset m n (lexC s 0 0 0 0) := by
    simp [callMem, updNew, updOld, mget, renL_noId _ (lexC_in s 0 0 0 0)]
  rw [e1]
  exact hk

def longV (s : List UInt8) : AV := if 4000 < s.length then .agg [.d (.int .i64 2), .d (.int .i64 4000)] else .agg [.d (.int .i64 0), .d (.int .i64 0)]

theorem long_pure (s : List UInt8) : Pure Tryd.prog 31 [.d (.str s)] (longV s) := by
  have h26 : ldk Tryd.prog 26 = some (some 2) := by kernel_rfl
  refine acalls_of Tryd.func31 ac31_ok Tryd.ntmps31 Tryd.results31 rfl ?_
  unfold ac31
  refine bwp_seq fun K hK => bwp_region rfl ?_
  simp only [go_sem, ↓reduceIte, Nat.reduceEqDiff, Nat.reduceAdd]
  refine hK _ ?_; clear hK
  refine bwp_seq fun K1 hK1 => ?_
  by_cases hl : 4000 < s.length
  · have hl' : (4000 : Int) < s.length := by omega
    refine bwp_seq fun K hK => bwp_region rfl ?_
    simp only [go_sem, ↓reduceIte, Nat.reduceEqDiff, Nat.reduceAdd, hl']
    refine hK _ ?_; clear hK
    refine bwp_cond true (by simp [ev, fget]) (fun _ => ?_) (fun h => nomatch h)
    refine bwp_seq fun K hK => bwp_region rfl ?_
    simp only [go_sem, ↓reduceIte, Nat.reduceEqDiff, Nat.reduceAdd]
    refine hK _ ?_; clear hK
    refine bwp_ret ?_
    simp only [go_sem, ↓reduceIte, Nat.reduceEqDiff, Nat.reduceAdd]
    refine aend_ret (longV s) ?_ (by unfold longV; rw [if_pos hl]; rfl) ⟨rfl, rfl⟩
    unfold longV
    rw [if_pos hl]
    simp [resA, resVs, resV, fget, mget, mset, loadA, h26]
  · have hl' : ¬ (4000 : Int) < s.length := by omega
    refine bwp_seq fun K hK => bwp_region rfl ?_
    simp only [go_sem, ↓reduceIte, Nat.reduceEqDiff, Nat.reduceAdd, hl']
    refine hK _ ?_; clear hK
    refine bwp_cond false (by simp [ev, fget]) (fun h => nomatch h) (fun _ => ?_)
    refine bwp_skip ?_
    refine hK1 _ ?_; clear hK1
    refine bwp_seq fun K hK => bwp_region rfl ?_
    simp only [go_sem, ↓reduceIte, Nat.reduceEqDiff, Nat.reduceAdd]
    refine hK _ ?_; clear hK
    refine bwp_ret ?_
    simp only [go_sem, ↓reduceIte, Nat.reduceEqDiff, Nat.reduceAdd]
    refine aend_ret (longV s) ?_ (by unfold longV; rw [if_neg hl]; rfl) ⟨rfl, rfl⟩
    unfold longV
    rw [if_neg hl]
    simp [resA, resVs, resV, fget, mget, mset, loadA, h26]

end Go.Proofs.YtpfbljkfbjjlkaaDoor

/- The parser's small methods, gone through. -/
namespace Go.Proofs.YtpfbljkfbjjlkaaDoor
open Go Go.Jq
set_option maxRecDepth 100000
set_option linter.unusedSimpArgs false

/-- A parser: the token that is looked at, the first error; its lexer: where it is, how far it has looked, its error. -/
structure PSt where
  tok : Tok
  code : Int
  eat : Nat
  la : Nat
  rd : Nat
  lc : Int
  le : Nat

def parC (q : PSt) : List AV := [.ptr 1 0, .d (.int .i64 q.tok.kd), .d (.str q.tok.tx), .d (.int .i64 q.tok.pl), .d (.int .i64 q.code), .d (.int .i64 q.eat)]
def lexQ (s : List UInt8) (q : PSt) : List AV := lexC s q.la q.rd q.lc q.le

/-- How a parser stands. -/
def PS (s : List UInt8) : PR Nat → PSt → Prop
  | .ok a, q => a ≤ s.length ∧ (nextW s a).2.2 = 0 ∧ q.tok = curT s a ∧ q.code = 0 ∧ q.eat = 0 ∧ q.la = (nextW s a).2.1 ∧ q.la ≤ q.rd ∧ q.rd ≤ s.length ∧ q.lc = 0 ∧ q.le = 0
  | .error e, q => q.code = e.1 ∧ e.1 ≠ 0 ∧ q.eat = e.2 ∧ (q.tok.kd = 1 → q.tok.tx ≠ []) ∧ q.tok.tx.length ≤ s.length

/-- What a method may leave, and come to. -/
def PQ {α : Type} (s : List UInt8) : PR (α × Nat) → α → PSt → Prop
  | .ok (y, b), x, q => y = x ∧ PS s (.ok b) q
  | .error e, _, q => PS s (.error e) q

def thn {β : Type} (σ : PR Nat) (f : Nat → PR β) : PR β := match σ with
  | .ok a => f a
  | .error e => .error e
def posR {α : Type} (τ : PR (α × Nat)) : PR Nat := match τ with
  | .ok p => .ok p.2
  | .error e => .error e

theorem PQ.ps {α : Type} {s : List UInt8} {τ : PR (α × Nat)} {x : α} {q : PSt} (h : PQ s τ x q) : PS s (posR τ) q := by
  cases τ with
  | ok p => exact h.2
  | error e => exact h

theorem PQ.bind {α β : Type} {s : List UInt8} {σ : PR Nat} {t : PT α} {f : α → PT β} {x : α} {y : β} {q q' : PSt} (h : PQ s (thn σ (t.run s)) x q) (h' : PQ s (thn (posR (thn σ (t.run s))) ((f x).run s)) y q') :
    PQ s (thn σ ((t.bind f).run s)) y q' := by
  cases σ with
  | error e => exact h'
  | ok a =>
    simp only [thn] at h h' ⊢
    rw [PT.run_bind]
    cases ht : t.run s a with
    | error e => rw [ht] at h'; exact h'
    | ok p =>
      obtain ⟨x', b⟩ := p
      rw [ht] at h h'
      obtain ⟨rfl, _⟩ := h
      exact h'

theorem PQ.ret {α : Type} {s : List UInt8} {σ : PR Nat} {x : α} {q : PSt} (h : PS s σ q) : PQ s (thn σ ((PT.ret x).run s)) x q := by
  cases σ with
  | error e => exact h
  | ok a => exact ⟨rfl, h⟩

theorem PQ.cur {α : Type} {s : List UInt8} {σ : PR Nat} {k : Int → List UInt8 → PT α} {y : α} {q q' : PSt} (h : PS s σ q) (h' : PQ s (thn σ ((k q.tok.kd q.tok.tx).run s)) y q') : PQ s (thn σ ((PT.cur k).run s)) y q' := by
  cases σ with
  | error e => exact h'
  | ok a =>
    obtain ⟨_, _, ht, _⟩ := h
    rw [ht] at h'
    exact h'

theorem PQ.eat {α : Type} {s : List UInt8} {σ : PR Nat} {k : PT α} {y : α} {q' : PSt} (h' : PQ s (thn (thn σ (eatW s)) (k.run s)) y q') : PQ s (thn σ ((PT.eat k).run s)) y q' := by
  cases σ with
  | error e => exact h'
  | ok a =>
    simp only [thn] at h' ⊢
    simp only [PT.run]
    cases he : eatW s a with
    | error e => rw [he] at h'; exact h'
    | ok b => rw [he] at h'; exact h'

/-- An error at the token, if there was none. -/
def failF (q : PSt) (c : Int) : PSt := if q.code = 0 then { q with code := c, eat := q.tok.pl } else q

theorem tokAt_word (a : Nat) (l : List UInt8) (h : (tokAt a l).1.kd = 1) : (tokAt a l).1.tx ≠ [] := by
  cases l with
  | nil => simp [tokAt] at h
  | cons c r =>
    rw [tokAt] at h ⊢
    split
    · simp
    · rename_i hc
      rw [if_neg hc] at h
      split
      · rename_i hd
        rw [if_pos hd] at h
        split
        · simp
        · rename_i hp
          rw [if_neg hp] at h
          simp [noTok] at h
      · rename_i hd
        rw [if_neg hd] at h
        split
        · rename_i hs
          rw [if_pos hs] at h
          simp [noTok] at h
        · rename_i hs
          rw [if_neg hs] at h
          simp at h

theorem curT_pos {s : List UInt8} {a : Nat} (ha : a ≤ s.length) (h : (nextW s a).2.2 = 0) : ((curT s a).kd = 1 → (curT s a).tx ≠ []) ∧ (curT s a).tx.length ≤ s.length := by
  have he : nextW s a = (curT s a, (nextW s a).2.1, 0) := by unfold curT; rw [← h]
  obtain ⟨p1, p2, p3, p4, p5, p6, p7⟩ := next_text ha he
  exact ⟨fun h1 => tokAt_word _ _ h1, by omega⟩

theorem PS.pos {s : List UInt8} {σ : PR Nat} {q : PSt} (h : PS s σ q) : (q.tok.kd = 1 → q.tok.tx ≠ []) ∧ q.tok.tx.length ≤ s.length := by
  cases σ with
  | error e => exact ⟨h.2.2.2.1, h.2.2.2.2⟩
  | ok a =>
    obtain ⟨h1, h2, h3, _⟩ := h
    rw [h3]
    exact curT_pos h1 h2

theorem PS.fail {s : List UInt8} {σ : PR Nat} {q : PSt} (h : PS s σ q) {c : Int} (hc : c ≠ 0) {α : Type} : PS s (posR (thn σ ((PT.bad c : PT α).run s))) (failF q c) := by
  have hp := h.pos
  cases σ with
  | error e =>
    obtain ⟨h1, h2, h3, h4, h5⟩ := h
    have : failF q c = q := by unfold failF; rw [if_neg (by rw [h1]; exact h2)]
    rw [this]
    exact ⟨h1, h2, h3, h4, h5⟩
  | ok a =>
    obtain ⟨h1, h2, h3, h4, h5⟩ := h
    have : failF q c = { q with code := c, eat := q.tok.pl } := by unfold failF; rw [if_pos h4]
    rw [this]
    exact ⟨rfl, hc, by simp only [h3], hp.1, hp.2⟩

theorem PQ.bad {α : Type} {s : List UInt8} {σ : PR Nat} {q : PSt} (h : PS s σ q) {c : Int} (hc : c ≠ 0) (y : α) : PQ s (thn σ ((PT.bad c : PT α).run s)) y (failF q c) := by
  have := h.fail hc (α := α)
  cases σ with
  | error e => exact this
  | ok a => exact this

/-- Whether a sign, or a word, stands there. -/
def tkB (q : PSt) (x : List UInt8) : Bool := decide (q.code = 0) && isK q.tok.kd q.tok.tx x

theorem PS.code {s : List UInt8} {a : Nat} {q : PSt} (h : PS s (.ok a) q) : q.code = 0 := h.2.2.2.1
theorem PS.codeE {s : List UInt8} {e : PE} {q : PSt} (h : PS s (.error e) q) : q.code ≠ 0 := by rw [h.1]; exact h.2.1

theorem PQ.take_yes {α : Type} {s : List UInt8} {σ : PR Nat} {q q' : PSt} {x : List UInt8} {yes no : PT α} {y : α} (h : PS s σ q) (hb : tkB q x = true) (h' : PQ s (thn (thn σ (eatW s)) (yes.run s)) y q') : PQ s (thn σ ((tTake x yes no).run s)) y q' := by
  unfold tkB at hb
  simp only [Bool.and_eq_true] at hb
  refine PQ.cur h ?_
  rw [if_pos hb.2]
  exact PQ.eat h'

theorem PQ.take_no {α : Type} {s : List UInt8} {σ : PR Nat} {q q' : PSt} {x : List UInt8} {yes no : PT α} {y : α} (h : PS s σ q) (hb : tkB q x = false) (h' : PQ s (thn σ (no.run s)) y q') : PQ s (thn σ ((tTake x yes no).run s)) y q' := by
  cases σ with
  | error e => exact h'
  | ok a =>
    refine PQ.cur h ?_
    have hk : isK q.tok.kd q.tok.tx x = false := by simpa [tkB, h.code] using hb
    rw [if_neg (by rw [hk]; decide)]
    exact h'

/-! ### A method with the parser's two own blocks -/

theorem parC_ren (π : Nat → Option Nat) (h : π 1 = some 1) (q : PSt) : renL π (parC q) = parC q := by simp [parC, renL, AV.ren, h]
theorem lexQ_ren (π : Nat → Option Nat) (s : List UInt8) (q : PSt) : renL π (lexQ s q) = lexQ s q := by simp [lexQ, lexC, renL, AV.ren]

theorem par_callK {P : Program} {f : Nat} {rest : List AV} {s : List UInt8} {q : PSt} {Q : AV → PSt → Prop}
    (h : ACalls P f (.ptr 0 0 :: rest) [(0, parC q), (1, lexQ s q)] fun r m' => ∃ q', m' = [(0, parC q'), (1, lexQ s q')] ∧ Q r q')
    (hr : inL (fun _ => none) rest = true) (hQ : ∀ r q', Q r q' → inB (fun _ => none) r = true)
    {dst : Option Nat} {ops : List AOper} {K : St → Prop} {t : Fr} {m : Mem} {n : Nat} (hm0 : mget m 0 = some (parC q)) (hm1 : mget m 1 = some (lexQ s q))
    (hk : ∀ r q', Q r q' → runOps P ops ⟨putF t dst r, mset (mset m 0 (parC q')) 1 (lexQ s q'), n + 2⟩ K) : callK P f (.ptr 0 0 :: rest) dst ops K t m n := by
  have e0 : pget [(0, 0), (1, 1)] 1 = some 1 := rfl
  have i0 : inL (pget [(0, 0), (1, 1)]) (parC q) = true := rfl
  have i1 : inL (pget [(0, 0), (1, 1)]) (lexQ s q) = true := rfl
  refine callK_gen [(0, 0), (1, 1)] (.ptr 0 0 :: rest) [(0, parC q), (1, lexQ s q)] (nb := 2) h rfl (by simp [renL, AV.ren, pget, renL_noId _ hr]) ?_ ?_ rfl ?_
  · simp only [inL, inB, Bool.and_eq_true]
    exact ⟨rfl, inL_mono (fun _ h => by cases h) _ hr⟩
  · refine ⟨?_, ?_, trivial⟩
    · show mget m 0 = some (renL (pget [(0, 0), (1, 1)]) (parC q)) ∧ _
      exact ⟨by rw [hm0, parC_ren _ e0], i0⟩
    · show mget m 1 = some (renL (pget [(0, 0), (1, 1)]) (lexQ s q)) ∧ _
      exact ⟨by rw [hm1, lexQ_ren], i1⟩
  · rintro r0 m' ⟨q', rfl, hq⟩
    have e1 : callMem [(0, 0), (1, 1)] [(0, parC q), (1, lexQ s q)] [(0, parC q'), (1, lexQ s q')] n m = mset (mset m 0 (parC q')) 1 (lexQ s q') := by
      have hp : renOf [(0, 0), (1, 1)] [(0, parC q), (1, lexQ s q)] [(0, parC q'), (1, lexQ s q')] n 1 = some 1 := rfl
      simp only [callMem, updNew, updOld, mget, if_true, Option.isSome_some]
      rw [parC_ren _ hp, lexQ_ren]
      rfl
    rw [e1, ren_noId _ (hQ _ _ hq)]
    exact hk _ _ hq

end Go.Proofs.YtpfbljkfbjjlkaaDoor

/- The parser's small methods: next, ok, fail, is, take, must. -/
namespace Go.Proofs.YtpfbljkfbjjlkaaDoor
open Go Go.Jq
set_option maxRecDepth 100000
set_option linter.unusedSimpArgs false

theorem curT_noTok {s : List UInt8} {a : Nat} (h : (nextW s a).2.2 ≠ 0) : nextW s a = (noTok, (nextW s a).2.1, (nextW s a).2.2) := by
  have := tokAt_bad (a := skipA s a) (l := s.drop (skipA s a)) h
  unfold nextW
  rw [← this]

set_option maxHeartbeats 4000000 in
theorem pnext_calls {s : List UInt8} (hs : s.length ≤ 140737488351232) {σ : PR Nat} {q : PSt} (h : PS s σ q) :
    ACalls Tryd.prog 44 [.ptr 0 0] [(0, parC q), (1, lexQ s q)] fun r m' => ∃ q', m' = [(0, parC q'), (1, lexQ s q')] ∧ (r = .tup [] ∧ PS s (thn σ (eatW s)) q') := by
  cases σ with
  | error e =>
    have hc := h.codeE
    refine acalls_of Tryd.func44 ac44_ok Tryd.ntmps44 Tryd.results44 rfl ?_
    unfold ac44
    refine bwp_seq fun K hK => bwp_region rfl ?_
    simp -implicitDefEqProofs only [go_sem, ↓reduceIte, Nat.reduceEqDiff, Nat.reduceAdd, Nat.reduceLeDiff, Nat.reduceMul, Nat.reduceSub, Int.reduceLE, Int.reduceLT, Int.reduceEq, Int.reduceToNat, Int.reducePow, Int.reduceNeg, parC, hc]
    refine hK _ ?_; clear hK
    refine bwp_cond false (by simp [ev, fget]) (fun h => nomatch h) (fun _ => ?_)
    refine bwp_skip ?_
    refine ⟨.tup [], rfl, [(0, 0), (1, 1)], [(0, parC q), (1, lexQ s q)], rfl, rfl, ?_, ⟨q, rfl, rfl, h⟩⟩
    simp [entM, pinv, mget, mset, renL, AV.ren, parC, lexQ, lexC, pget]
  | ok a =>
    obtain ⟨h1, h2, h3, h4, h5, h6, h7, h8, h9, h10⟩ := h
    obtain ⟨tok, code, eat, la, rd, lc, le⟩ := q
    simp only at h3 h4 h5 h6 h7 h8 h9 h10
    subst h4 h9 h10
    have hle := (nextW_to h1).2.1
    rw [← h6] at hle
    have hg : thn (.ok a) (eatW s) = goW s la := by unfold thn eatW; rw [h6]
    refine acalls_of Tryd.func44 ac44_ok Tryd.ntmps44 Tryd.results44 rfl ?_
    unfold ac44
    refine bwp_seq fun K hK => bwp_region rfl ?_
    simp -implicitDefEqProofs only [go_sem, ↓reduceIte, Nat.reduceEqDiff, Nat.reduceAdd, Nat.reduceLeDiff, Nat.reduceMul, Nat.reduceSub, Int.reduceLE, Int.reduceLT, Int.reduceEq, Int.reduceToNat, Int.reducePow, Int.reduceNeg, parC]
    refine hK _ ?_; clear hK
    refine bwp_cond true (by simp [ev, fget]) (fun _ => ?_) (fun h => nomatch h)
    refine bwp_region rfl ?_
    simp -implicitDefEqProofs only [go_sem, ↓reduceIte, Nat.reduceEqDiff, Nat.reduceAdd, Nat.reduceLeDiff, Nat.reduceMul, Nat.reduceSub, Int.reduceLE, Int.reduceLT, Int.reduceEq, Int.reduceToNat, Int.reducePow, Int.reduceNeg]
    refine next_callK hs hle ⟨h7, h8⟩ rfl ?_
    intro rd' hrd'
    by_cases h0 : (nextW s la).2.2 = 0
    · have he : nextW s la = ((nextW s la).1, (nextW s la).2.1, 0) := by rw [← h0]
      have hee : errAt s la = 0 := by unfold errAt; rw [if_pos h0]
      have hgo : goW s la = .ok la := by unfold goW; rw [if_pos h0]
      rw [nxR_ok he, hee, h0]
      have hto := (nextW_to hle).2.1
      simp -implicitDefEqProofs only [go_sem, ↓reduceIte, Nat.reduceEqDiff, Nat.reduceAdd, Nat.reduceLeDiff, Nat.reduceMul, Nat.reduceSub, Int.reduceLE, Int.reduceLT, Int.reduceEq, Int.reduceToNat, Int.reducePow, Int.reduceNeg, mset, lexQ, lexC]
      refine ⟨.tup [], rfl, [(0, 0), (1, 1)], [(0, parC ⟨(nextW s la).1, 0, 0, (nextW s la).2.1, rd', 0, 0⟩), (1, lexQ s ⟨(nextW s la).1, 0, 0, (nextW s la).2.1, rd', 0, 0⟩)], rfl, rfl, ?_, ⟨_, rfl, rfl, ?_⟩⟩
      · simp [entM, pinv, mget, mset, renL, AV.ren, parC, lexQ, lexC, pget]
      · rw [hg, hgo]
        exact ⟨hle, h0, rfl, rfl, rfl, rfl, hrd'.2.2.1, hrd'.2.1, rfl, rfl⟩
    · have hbad := curT_noTok h0
      have hgo : goW s la = .error ((nextW s la).2.2, skipA s la) := by unfold goW; rw [if_neg h0]
      have hee : errAt s la = skipA s la := by unfold errAt; rw [if_neg h0]
      rw [nxR_bad h0 hbad, hee]
      simp -implicitDefEqProofs only [go_sem, ↓reduceIte, Nat.reduceEqDiff, Nat.reduceAdd, Nat.reduceLeDiff, Nat.reduceMul, Nat.reduceSub, Int.reduceLE, Int.reduceLT, Int.reduceEq, Int.reduceToNat, Int.reducePow, Int.reduceNeg, mset, lexQ, lexC]
      refine ⟨.tup [], rfl, [(0, 0), (1, 1)], [(0, parC ⟨noTok, (nextW s la).2.2, skipA s la, (nextW s la).2.1, rd', (nextW s la).2.2, skipA s la⟩), (1, lexQ s ⟨noTok, (nextW s la).2.2, skipA s la, (nextW s la).2.1, rd', (nextW s la).2.2, skipA s la⟩)], rfl, rfl, ?_, ⟨_, rfl, rfl, ?_⟩⟩
      · simp [entM, pinv, mget, mset, renL, AV.ren, parC, lexQ, lexC, pget, noTok]
      · rw [hg, hgo]
        exact ⟨rfl, h0, rfl, (fun h => by cases h), Nat.zero_le _⟩

theorem pnext_callK {s : List UInt8} (hs : s.length ≤ 140737488351232) {σ : PR Nat} {q : PSt} (h : PS s σ q) {dst : Option Nat} {ops : List AOper} {K : St → Prop} {t : Fr} {m : Mem} {n : Nat} (hm0 : mget m 0 = some (parC q)) (hm1 : mget m 1 = some (lexQ s q))
    (hk : ∀ q', PS s (thn σ (eatW s)) q' → runOps Tryd.prog ops ⟨putF t dst (.tup []), mset (mset m 0 (parC q')) 1 (lexQ s q'), n + 2⟩ K) : callK Tryd.prog 44 [.ptr 0 0] dst ops K t m n := by
  refine par_callK (rest := []) (Q := fun r q' => r = .tup [] ∧ PS s (thn σ (eatW s)) q') (pnext_calls hs h) rfl ?_ hm0 hm1 ?_
  · rintro _ _ ⟨rfl, _⟩; rfl
  · rintro _ q' ⟨rfl, h⟩; exact hk q' h

/-- Methods that only look. -/
theorem pok_calls (s : List UInt8) (q : PSt) : ACalls Tryd.prog 51 [.ptr 0 0] [(0, parC q), (1, lexQ s q)] fun r m' => ∃ q', m' = [(0, parC q'), (1, lexQ s q')] ∧ (r = .d (.bool (decide (q.code = 0))) ∧ q' = q) := by
  refine acalls_of Tryd.func51 ac51_ok Tryd.ntmps51 Tryd.results51 rfl ?_
  unfold ac51
  refine bwp_seq fun K hK => bwp_region rfl ?_
  simp -implicitDefEqProofs only [go_sem, ↓reduceIte, Nat.reduceEqDiff, Nat.reduceAdd, Nat.reduceLeDiff, Nat.reduceMul, Nat.reduceSub, Int.reduceLE, Int.reduceLT, Int.reduceEq, Int.reduceToNat, Int.reducePow, Int.reduceNeg]
  refine hK _ ?_; clear hK
  refine bwp_seq fun K hK => bwp_region rfl ?_
  simp -implicitDefEqProofs only [go_sem, ↓reduceIte, Nat.reduceEqDiff, Nat.reduceAdd, Nat.reduceLeDiff, Nat.reduceMul, Nat.reduceSub, Int.reduceLE, Int.reduceLT, Int.reduceEq, Int.reduceToNat, Int.reducePow, Int.reduceNeg, parC]
  refine hK _ ?_; clear hK
  refine bwp_ret ?_
  simp only [go_sem]
  refine aend_mem (.d (.bool (decide (q.code = 0)))) [(0, 0), (1, 1)] [(0, parC q), (1, lexQ s q)] ?_ rfl rfl ?_ ⟨q, rfl, rfl, rfl⟩
  · simp [resA, resVs, resV, fget]
  · simp [entM, pinv, mget, mset, renL, AV.ren, parC, lexQ, lexC, pget]

theorem pok_callK (s : List UInt8) (q : PSt) {dst : Option Nat} {ops : List AOper} {K : St → Prop} {t : Fr} {m : Mem} {n : Nat} (hm0 : mget m 0 = some (parC q)) (hm1 : mget m 1 = some (lexQ s q))
    (hk : runOps Tryd.prog ops ⟨putF t dst (.d (.bool (decide (q.code = 0)))), mset (mset m 0 (parC q)) 1 (lexQ s q), n + 2⟩ K) : callK Tryd.prog 51 [.ptr 0 0] dst ops K t m n := by
  refine par_callK (rest := []) (Q := fun r q' => r = .d (.bool (decide (q.code = 0))) ∧ q' = q) (pok_calls s q) rfl ?_ hm0 hm1 ?_
  · rintro _ _ ⟨rfl, _⟩; rfl
  · rintro _ q' ⟨rfl, rfl⟩; exact hk

theorem pfail_calls (s : List UInt8) (q : PSt) (c : Int) : ACalls Tryd.prog 52 [.ptr 0 0, .d (.int .i64 c)] [(0, parC q), (1, lexQ s q)] fun r m' => ∃ q', m' = [(0, parC q'), (1, lexQ s q')] ∧ (r = .tup [] ∧ q' = failF q c) := by
  by_cases h : q.code = 0
  · have hf : failF q c = { q with code := c, eat := q.tok.pl } := by unfold failF; rw [if_pos h]
    rw [hf]
    refine acalls_of Tryd.func52 ac52_ok Tryd.ntmps52 Tryd.results52 rfl ?_
    unfold ac52
    refine bwp_seq fun K hK => bwp_region rfl ?_
    simp -implicitDefEqProofs only [go_sem, ↓reduceIte, Nat.reduceEqDiff, Nat.reduceAdd, Nat.reduceLeDiff, Nat.reduceMul, Nat.reduceSub, Int.reduceLE, Int.reduceLT, Int.reduceEq, Int.reduceToNat, Int.reducePow, Int.reduceNeg, parC, h]
    refine hK _ ?_; clear hK
    refine bwp_cond true (by simp [ev, fget]) (fun _ => ?_) (fun h => nomatch h)
    refine bwp_region rfl ?_
    simp -implicitDefEqProofs only [go_sem, ↓reduceIte, Nat.reduceEqDiff, Nat.reduceAdd, Nat.reduceLeDiff, Nat.reduceMul, Nat.reduceSub, Int.reduceLE, Int.reduceLT, Int.reduceEq, Int.reduceToNat, Int.reducePow, Int.reduceNeg]
    refine ⟨.tup [], rfl, [(0, 0), (1, 1)], [(0, parC { q with code := c, eat := q.tok.pl }), (1, lexQ s { q with code := c, eat := q.tok.pl })], rfl, rfl, ?_, ⟨_, rfl, rfl, rfl⟩⟩
    simp [entM, pinv, mget, mset, renL, AV.ren, parC, lexQ, lexC, pget]
  · have hf : failF q c = q := by unfold failF; rw [if_neg h]
    rw [hf]
    refine acalls_of Tryd.func52 ac52_ok Tryd.ntmps52 Tryd.results52 rfl ?_
    unfold ac52
    refine bwp_seq fun K hK => bwp_region rfl ?_
    simp -implicitDefEqProofs only [go_sem, ↓reduceIte, Nat.reduceEqDiff, Nat.reduceAdd, Nat.reduceLeDiff, Nat.reduceMul, Nat.reduceSub, Int.reduceLE, Int.reduceLT, Int.reduceEq, Int.reduceToNat, Int.reducePow, Int.reduceNeg, parC, h]
    refine hK _ ?_; clear hK
    refine bwp_cond false (by simp [ev, fget]) (fun h => nomatch h) (fun _ => ?_)
    refine bwp_skip ?_
    refine ⟨.tup [], rfl, [(0, 0), (1, 1)], [(0, parC q), (1, lexQ s q)], rfl, rfl, ?_, ⟨_, rfl, rfl, rfl⟩⟩
    simp [entM, pinv, mget, mset, renL, AV.ren, parC, lexQ, lexC, pget]

theorem pfail_callK (s : List UInt8) (q : PSt) (c : Int) {dst : Option Nat} {ops : List AOper} {K : St → Prop} {t : Fr} {m : Mem} {n : Nat} (hm0 : mget m 0 = some (parC q)) (hm1 : mget m 1 = some (lexQ s q))
    (hk : runOps Tryd.prog ops ⟨putF t dst (.tup []), mset (mset m 0 (parC (failF q c))) 1 (lexQ s (failF q c)), n + 2⟩ K) : callK Tryd.prog 52 [.ptr 0 0, .d (.int .i64 c)] dst ops K t m n := by
  refine par_callK (rest := [.d (.int .i64 c)]) (Q := fun r q' => r = .tup [] ∧ q' = failF q c) (pfail_calls s q c) rfl ?_ hm0 hm1 ?_
  · rintro _ _ ⟨rfl, _⟩; rfl
  · rintro _ q' ⟨rfl, rfl⟩; exact hk

set_option maxHeartbeats 4000000 in
theorem pis_calls (s : List UInt8) (q : PSt) (x : List UInt8) : ACalls Tryd.prog 71 [.ptr 0 0, .d (.str x)] [(0, parC q), (1, lexQ s q)] fun r m' => ∃ q', m' = [(0, parC q'), (1, lexQ s q')] ∧ (r = .d (.bool (tkB q x)) ∧ q' = q) := by
  refine acalls_of Tryd.func71 ac71_ok Tryd.ntmps71 Tryd.results71 rfl ?_
  unfold ac71
  refine bwp_seq fun K hK => bwp_region rfl ?_
  simp -implicitDefEqProofs only [go_sem, ↓reduceIte, Nat.reduceEqDiff, Nat.reduceAdd, Nat.reduceLeDiff, Nat.reduceMul, Nat.reduceSub, Int.reduceLE, Int.reduceLT, Int.reduceEq, Int.reduceToNat, Int.reducePow, Int.reduceNeg]
  refine hK _ ?_; clear hK
  have fin : ∀ (t : Fr) (n : Nat), fget t 4 = .d (.bool (tkB q x)) → AEnd Tryd.prog #[.tmp 4] (mbound [(0, parC q), (1, lexQ s q)]) (fun r m' => ∃ q', m' = [(0, parC q'), (1, lexQ s q')] ∧ (r = .d (.bool (tkB q x)) ∧ q' = q)) .ret ⟨t, [(0, parC q), (1, lexQ s q)], n⟩ := by
    intro t n ht
    refine aend_mem (.d (.bool (tkB q x))) [(0, 0), (1, 1)] [(0, parC q), (1, lexQ s q)] ?_ rfl rfl ?_ ⟨q, rfl, rfl, rfl⟩
    · simp [resA, resVs, resV, ht]
    · simp [entM, pinv, mget, mset, renL, AV.ren, parC, lexQ, lexC, pget]
  refine bwp_seq fun K hK => bwp_region rfl ?_
  simp -implicitDefEqProofs only [go_sem, ↓reduceIte, Nat.reduceEqDiff, Nat.reduceAdd, Nat.reduceLeDiff, Nat.reduceMul, Nat.reduceSub, Int.reduceLE, Int.reduceLT, Int.reduceEq, Int.reduceToNat, Int.reducePow, Int.reduceNeg]
  refine pok_callK s q rfl rfl ?_
  by_cases h0 : q.code = 0
  · by_cases h3 : q.tok.kd = 3
    · simp -implicitDefEqProofs only [go_sem, ↓reduceIte, Nat.reduceEqDiff, Nat.reduceAdd, Nat.reduceLeDiff, Nat.reduceMul, Nat.reduceSub, Int.reduceLE, Int.reduceLT, Int.reduceEq, Int.reduceToNat, Int.reducePow, Int.reduceNeg, mset, eq_true h0, eq_true h3, parC, decide_true]
      refine hK _ ?_; clear hK
      refine bwp_ret ?_
      simp -implicitDefEqProofs only [go_sem, ↓reduceIte, Nat.reduceEqDiff, Nat.reduceAdd, Nat.reduceLeDiff, Nat.reduceMul, Nat.reduceSub, Int.reduceLE, Int.reduceLT, Int.reduceEq, Int.reduceToNat, Int.reducePow, Int.reduceNeg]
      exact fin _ _ (by simp [fget, tkB, isK, h0, h3])
    · by_cases h1 : q.tok.kd = 1
      · simp -implicitDefEqProofs only [go_sem, ↓reduceIte, Nat.reduceEqDiff, Nat.reduceAdd, Nat.reduceLeDiff, Nat.reduceMul, Nat.reduceSub, Int.reduceLE, Int.reduceLT, Int.reduceEq, Int.reduceToNat, Int.reducePow, Int.reduceNeg, mset, eq_true h0, eq_true h1, eq_false h3, parC, decide_true]
        refine hK _ ?_; clear hK
        refine bwp_ret ?_
        simp -implicitDefEqProofs only [go_sem, ↓reduceIte, Nat.reduceEqDiff, Nat.reduceAdd, Nat.reduceLeDiff, Nat.reduceMul, Nat.reduceSub, Int.reduceLE, Int.reduceLT, Int.reduceEq, Int.reduceToNat, Int.reducePow, Int.reduceNeg]
        exact fin _ _ (by simp [fget, tkB, isK, h0, h1])
      · simp -implicitDefEqProofs only [go_sem, ↓reduceIte, Nat.reduceEqDiff, Nat.reduceAdd, Nat.reduceLeDiff, Nat.reduceMul, Nat.reduceSub, Int.reduceLE, Int.reduceLT, Int.reduceEq, Int.reduceToNat, Int.reducePow, Int.reduceNeg, mset, eq_true h0, eq_false h1, eq_false h3, parC, decide_true]
        refine hK _ ?_; clear hK
        refine bwp_ret ?_
        simp -implicitDefEqProofs only [go_sem, ↓reduceIte, Nat.reduceEqDiff, Nat.reduceAdd, Nat.reduceLeDiff, Nat.reduceMul, Nat.reduceSub, Int.reduceLE, Int.reduceLT, Int.reduceEq, Int.reduceToNat, Int.reducePow, Int.reduceNeg]
        exact fin _ _ (by simp [fget, tkB, isK, h0, h1, h3])
  · simp -implicitDefEqProofs only [go_sem, ↓reduceIte, Nat.reduceEqDiff, Nat.reduceAdd, Nat.reduceLeDiff, Nat.reduceMul, Nat.reduceSub, Int.reduceLE, Int.reduceLT, Int.reduceEq, Int.reduceToNat, Int.reducePow, Int.reduceNeg, mset, eq_false h0, parC, decide_false]
    refine hK _ ?_; clear hK
    refine bwp_ret ?_
    simp -implicitDefEqProofs only [go_sem, ↓reduceIte, Nat.reduceEqDiff, Nat.reduceAdd, Nat.reduceLeDiff, Nat.reduceMul, Nat.reduceSub, Int.reduceLE, Int.reduceLT, Int.reduceEq, Int.reduceToNat, Int.reducePow, Int.reduceNeg]
    exact fin _ _ (by simp [fget, tkB, h0])

theorem pis_callK (s : List UInt8) (q : PSt) (x : List UInt8) {dst : Option Nat} {ops : List AOper} {K : St → Prop} {t : Fr} {m : Mem} {n : Nat} (hm0 : mget m 0 = some (parC q)) (hm1 : mget m 1 = some (lexQ s q))
    (hk : runOps Tryd.prog ops ⟨putF t dst (.d (.bool (tkB q x))), mset (mset m 0 (parC q)) 1 (lexQ s q), n + 2⟩ K) : callK Tryd.prog 71 [.ptr 0 0, .d (.str x)] dst ops K t m n := by
  refine par_callK (rest := [.d (.str x)]) (Q := fun r q' => r = .d (.bool (tkB q x)) ∧ q' = q) (pis_calls s q x) rfl ?_ hm0 hm1 ?_
  · rintro _ _ ⟨rfl, _⟩; rfl
  · rintro _ q' ⟨rfl, rfl⟩; exact hk

/-- What take leaves. -/
def tkQ (s : List UInt8) (σ : PR Nat) (q : PSt) (x : List UInt8) (r : AV) (q' : PSt) : Prop :=
  r = .d (.bool (tkB q x)) ∧ (tkB q x = true → PS s (thn σ (eatW s)) q') ∧ (tkB q x = false → q' = q)

theorem ptake_calls {s : List UInt8} (hs : s.length ≤ 140737488351232) {σ : PR Nat} {q : PSt} (h : PS s σ q) (x : List UInt8) :
    ACalls Tryd.prog 47 [.ptr 0 0, .d (.str x)] [(0, parC q), (1, lexQ s q)] fun r m' => ∃ q', m' = [(0, parC q'), (1, lexQ s q')] ∧ tkQ s σ q x r q' := by
  refine acalls_of Tryd.func47 ac47_ok Tryd.ntmps47 Tryd.results47 rfl ?_
  unfold ac47
  refine bwp_seq fun K hK => bwp_region rfl ?_
  simp -implicitDefEqProofs only [go_sem, ↓reduceIte, Nat.reduceEqDiff, Nat.reduceAdd, Nat.reduceLeDiff, Nat.reduceMul, Nat.reduceSub, Int.reduceLE, Int.reduceLT, Int.reduceEq, Int.reduceToNat, Int.reducePow, Int.reduceNeg]
  refine hK _ ?_; clear hK
  refine bwp_seq fun K1 hK1 => ?_
  refine bwp_seq fun K hK => bwp_region rfl ?_
  simp -implicitDefEqProofs only [go_sem, ↓reduceIte, Nat.reduceEqDiff, Nat.reduceAdd, Nat.reduceLeDiff, Nat.reduceMul, Nat.reduceSub, Int.reduceLE, Int.reduceLT, Int.reduceEq, Int.reduceToNat, Int.reducePow, Int.reduceNeg]
  refine pis_callK s q x rfl rfl ?_
  cases hb : tkB q x with
  | false =>
    simp -implicitDefEqProofs only [go_sem, ↓reduceIte, Nat.reduceEqDiff, Nat.reduceAdd, Nat.reduceLeDiff, Nat.reduceMul, Nat.reduceSub, Int.reduceLE, Int.reduceLT, Int.reduceEq, Int.reduceToNat, Int.reducePow, Int.reduceNeg, mset]
    refine hK _ ?_; clear hK
    refine bwp_cond true (by simp [ev, fget]) (fun _ => ?_) (fun h => nomatch h)
    refine bwp_seq fun K hK => bwp_region rfl ?_
    simp -implicitDefEqProofs only [go_sem, ↓reduceIte, Nat.reduceEqDiff, Nat.reduceAdd, Nat.reduceLeDiff, Nat.reduceMul, Nat.reduceSub, Int.reduceLE, Int.reduceLT, Int.reduceEq, Int.reduceToNat, Int.reducePow, Int.reduceNeg]
    refine hK _ ?_; clear hK
    refine bwp_ret ?_
    simp only [go_sem]
    refine aend_mem (.d (.bool false)) [(0, 0), (1, 1)] [(0, parC q), (1, lexQ s q)] ?_ rfl rfl ?_ ⟨q, rfl, by rw [hb]; rfl, (fun h => by rw [hb] at h; cases h), fun _ => rfl⟩
    · simp [resA, resVs, resV, fget]
    · simp [entM, pinv, mget, mset, renL, AV.ren, parC, lexQ, lexC, pget]
  | true =>
    simp -implicitDefEqProofs only [go_sem, ↓reduceIte, Nat.reduceEqDiff, Nat.reduceAdd, Nat.reduceLeDiff, Nat.reduceMul, Nat.reduceSub, Int.reduceLE, Int.reduceLT, Int.reduceEq, Int.reduceToNat, Int.reducePow, Int.reduceNeg, mset]
    refine hK _ ?_; clear hK
    refine bwp_cond false (by simp [ev, fget]) (fun h => nomatch h) (fun _ => ?_)
    refine bwp_skip ?_
    refine hK1 _ ?_; clear hK1
    refine bwp_seq fun K hK => bwp_region rfl ?_
    simp -implicitDefEqProofs only [go_sem, ↓reduceIte, Nat.reduceEqDiff, Nat.reduceAdd, Nat.reduceLeDiff, Nat.reduceMul, Nat.reduceSub, Int.reduceLE, Int.reduceLT, Int.reduceEq, Int.reduceToNat, Int.reducePow, Int.reduceNeg]
    refine pnext_callK hs h rfl rfl ?_
    intro q' hq'
    simp -implicitDefEqProofs only [go_sem, ↓reduceIte, Nat.reduceEqDiff, Nat.reduceAdd, Nat.reduceLeDiff, Nat.reduceMul, Nat.reduceSub, Int.reduceLE, Int.reduceLT, Int.reduceEq, Int.reduceToNat, Int.reducePow, Int.reduceNeg, mset]
    refine hK _ ?_; clear hK
    refine bwp_seq fun K hK => bwp_region rfl ?_
    simp -implicitDefEqProofs only [go_sem, ↓reduceIte, Nat.reduceEqDiff, Nat.reduceAdd, Nat.reduceLeDiff, Nat.reduceMul, Nat.reduceSub, Int.reduceLE, Int.reduceLT, Int.reduceEq, Int.reduceToNat, Int.reducePow, Int.reduceNeg]
    refine hK _ ?_; clear hK
    refine bwp_ret ?_
    simp only [go_sem]
    refine aend_mem (.d (.bool true)) [(0, 0), (1, 1)] [(0, parC q'), (1, lexQ s q')] ?_ rfl rfl ?_ ⟨q', rfl, by rw [hb]; rfl, fun _ => hq', (fun h => by rw [hb] at h; cases h)⟩
    · simp [resA, resVs, resV, fget]
    · simp [entM, pinv, mget, mset, renL, AV.ren, parC, lexQ, lexC, pget]

theorem ptake_callK {s : List UInt8} (hs : s.length ≤ 140737488351232) {σ : PR Nat} {q : PSt} (h : PS s σ q) (x : List UInt8) {dst : Option Nat} {ops : List AOper} {K : St → Prop} {t : Fr} {m : Mem} {n : Nat} (hm0 : mget m 0 = some (parC q)) (hm1 : mget m 1 = some (lexQ s q))
    (hk : ∀ q', (tkB q x = true → PS s (thn σ (eatW s)) q') → (tkB q x = false → q' = q) → runOps Tryd.prog ops ⟨putF t dst (.d (.bool (tkB q x))), mset (mset m 0 (parC q')) 1 (lexQ s q'), n + 2⟩ K) : callK Tryd.prog 47 [.ptr 0 0, .d (.str x)] dst ops K t m n := by
  refine par_callK (rest := [.d (.str x)]) (ptake_calls hs h x) rfl ?_ hm0 hm1 ?_
  · rintro _ _ ⟨rfl, _⟩; rfl
  · rintro _ q' ⟨rfl, h1, h2⟩; exact hk q' h1 h2

theorem pmust_calls {s : List UInt8} (hs : s.length ≤ 140737488351232) {σ : PR Nat} {q : PSt} (h : PS s σ q) (x : List UInt8) :
    ACalls Tryd.prog 45 [.ptr 0 0, .d (.str x)] [(0, parC q), (1, lexQ s q)] fun r m' => ∃ q', m' = [(0, parC q'), (1, lexQ s q')] ∧ (r = .tup [] ∧ PQ s (thn σ ((tMust x).run s)) () q') := by
  refine acalls_of Tryd.func45 ac45_ok Tryd.ntmps45 Tryd.results45 rfl ?_
  unfold ac45
  refine bwp_seq fun K hK => bwp_region rfl ?_
  simp -implicitDefEqProofs only [go_sem, ↓reduceIte, Nat.reduceEqDiff, Nat.reduceAdd, Nat.reduceLeDiff, Nat.reduceMul, Nat.reduceSub, Int.reduceLE, Int.reduceLT, Int.reduceEq, Int.reduceToNat, Int.reducePow, Int.reduceNeg]
  refine ptake_callK hs h x rfl rfl ?_
  intro q' hy hn
  cases hb : tkB q x with
  | false =>
    have hq := hn hb
    subst hq
    simp -implicitDefEqProofs only [go_sem, ↓reduceIte, Nat.reduceEqDiff, Nat.reduceAdd, Nat.reduceLeDiff, Nat.reduceMul, Nat.reduceSub, Int.reduceLE, Int.reduceLT, Int.reduceEq, Int.reduceToNat, Int.reducePow, Int.reduceNeg, mset]
    refine hK _ ?_; clear hK
    refine bwp_cond true (by simp [ev, fget]) (fun _ => ?_) (fun h => nomatch h)
    refine bwp_region rfl ?_
    simp -implicitDefEqProofs only [go_sem, ↓reduceIte, Nat.reduceEqDiff, Nat.reduceAdd, Nat.reduceLeDiff, Nat.reduceMul, Nat.reduceSub, Int.reduceLE, Int.reduceLT, Int.reduceEq, Int.reduceToNat, Int.reducePow, Int.reduceNeg]
    refine pfail_callK s q' 6 rfl rfl ?_
    simp -implicitDefEqProofs only [go_sem, ↓reduceIte, Nat.reduceEqDiff, Nat.reduceAdd, Nat.reduceLeDiff, Nat.reduceMul, Nat.reduceSub, Int.reduceLE, Int.reduceLT, Int.reduceEq, Int.reduceToNat, Int.reducePow, Int.reduceNeg, mset]
    refine ⟨.tup [], rfl, [(0, 0), (1, 1)], [(0, parC (failF q' 6)), (1, lexQ s (failF q' 6))], rfl, rfl, ?_, ⟨_, rfl, rfl, ?_⟩⟩
    · simp [entM, pinv, mget, mset, renL, AV.ren, parC, lexQ, lexC, pget]
    · exact PQ.take_no (x := x) (yes := .ret ()) h hb (PQ.bad h (by decide) ())
  | true =>
    have hq := hy hb
    simp -implicitDefEqProofs only [go_sem, ↓reduceIte, Nat.reduceEqDiff, Nat.reduceAdd, Nat.reduceLeDiff, Nat.reduceMul, Nat.reduceSub, Int.reduceLE, Int.reduceLT, Int.reduceEq, Int.reduceToNat, Int.reducePow, Int.reduceNeg, mset]
    refine hK _ ?_; clear hK
    refine bwp_cond false (by simp [ev, fget]) (fun h => nomatch h) (fun _ => ?_)
    refine bwp_skip ?_
    refine ⟨.tup [], rfl, [(0, 0), (1, 1)], [(0, parC q'), (1, lexQ s q')], rfl, rfl, ?_, ⟨_, rfl, rfl, ?_⟩⟩
    · simp [entM, pinv, mget, mset, renL, AV.ren, parC, lexQ, lexC, pget]
    · exact PQ.take_yes (x := x) (no := .bad 6) h hb (PQ.ret hq)

theorem pmust_callK {s : List UInt8} (hs : s.length ≤ 140737488351232) {σ : PR Nat} {q : PSt} (h : PS s σ q) (x : List UInt8) {dst : Option Nat} {ops : List AOper} {K : St → Prop} {t : Fr} {m : Mem} {n : Nat} (hm0 : mget m 0 = some (parC q)) (hm1 : mget m 1 = some (lexQ s q))
    (hk : ∀ q', PQ s (thn σ ((tMust x).run s)) () q' → runOps Tryd.prog ops ⟨putF t dst (.tup []), mset (mset m 0 (parC q')) 1 (lexQ s q'), n + 2⟩ K) : callK Tryd.prog 45 [.ptr 0 0, .d (.str x)] dst ops K t m n := by
  refine par_callK (rest := [.d (.str x)]) (Q := fun r q' => r = .tup [] ∧ PQ s (thn σ ((tMust x).run s)) () q') (pmust_calls hs h x) rfl ?_ hm0 hm1 ?_
  · rintro _ _ ⟨rfl, _⟩; rfl
  · rintro _ q' ⟨rfl, h⟩; exact hk q' h

end Go.Proofs.YtpfbljkfbjjlkaaDoor

/- The parser's words, numbers, names, operands. -/
namespace Go.Proofs.YtpfbljkfbjjlkaaDoor
open Go Go.Jq
set_option maxRecDepth 100000
set_option linter.unusedSimpArgs false

theorem failF_code {q : PSt} {c : Int} (hc : c ≠ 0) : (failF q c).code ≠ 0 := by
  unfold failF
  split
  · exact hc
  · assumption

set_option maxHeartbeats 4000000 in
theorem pword_calls {s : List UInt8} (hs : s.length ≤ 140737488351232) {σ : PR Nat} {q : PSt} (h : PS s σ q) :
    ACalls Tryd.prog 46 [.ptr 0 0] [(0, parC q), (1, lexQ s q)] fun r m' => ∃ q', m' = [(0, parC q'), (1, lexQ s q')] ∧ ∃ x, r = .d (.str x) ∧ PQ s (thn σ (tWord.run s)) x q' := by
  refine acalls_of Tryd.func46 ac46_ok Tryd.ntmps46 Tryd.results46 rfl ?_
  unfold ac46
  refine bwp_seq fun K hK => bwp_region rfl ?_
  simp -implicitDefEqProofs only [go_sem, ↓reduceIte, Nat.reduceEqDiff, Nat.reduceAdd, Nat.reduceLeDiff, Nat.reduceMul, Nat.reduceSub, Int.reduceLE, Int.reduceLT, Int.reduceEq, Int.reduceToNat, Int.reducePow, Int.reduceNeg]
  refine hK _ ?_; clear hK
  refine bwp_seq fun K hK => bwp_region rfl ?_
  simp -implicitDefEqProofs only [go_sem, ↓reduceIte, Nat.reduceEqDiff, Nat.reduceAdd, Nat.reduceLeDiff, Nat.reduceMul, Nat.reduceSub, Int.reduceLE, Int.reduceLT, Int.reduceEq, Int.reduceToNat, Int.reducePow, Int.reduceNeg, parC]
  refine hK _ ?_; clear hK
  refine bwp_seq fun K1 hK1 => ?_
  by_cases h1 : q.tok.kd = 1
  · refine bwp_seq fun K hK => bwp_region rfl ?_
    simp -implicitDefEqProofs only [go_sem, ↓reduceIte, Nat.reduceEqDiff, Nat.reduceAdd, Nat.reduceLeDiff, Nat.reduceMul, Nat.reduceSub, Int.reduceLE, Int.reduceLT, Int.reduceEq, Int.reduceToNat, Int.reducePow, Int.reduceNeg, eq_true h1]
    refine hK _ ?_; clear hK
    refine bwp_cond false (by simp [ev, fget]) (fun h => nomatch h) (fun _ => ?_)
    refine bwp_skip ?_
    refine hK1 _ ?_; clear hK1
    refine bwp_seq fun K hK => bwp_region rfl ?_
    simp -implicitDefEqProofs only [go_sem, ↓reduceIte, Nat.reduceEqDiff, Nat.reduceAdd, Nat.reduceLeDiff, Nat.reduceMul, Nat.reduceSub, Int.reduceLE, Int.reduceLT, Int.reduceEq, Int.reduceToNat, Int.reducePow, Int.reduceNeg]
    refine pnext_callK hs h rfl rfl ?_
    intro q' hq'
    simp -implicitDefEqProofs only [go_sem, ↓reduceIte, Nat.reduceEqDiff, Nat.reduceAdd, Nat.reduceLeDiff, Nat.reduceMul, Nat.reduceSub, Int.reduceLE, Int.reduceLT, Int.reduceEq, Int.reduceToNat, Int.reducePow, Int.reduceNeg, mset]
    refine hK _ ?_; clear hK
    refine bwp_seq fun K hK => bwp_region rfl ?_
    simp -implicitDefEqProofs only [go_sem, ↓reduceIte, Nat.reduceEqDiff, Nat.reduceAdd, Nat.reduceLeDiff, Nat.reduceMul, Nat.reduceSub, Int.reduceLE, Int.reduceLT, Int.reduceEq, Int.reduceToNat, Int.reducePow, Int.reduceNeg]
    refine hK _ ?_; clear hK
    refine bwp_ret ?_
    simp only [go_sem]
    refine aend_mem (.d (.str q.tok.tx)) [(0, 0), (1, 1)] [(0, parC q'), (1, lexQ s q')] ?_ rfl rfl ?_ ⟨q', rfl, q.tok.tx, rfl, ?_⟩
    · simp [resA, resVs, resV, fget]
    · simp [entM, pinv, mget, mset, renL, AV.ren, parC, lexQ, lexC, pget]
    · refine PQ.cur h ?_
      rw [if_pos h1]
      exact PQ.eat (PQ.ret hq')
  · refine bwp_seq fun K hK => bwp_region rfl ?_
    simp -implicitDefEqProofs only [go_sem, ↓reduceIte, Nat.reduceEqDiff, Nat.reduceAdd, Nat.reduceLeDiff, Nat.reduceMul, Nat.reduceSub, Int.reduceLE, Int.reduceLT, Int.reduceEq, Int.reduceToNat, Int.reducePow, Int.reduceNeg, eq_false h1]
    refine hK _ ?_; clear hK
    refine bwp_cond true (by simp [ev, fget]) (fun _ => ?_) (fun h => nomatch h)
    refine bwp_seq fun K hK => bwp_region rfl ?_
    simp -implicitDefEqProofs only [go_sem, ↓reduceIte, Nat.reduceEqDiff, Nat.reduceAdd, Nat.reduceLeDiff, Nat.reduceMul, Nat.reduceSub, Int.reduceLE, Int.reduceLT, Int.reduceEq, Int.reduceToNat, Int.reducePow, Int.reduceNeg]
    refine pfail_callK s q 6 rfl rfl ?_
    simp -implicitDefEqProofs only [go_sem, ↓reduceIte, Nat.reduceEqDiff, Nat.reduceAdd, Nat.reduceLeDiff, Nat.reduceMul, Nat.reduceSub, Int.reduceLE, Int.reduceLT, Int.reduceEq, Int.reduceToNat, Int.reducePow, Int.reduceNeg, mset]
    refine hK _ ?_; clear hK
    refine bwp_seq fun K hK => bwp_region rfl ?_
    simp -implicitDefEqProofs only [go_sem, ↓reduceIte, Nat.reduceEqDiff, Nat.reduceAdd, Nat.reduceLeDiff, Nat.reduceMul, Nat.reduceSub, Int.reduceLE, Int.reduceLT, Int.reduceEq, Int.reduceToNat, Int.reducePow, Int.reduceNeg]
    refine hK _ ?_; clear hK
    refine bwp_ret ?_
    simp only [go_sem]
    refine aend_mem (.d (.str [])) [(0, 0), (1, 1)] [(0, parC (failF q 6)), (1, lexQ s (failF q 6))] ?_ rfl rfl ?_ ⟨_, rfl, [], rfl, ?_⟩
    · simp [resA, resVs, resV, fget]
    · simp [entM, pinv, mget, mset, renL, AV.ren, parC, lexQ, lexC, pget]
    · refine PQ.cur h ?_
      rw [if_neg h1]
      exact PQ.bad h (by decide) []

theorem pword_callK {s : List UInt8} (hs : s.length ≤ 140737488351232) {σ : PR Nat} {q : PSt} (h : PS s σ q) {dst : Option Nat} {ops : List AOper} {K : St → Prop} {t : Fr} {m : Mem} {n : Nat} (hm0 : mget m 0 = some (parC q)) (hm1 : mget m 1 = some (lexQ s q))
    (hk : ∀ x q', PQ s (thn σ (tWord.run s)) x q' → runOps Tryd.prog ops ⟨putF t dst (.d (.str x)), mset (mset m 0 (parC q')) 1 (lexQ s q'), n + 2⟩ K) : callK Tryd.prog 46 [.ptr 0 0] dst ops K t m n := by
  refine par_callK (rest := []) (Q := fun r q' => ∃ x, r = .d (.str x) ∧ PQ s (thn σ (tWord.run s)) x q') (pword_calls hs h) rfl ?_ hm0 hm1 ?_
  · rintro _ _ ⟨_, rfl, _⟩; rfl
  · rintro _ q' ⟨x, rfl, h⟩; exact hk x q' h

set_option maxHeartbeats 4000000 in
theorem pnum_calls {s : List UInt8} (hs : s.length ≤ 140737488351232) {σ : PR Nat} {q : PSt} (h : PS s σ q) :
    ACalls Tryd.prog 74 [.ptr 0 0] [(0, parC q), (1, lexQ s q)] fun r m' => ∃ q', m' = [(0, parC q'), (1, lexQ s q')] ∧ ∃ x, r = .d (.int .i64 x) ∧ PQ s (thn σ (tNum.run s)) x q' := by
  have hp := h.pos
  have kp := parse_pure (s := q.tok.tx) (by omega)
  refine acalls_of Tryd.func74 ac74_ok Tryd.ntmps74 Tryd.results74 rfl ?_
  unfold ac74
  refine bwp_seq fun K hK => bwp_region rfl ?_
  simp -implicitDefEqProofs only [go_sem, ↓reduceIte, Nat.reduceEqDiff, Nat.reduceAdd, Nat.reduceLeDiff, Nat.reduceMul, Nat.reduceSub, Int.reduceLE, Int.reduceLT, Int.reduceEq, Int.reduceToNat, Int.reducePow, Int.reduceNeg]
  refine hK _ ?_; clear hK
  refine bwp_seq fun K1 hK1 => ?_
  by_cases h1 : q.tok.kd = 2
  · refine bwp_seq fun K hK => bwp_region rfl ?_
    simp -implicitDefEqProofs only [go_sem, ↓reduceIte, Nat.reduceEqDiff, Nat.reduceAdd, Nat.reduceLeDiff, Nat.reduceMul, Nat.reduceSub, Int.reduceLE, Int.reduceLT, Int.reduceEq, Int.reduceToNat, Int.reducePow, Int.reduceNeg, parC, eq_true h1]
    refine hK _ ?_; clear hK
    refine bwp_cond false (by simp [ev, fget]) (fun h => nomatch h) (fun _ => ?_)
    refine bwp_skip ?_
    refine hK1 _ ?_; clear hK1
    refine bwp_seq fun K1 hK1 => ?_
    refine bwp_seq fun K hK => bwp_region rfl ?_
    simp -implicitDefEqProofs only [go_sem, ↓reduceIte, Nat.reduceEqDiff, Nat.reduceAdd, Nat.reduceLeDiff, Nat.reduceMul, Nat.reduceSub, Int.reduceLE, Int.reduceLT, Int.reduceEq, Int.reduceToNat, Int.reducePow, Int.reduceNeg]
    refine pok_callK s q rfl rfl ?_
    cases σ with
    | error e =>
      have hc := h.codeE
      simp -implicitDefEqProofs only [go_sem, ↓reduceIte, Nat.reduceEqDiff, Nat.reduceAdd, Nat.reduceLeDiff, Nat.reduceMul, Nat.reduceSub, Int.reduceLE, Int.reduceLT, Int.reduceEq, Int.reduceToNat, Int.reducePow, Int.reduceNeg, mset, hc]
      refine hK _ ?_; clear hK
      refine bwp_cond true (by simp [ev, fget]) (fun _ => ?_) (fun h => nomatch h)
      refine bwp_seq fun K hK => bwp_region rfl ?_
      simp -implicitDefEqProofs only [go_sem, ↓reduceIte, Nat.reduceEqDiff, Nat.reduceAdd, Nat.reduceLeDiff, Nat.reduceMul, Nat.reduceSub, Int.reduceLE, Int.reduceLT, Int.reduceEq, Int.reduceToNat, Int.reducePow, Int.reduceNeg]
      refine hK _ ?_; clear hK
      refine bwp_ret ?_
      simp only [go_sem]
      refine aend_mem (.d (.int .i64 0)) [(0, 0), (1, 1)] [(0, parC q), (1, lexQ s q)] ?_ rfl rfl ?_ ⟨q, rfl, 0, rfl, h⟩
      · simp [resA, resVs, resV, fget]
      · simp [entM, pinv, mget, mset, renL, AV.ren, parC, lexQ, lexC, pget]
    | ok a =>
      have hc := h.code
      simp -implicitDefEqProofs only [go_sem, ↓reduceIte, Nat.reduceEqDiff, Nat.reduceAdd, Nat.reduceLeDiff, Nat.reduceMul, Nat.reduceSub, Int.reduceLE, Int.reduceLT, Int.reduceEq, Int.reduceToNat, Int.reducePow, Int.reduceNeg, mset, hc]
      refine hK _ ?_; clear hK
      refine bwp_cond false (by simp [ev, fget]) (fun h => nomatch h) (fun _ => ?_)
      refine bwp_skip ?_
      refine hK1 _ ?_; clear hK1
      refine bwp_seq fun K hK => bwp_region rfl ?_
      simp -implicitDefEqProofs only [go_sem, ↓reduceIte, Nat.reduceEqDiff, Nat.reduceAdd, Nat.reduceLeDiff, Nat.reduceMul, Nat.reduceSub, Int.reduceLE, Int.reduceLT, Int.reduceEq, Int.reduceToNat, Int.reducePow, Int.reduceNeg, parC]
      repeat' (first
        | (refine gateK_split (fun hb => ?_) (fun hb => ?_) <;> simp -implicitDefEqProofs only [go_sem, ↓reduceIte, Nat.reduceEqDiff, Nat.reduceAdd, Nat.reduceLeDiff, Nat.reduceMul, Nat.reduceSub, Int.reduceLE, Int.reduceLT, Int.reduceEq, Int.reduceToNat, Int.reducePow, Int.reduceNeg, hb])
        | (refine dGateK_split (fun hb => ?_) (fun hb => ?_) <;> simp -implicitDefEqProofs only [go_sem, ↓reduceIte, Nat.reduceEqDiff, Nat.reduceAdd, Nat.reduceLeDiff, Nat.reduceMul, Nat.reduceSub, Int.reduceLE, Int.reduceLT, Int.reduceEq, Int.reduceToNat, Int.reducePow, Int.reduceNeg, hb])
        | (refine callK_pure (kp) rfl rfl ?_; simp -implicitDefEqProofs only [go_sem, ↓reduceIte, Nat.reduceEqDiff, Nat.reduceAdd, Nat.reduceLeDiff, Nat.reduceMul, Nat.reduceSub, Int.reduceLE, Int.reduceLT, Int.reduceEq, Int.reduceToNat, Int.reducePow, Int.reduceNeg])
        | (refine dCallK_pure (kp) rfl rfl ?_; simp -implicitDefEqProofs only [go_sem, ↓reduceIte, Nat.reduceEqDiff, Nat.reduceAdd, Nat.reduceLeDiff, Nat.reduceMul, Nat.reduceSub, Int.reduceLE, Int.reduceLT, Int.reduceEq, Int.reduceToNat, Int.reducePow, Int.reduceNeg])
        | (rw [if_pos (by (try simp only [List.length_append, List.length_cons, List.length_nil, List.length_map]); omega)]; simp -implicitDefEqProofs only [go_sem, ↓reduceIte, Nat.reduceEqDiff, Nat.reduceAdd, Nat.reduceLeDiff, Nat.reduceMul, Nat.reduceSub, Int.reduceLE, Int.reduceLT, Int.reduceEq, Int.reduceToNat, Int.reducePow, Int.reduceNeg]))
      refine hK _ ?_; clear hK
      refine bwp_seq fun K hK => bwp_region rfl ?_
      simp -implicitDefEqProofs only [go_sem, ↓reduceIte, Nat.reduceEqDiff, Nat.reduceAdd, Nat.reduceLeDiff, Nat.reduceMul, Nat.reduceSub, Int.reduceLE, Int.reduceLT, Int.reduceEq, Int.reduceToNat, Int.reducePow, Int.reduceNeg]
      refine pnext_callK hs h rfl rfl ?_
      intro q' hq'
      simp -implicitDefEqProofs only [go_sem, ↓reduceIte, Nat.reduceEqDiff, Nat.reduceAdd, Nat.reduceLeDiff, Nat.reduceMul, Nat.reduceSub, Int.reduceLE, Int.reduceLT, Int.reduceEq, Int.reduceToNat, Int.reducePow, Int.reduceNeg, mset]
      refine hK _ ?_; clear hK
      refine bwp_seq fun K hK => bwp_region rfl ?_
      simp -implicitDefEqProofs only [go_sem, ↓reduceIte, Nat.reduceEqDiff, Nat.reduceAdd, Nat.reduceLeDiff, Nat.reduceMul, Nat.reduceSub, Int.reduceLE, Int.reduceLT, Int.reduceEq, Int.reduceToNat, Int.reducePow, Int.reduceNeg]
      refine hK _ ?_; clear hK
      refine bwp_ret ?_
      simp only [go_sem]
      refine aend_mem (.d (.int .i64 (parseW q.tok.tx).1)) [(0, 0), (1, 1)] [(0, parC q'), (1, lexQ s q')] ?_ rfl rfl ?_ ⟨q', rfl, _, rfl, ?_⟩
      · simp [resA, resVs, resV, fget]
      · simp [entM, pinv, mget, mset, renL, AV.ren, parC, lexQ, lexC, pget]
      · refine PQ.cur h ?_
        rw [if_pos h1]
        exact PQ.eat (PQ.ret hq')
  · refine bwp_seq fun K hK => bwp_region rfl ?_
    simp -implicitDefEqProofs only [go_sem, ↓reduceIte, Nat.reduceEqDiff, Nat.reduceAdd, Nat.reduceLeDiff, Nat.reduceMul, Nat.reduceSub, Int.reduceLE, Int.reduceLT, Int.reduceEq, Int.reduceToNat, Int.reducePow, Int.reduceNeg, parC, eq_false h1]
    refine hK _ ?_; clear hK
    refine bwp_cond true (by simp [ev, fget]) (fun _ => ?_) (fun h => nomatch h)
    refine bwp_region rfl ?_
    simp -implicitDefEqProofs only [go_sem, ↓reduceIte, Nat.reduceEqDiff, Nat.reduceAdd, Nat.reduceLeDiff, Nat.reduceMul, Nat.reduceSub, Int.reduceLE, Int.reduceLT, Int.reduceEq, Int.reduceToNat, Int.reducePow, Int.reduceNeg]
    refine pfail_callK s q 6 rfl rfl ?_
    have hc : (failF q 6).code ≠ 0 := failF_code (by decide)
    simp -implicitDefEqProofs only [go_sem, ↓reduceIte, Nat.reduceEqDiff, Nat.reduceAdd, Nat.reduceLeDiff, Nat.reduceMul, Nat.reduceSub, Int.reduceLE, Int.reduceLT, Int.reduceEq, Int.reduceToNat, Int.reducePow, Int.reduceNeg, mset]
    refine hK1 _ ?_; clear hK1
    refine bwp_seq fun K1 hK1 => ?_
    refine bwp_seq fun K hK => bwp_region rfl ?_
    simp -implicitDefEqProofs only [go_sem, ↓reduceIte, Nat.reduceEqDiff, Nat.reduceAdd, Nat.reduceLeDiff, Nat.reduceMul, Nat.reduceSub, Int.reduceLE, Int.reduceLT, Int.reduceEq, Int.reduceToNat, Int.reducePow, Int.reduceNeg]
    refine pok_callK s (failF q 6) rfl rfl ?_
    simp -implicitDefEqProofs only [go_sem, ↓reduceIte, Nat.reduceEqDiff, Nat.reduceAdd, Nat.reduceLeDiff, Nat.reduceMul, Nat.reduceSub, Int.reduceLE, Int.reduceLT, Int.reduceEq, Int.reduceToNat, Int.reducePow, Int.reduceNeg, mset, hc]
    refine hK _ ?_; clear hK
    refine bwp_cond true (by simp [ev, fget]) (fun _ => ?_) (fun h => nomatch h)
    refine bwp_seq fun K hK => bwp_region rfl ?_
    simp -implicitDefEqProofs only [go_sem, ↓reduceIte, Nat.reduceEqDiff, Nat.reduceAdd, Nat.reduceLeDiff, Nat.reduceMul, Nat.reduceSub, Int.reduceLE, Int.reduceLT, Int.reduceEq, Int.reduceToNat, Int.reducePow, Int.reduceNeg]
    refine hK _ ?_; clear hK
    refine bwp_ret ?_
    simp only [go_sem]
    refine aend_mem (.d (.int .i64 0)) [(0, 0), (1, 1)] [(0, parC (failF q 6)), (1, lexQ s (failF q 6))] ?_ rfl rfl ?_ ⟨_, rfl, 0, rfl, ?_⟩
    · simp [resA, resVs, resV, fget]
    · simp [entM, pinv, mget, mset, renL, AV.ren, parC, lexQ, lexC, pget]
    · refine PQ.cur h ?_
      rw [if_neg h1]
      exact PQ.bad h (by decide) 0

theorem pnum_callK {s : List UInt8} (hs : s.length ≤ 140737488351232) {σ : PR Nat} {q : PSt} (h : PS s σ q) {dst : Option Nat} {ops : List AOper} {K : St → Prop} {t : Fr} {m : Mem} {n : Nat} (hm0 : mget m 0 = some (parC q)) (hm1 : mget m 1 = some (lexQ s q))
    (hk : ∀ x q', PQ s (thn σ (tNum.run s)) x q' → runOps Tryd.prog ops ⟨putF t dst (.d (.int .i64 x)), mset (mset m 0 (parC q')) 1 (lexQ s q'), n + 2⟩ K) : callK Tryd.prog 74 [.ptr 0 0] dst ops K t m n := by
  refine par_callK (rest := []) (Q := fun r q' => ∃ x, r = .d (.int .i64 x) ∧ PQ s (thn σ (tNum.run s)) x q') (pnum_calls hs h) rfl ?_ hm0 hm1 ?_
  · rintro _ _ ⟨_, rfl, _⟩; rfl
  · rintro _ q' ⟨x, rfl, h⟩; exact hk x q' h

set_option maxHeartbeats 4000000 in
theorem pnamed_calls {s : List UInt8} (hs : s.length ≤ 140737488351232) {σ : PR Nat} {q : PSt} (h : PS s σ q) {g : Nat} (hg : goesB Tryd.prog g = true) {f : List UInt8 → Option Int} {v : List UInt8 → Int} (hv : ∀ x n, f x = some n → v x = n)
    (hp : ∀ x : List UInt8, x ≠ [] → Pure Tryd.prog g [.d (.str x)] (.tup [.d (.int .i64 (v x)), .d (.bool (f x).isSome)])) :
    ACalls Tryd.prog 72 [.ptr 0 0, .fn g []] [(0, parC q), (1, lexQ s q)] fun r m' => ∃ q', m' = [(0, parC q'), (1, lexQ s q')] ∧ ∃ x, r = .d (.int .i64 x) ∧ PQ s (thn σ ((tNamed f).run s)) x q' := by
  have hpos := h.pos
  refine acalls_of Tryd.func72 ac72_ok Tryd.ntmps72 Tryd.results72 rfl ?_
  unfold ac72
  refine bwp_seq fun K hK => bwp_region rfl ?_
  simp -implicitDefEqProofs only [go_sem, ↓reduceIte, Nat.reduceEqDiff, Nat.reduceAdd, Nat.reduceLeDiff, Nat.reduceMul, Nat.reduceSub, Int.reduceLE, Int.reduceLT, Int.reduceEq, Int.reduceToNat, Int.reducePow, Int.reduceNeg]
  refine hK _ ?_; clear hK
  refine bwp_seq fun K1 hK1 => ?_
  by_cases h1 : q.tok.kd = 1
  · have kp := hp q.tok.tx (hpos.1 h1)
    refine bwp_seq fun K hK => bwp_region rfl ?_
    simp -implicitDefEqProofs only [go_sem, ↓reduceIte, Nat.reduceEqDiff, Nat.reduceAdd, Nat.reduceLeDiff, Nat.reduceMul, Nat.reduceSub, Int.reduceLE, Int.reduceLT, Int.reduceEq, Int.reduceToNat, Int.reducePow, Int.reduceNeg, parC, eq_true h1]
    refine hK _ ?_; clear hK
    refine bwp_cond false (by simp [ev, fget]) (fun h => nomatch h) (fun _ => ?_)
    refine bwp_skip ?_
    refine hK1 _ ?_; clear hK1
    refine bwp_seq fun K hK => bwp_region rfl ?_
    simp -implicitDefEqProofs only [go_sem, ↓reduceIte, Nat.reduceEqDiff, Nat.reduceAdd, Nat.reduceLeDiff, Nat.reduceMul, Nat.reduceSub, Int.reduceLE, Int.reduceLT, Int.reduceEq, Int.reduceToNat, Int.reducePow, Int.reduceNeg]
    refine ⟨hg, ?_⟩
    refine callK_pure kp rfl rfl ?_
    simp -implicitDefEqProofs only [go_sem, ↓reduceIte, Nat.reduceEqDiff, Nat.reduceAdd, Nat.reduceLeDiff, Nat.reduceMul, Nat.reduceSub, Int.reduceLE, Int.reduceLT, Int.reduceEq, Int.reduceToNat, Int.reducePow, Int.reduceNeg]
    refine hK _ ?_; clear hK
    refine bwp_seq fun K1 hK1 => ?_
    cases hf : f q.tok.tx with
    | none =>
      refine bwp_seq fun K hK => bwp_region rfl ?_
      simp -implicitDefEqProofs only [go_sem, ↓reduceIte, Nat.reduceEqDiff, Nat.reduceAdd, Nat.reduceLeDiff, Nat.reduceMul, Nat.reduceSub, Int.reduceLE, Int.reduceLT, Int.reduceEq, Int.reduceToNat, Int.reducePow, Int.reduceNeg, Option.isSome_none]
      refine hK _ ?_; clear hK
      refine bwp_cond true (by simp [ev, fget]) (fun _ => ?_) (fun h => nomatch h)
      refine bwp_seq fun K hK => bwp_region rfl ?_
      simp -implicitDefEqProofs only [go_sem, ↓reduceIte, Nat.reduceEqDiff, Nat.reduceAdd, Nat.reduceLeDiff, Nat.reduceMul, Nat.reduceSub, Int.reduceLE, Int.reduceLT, Int.reduceEq, Int.reduceToNat, Int.reducePow, Int.reduceNeg]
      refine pfail_callK s q 7 rfl rfl ?_
      simp -implicitDefEqProofs only [go_sem, ↓reduceIte, Nat.reduceEqDiff, Nat.reduceAdd, Nat.reduceLeDiff, Nat.reduceMul, Nat.reduceSub, Int.reduceLE, Int.reduceLT, Int.reduceEq, Int.reduceToNat, Int.reducePow, Int.reduceNeg, mset]
      refine hK _ ?_; clear hK
      refine bwp_seq fun K hK => bwp_region rfl ?_
      simp -implicitDefEqProofs only [go_sem, ↓reduceIte, Nat.reduceEqDiff, Nat.reduceAdd, Nat.reduceLeDiff, Nat.reduceMul, Nat.reduceSub, Int.reduceLE, Int.reduceLT, Int.reduceEq, Int.reduceToNat, Int.reducePow, Int.reduceNeg]
      refine hK _ ?_; clear hK
      refine bwp_ret ?_
      simp only [go_sem]
      refine aend_mem (.d (.int .i64 0)) [(0, 0), (1, 1)] [(0, parC (failF q 7)), (1, lexQ s (failF q 7))] ?_ rfl rfl ?_ ⟨_, rfl, 0, rfl, ?_⟩
      · simp [resA, resVs, resV, fget]
      · simp [entM, pinv, mget, mset, renL, AV.ren, parC, lexQ, lexC, pget]
      · refine PQ.cur h ?_
        rw [if_pos h1, hf]
        exact PQ.bad h (by decide) 0
    | some n =>
      have hvn := hv _ _ hf
      refine bwp_seq fun K hK => bwp_region rfl ?_
      simp -implicitDefEqProofs only [go_sem, ↓reduceIte, Nat.reduceEqDiff, Nat.reduceAdd, Nat.reduceLeDiff, Nat.reduceMul, Nat.reduceSub, Int.reduceLE, Int.reduceLT, Int.reduceEq, Int.reduceToNat, Int.reducePow, Int.reduceNeg, Option.isSome_some]
      refine hK _ ?_; clear hK
      refine bwp_cond false (by simp [ev, fget]) (fun h => nomatch h) (fun _ => ?_)
      refine bwp_skip ?_
      refine hK1 _ ?_; clear hK1
      refine bwp_seq fun K hK => bwp_region rfl ?_
      simp -implicitDefEqProofs only [go_sem, ↓reduceIte, Nat.reduceEqDiff, Nat.reduceAdd, Nat.reduceLeDiff, Nat.reduceMul, Nat.reduceSub, Int.reduceLE, Int.reduceLT, Int.reduceEq, Int.reduceToNat, Int.reducePow, Int.reduceNeg]
      refine pnext_callK hs h rfl rfl ?_
      intro q' hq'
      simp -implicitDefEqProofs only [go_sem, ↓reduceIte, Nat.reduceEqDiff, Nat.reduceAdd, Nat.reduceLeDiff, Nat.reduceMul, Nat.reduceSub, Int.reduceLE, Int.reduceLT, Int.reduceEq, Int.reduceToNat, Int.reducePow, Int.reduceNeg, mset]
      refine hK _ ?_; clear hK
      refine bwp_seq fun K hK => bwp_region rfl ?_
      simp -implicitDefEqProofs only [go_sem, ↓reduceIte, Nat.reduceEqDiff, Nat.reduceAdd, Nat.reduceLeDiff, Nat.reduceMul, Nat.reduceSub, Int.reduceLE, Int.reduceLT, Int.reduceEq, Int.reduceToNat, Int.reducePow, Int.reduceNeg]
      refine hK _ ?_; clear hK
      refine bwp_ret ?_
      simp only [go_sem]
      refine aend_mem (.d (.int .i64 n)) [(0, 0), (1, 1)] [(0, parC q'), (1, lexQ s q')] ?_ rfl rfl ?_ ⟨q', rfl, n, rfl, ?_⟩
      · simp [resA, resVs, resV, fget, hvn]
      · simp [entM, pinv, mget, mset, renL, AV.ren, parC, lexQ, lexC, pget]
      · refine PQ.cur h ?_
        rw [if_pos h1, hf]
        exact PQ.eat (PQ.ret hq')
  · refine bwp_seq fun K hK => bwp_region rfl ?_
    simp -implicitDefEqProofs only [go_sem, ↓reduceIte, Nat.reduceEqDiff, Nat.reduceAdd, Nat.reduceLeDiff, Nat.reduceMul, Nat.reduceSub, Int.reduceLE, Int.reduceLT, Int.reduceEq, Int.reduceToNat, Int.reducePow, Int.reduceNeg, parC, eq_false h1]
    refine hK _ ?_; clear hK
    refine bwp_cond true (by simp [ev, fget]) (fun _ => ?_) (fun h => nomatch h)
    refine bwp_seq fun K hK => bwp_region rfl ?_
    simp -implicitDefEqProofs only [go_sem, ↓reduceIte, Nat.reduceEqDiff, Nat.reduceAdd, Nat.reduceLeDiff, Nat.reduceMul, Nat.reduceSub, Int.reduceLE, Int.reduceLT, Int.reduceEq, Int.reduceToNat, Int.reducePow, Int.reduceNeg]
    refine pfail_callK s q 6 rfl rfl ?_
    simp -implicitDefEqProofs only [go_sem, ↓reduceIte, Nat.reduceEqDiff, Nat.reduceAdd, Nat.reduceLeDiff, Nat.reduceMul, Nat.reduceSub, Int.reduceLE, Int.reduceLT, Int.reduceEq, Int.reduceToNat, Int.reducePow, Int.reduceNeg, mset]
    refine hK _ ?_; clear hK
    refine bwp_seq fun K hK => bwp_region rfl ?_
    simp -implicitDefEqProofs only [go_sem, ↓reduceIte, Nat.reduceEqDiff, Nat.reduceAdd, Nat.reduceLeDiff, Nat.reduceMul, Nat.reduceSub, Int.reduceLE, Int.reduceLT, Int.reduceEq, Int.reduceToNat, Int.reducePow, Int.reduceNeg]
    refine hK _ ?_; clear hK
    refine bwp_ret ?_
    simp only [go_sem]
    refine aend_mem (.d (.int .i64 0)) [(0, 0), (1, 1)] [(0, parC (failF q 6)), (1, lexQ s (failF q 6))] ?_ rfl rfl ?_ ⟨_, rfl, 0, rfl, ?_⟩
    · simp [resA, resVs, resV, fget]
    · simp [entM, pinv, mget, mset, renL, AV.ren, parC, lexQ, lexC, pget]
    · refine PQ.cur h ?_
      rw [if_neg h1]
      exact PQ.bad h (by decide) 0

theorem isLoc1_pure {x : List UInt8} (hx : x ≠ []) : Pure Tryd.prog 73 [.d (.str x)] (.tup [.d (.int .i64 ((x.getD 0 0).toNat : Int)), .d (.bool (locN x).isSome)]) := by
  have hl : 0 < x.length := List.length_pos_iff.2 hx
  have hl' : (0 : Int) < x.length := by omega
  have hb : ((x.getD 0 0).toNat : Int) < 256 := by have := (x.getD 0 0).toNat_lt; omega
  have hw : IntKind.i64.wrap ((x.getD 0 0).toNat : Int) = ((x.getD 0 0).toNat : Int) := wrap_i64 (by omega) (by omega)
  refine acalls_of Tryd.func73 ac73_ok Tryd.ntmps73 Tryd.results73 rfl ?_
  unfold ac73
  refine bwp_seq fun K hK => bwp_region rfl ?_
  simp -implicitDefEqProofs only [go_sem, ↓reduceIte, Nat.reduceEqDiff, Nat.reduceAdd, Nat.reduceLeDiff, Nat.reduceMul, Nat.reduceSub, Int.reduceLE, Int.reduceLT, Int.reduceEq, Int.reduceToNat, Int.reducePow, Int.reduceNeg]
  refine hK _ ?_; clear hK
  refine bwp_seq fun K hK => bwp_region rfl ?_
  simp -implicitDefEqProofs only [go_sem, ↓reduceIte, Nat.reduceEqDiff, Nat.reduceAdd, Nat.reduceLeDiff, Nat.reduceMul, Nat.reduceSub, Int.reduceLE, Int.reduceLT, Int.reduceEq, Int.reduceToNat, Int.reducePow, Int.reduceNeg, hl', hw]
  refine hK _ ?_; clear hK
  refine bwp_ret ?_
  simp -implicitDefEqProofs only [go_sem, ↓reduceIte, Nat.reduceEqDiff, Nat.reduceAdd, Nat.reduceLeDiff, Nat.reduceMul, Nat.reduceSub, Int.reduceLE, Int.reduceLT, Int.reduceEq, Int.reduceToNat, Int.reducePow, Int.reduceNeg]
  refine aend_ret (.tup [.d (.int .i64 ((x.getD 0 0).toNat : Int)), .d (.bool (locN x).isSome)]) ?_ rfl ⟨rfl, rfl⟩
  by_cases h1 : x.length = 1
  · have : (x.length : Int) = 1 := by omega
    simp [resA, resVs, resV, fget, locN, h1]
  · have : ¬ (x.length : Int) = 1 := by omega
    simp [resA, resVs, resV, fget, locN, h1, this]

theorem ploc_callK {s : List UInt8} (hs : s.length ≤ 140737488351232) {σ : PR Nat} {q : PSt} (h : PS s σ q) {dst : Option Nat} {ops : List AOper} {K : St → Prop} {t : Fr} {m : Mem} {n : Nat} (hm0 : mget m 0 = some (parC q)) (hm1 : mget m 1 = some (lexQ s q))
    (hk : ∀ x q', PQ s (thn σ ((tNamed locN).run s)) x q' → runOps Tryd.prog ops ⟨putF t dst (.d (.int .i64 x)), mset (mset m 0 (parC q')) 1 (lexQ s q'), n + 2⟩ K) : callK Tryd.prog 72 [.ptr 0 0, .fn 73 []] dst ops K t m n := by
  refine par_callK (rest := [.fn 73 []]) (Q := fun r q' => ∃ x, r = .d (.int .i64 x) ∧ PQ s (thn σ ((tNamed locN).run s)) x q') (pnamed_calls hs h (f := locN) (v := fun x => ((x.getD 0 0).toNat : Int)) (by kernel_rfl) (fun x n hn => by
    unfold locN at hn
    split at hn
    · exact Option.some.inj hn
    · cases hn) (fun x hx => isLoc1_pure hx)) rfl ?_ hm0 hm1 ?_
  · rintro _ _ ⟨_, rfl, _⟩; rfl
  · rintro _ q' ⟨x, rfl, h⟩; exact hk x q' h

set_option maxHeartbeats 4000000 in
theorem isReg1_pure (x : List UInt8) : Pure Tryd.prog 92 [.d (.str x)] (.tup [.d (.int .i64 ((regN x).getD 0)), .d (.bool (regN x).isSome)]) := by
  have key : ∀ (c k : UInt8), ((c.toNat : Int) = (k.toNat : Int)) ↔ c = k := fun c k => ⟨u8eq, fun h => by rw [h]⟩
  refine acalls_of Tryd.func92 ac92_ok Tryd.ntmps92 Tryd.results92 rfl ?_
  unfold ac92
  refine bwp_seq fun K hK => bwp_region rfl ?_
  simp -implicitDefEqProofs only [go_sem, ↓reduceIte, Nat.reduceEqDiff, Nat.reduceAdd, Nat.reduceLeDiff, Nat.reduceMul, Nat.reduceSub, Int.reduceLE, Int.reduceLT, Int.reduceEq, Int.reduceToNat, Int.reducePow, Int.reduceNeg]
  refine hK _ ?_; clear hK
  refine bwp_seq fun K1 hK1 => ?_
  by_cases h2 : x.length = 2
  · have h2' : (x.length : Int) = 2 := by omega
    have i0 : (0 : Int) < x.length := by omega
    have i1 : (1 : Int) < x.length := by omega
    by_cases hr : ((x.getD 0 0).toNat : Int) = 114
    · by_cases hlo : ((x.getD 1 0).toNat : Int) < 48
      · have hn : regN x = none := by unfold regN; rw [if_neg (by omega)]
        refine bwp_seq fun K hK => bwp_region rfl ?_
        simp -implicitDefEqProofs only [go_sem, ↓reduceIte, Nat.reduceEqDiff, Nat.reduceAdd, Nat.reduceLeDiff, Nat.reduceMul, Nat.reduceSub, Int.reduceLE, Int.reduceLT, Int.reduceEq, Int.reduceToNat, Int.reducePow, Int.reduceNeg, h2', i0, i1, hr, hlo]
        refine hK _ ?_; clear hK
        refine bwp_cond true (by simp [ev, fget]) (fun _ => ?_) (fun h => nomatch h)
        refine bwp_seq fun K hK => bwp_region rfl ?_
        simp -implicitDefEqProofs only [go_sem, ↓reduceIte, Nat.reduceEqDiff, Nat.reduceAdd, Nat.reduceLeDiff, Nat.reduceMul, Nat.reduceSub, Int.reduceLE, Int.reduceLT, Int.reduceEq, Int.reduceToNat, Int.reducePow, Int.reduceNeg]
        refine hK _ ?_; clear hK
        refine bwp_ret ?_
        simp -implicitDefEqProofs only [go_sem, ↓reduceIte, Nat.reduceEqDiff, Nat.reduceAdd, Nat.reduceLeDiff, Nat.reduceMul, Nat.reduceSub, Int.reduceLE, Int.reduceLT, Int.reduceEq, Int.reduceToNat, Int.reducePow, Int.reduceNeg]
        refine aend_ret _ rfl rfl ⟨?_, rfl⟩
        simp [fget, hn]
      · by_cases hhi : (51 : Int) < (x.getD 1 0).toNat
        · have hn : regN x = none := by unfold regN; rw [if_neg (by omega)]
          refine bwp_seq fun K hK => bwp_region rfl ?_
          simp -implicitDefEqProofs only [go_sem, ↓reduceIte, Nat.reduceEqDiff, Nat.reduceAdd, Nat.reduceLeDiff, Nat.reduceMul, Nat.reduceSub, Int.reduceLE, Int.reduceLT, Int.reduceEq, Int.reduceToNat, Int.reducePow, Int.reduceNeg, h2', i0, i1, hr, hlo, hhi]
          refine hK _ ?_; clear hK
          refine bwp_cond true (by simp [ev, fget]) (fun _ => ?_) (fun h => nomatch h)
          refine bwp_seq fun K hK => bwp_region rfl ?_
          simp -implicitDefEqProofs only [go_sem, ↓reduceIte, Nat.reduceEqDiff, Nat.reduceAdd, Nat.reduceLeDiff, Nat.reduceMul, Nat.reduceSub, Int.reduceLE, Int.reduceLT, Int.reduceEq, Int.reduceToNat, Int.reducePow, Int.reduceNeg]
          refine hK _ ?_; clear hK
          refine bwp_ret ?_
          simp -implicitDefEqProofs only [go_sem, ↓reduceIte, Nat.reduceEqDiff, Nat.reduceAdd, Nat.reduceLeDiff, Nat.reduceMul, Nat.reduceSub, Int.reduceLE, Int.reduceLT, Int.reduceEq, Int.reduceToNat, Int.reducePow, Int.reduceNeg]
          refine aend_ret _ rfl rfl ⟨?_, rfl⟩
          simp [fget, hn]
        · have hn : regN x = some (((x.getD 1 0).toNat - 48 : Nat) : Int) := by
            unfold regN
            rw [if_pos ⟨h2, u8eq (k := 114) hr, by omega, by omega⟩]
          have hand : IntKind.i64.wrap (bits .and .u8 ((x.getD 1 0).toNat : Int) 3) = (((x.getD 1 0).toNat - 48 : Nat) : Int) := by
            have h4 : x.getD 1 0 = 48 ∨ x.getD 1 0 = 49 ∨ x.getD 1 0 = 50 ∨ x.getD 1 0 = 51 := by
              have k1 := key (x.getD 1 0) 48
              have k2 := key (x.getD 1 0) 49
              have k3 := key (x.getD 1 0) 50
              have k4 := key (x.getD 1 0) 51
              simp only [UInt8.reduceToNat, Int.cast_ofNat_Int] at k1 k2 k3 k4
              rw [← k1, ← k2, ← k3, ← k4]
              omega
            rcases h4 with h | h | h | h <;> rw [h] <;> decide
          refine bwp_seq fun K hK => bwp_region rfl ?_
          simp -implicitDefEqProofs only [go_sem, ↓reduceIte, Nat.reduceEqDiff, Nat.reduceAdd, Nat.reduceLeDiff, Nat.reduceMul, Nat.reduceSub, Int.reduceLE, Int.reduceLT, Int.reduceEq, Int.reduceToNat, Int.reducePow, Int.reduceNeg, h2', i0, i1, hr, hlo, hhi]
          refine hK _ ?_; clear hK
          refine bwp_cond false (by simp [ev, fget]) (fun h => nomatch h) (fun _ => ?_)
          refine bwp_skip ?_
          refine hK1 _ ?_; clear hK1
          refine bwp_seq fun K hK => bwp_region rfl ?_
          simp -implicitDefEqProofs only [go_sem, ↓reduceIte, Nat.reduceEqDiff, Nat.reduceAdd, Nat.reduceLeDiff, Nat.reduceMul, Nat.reduceSub, Int.reduceLE, Int.reduceLT, Int.reduceEq, Int.reduceToNat, Int.reducePow, Int.reduceNeg, i1, hand]
          refine hK _ ?_; clear hK
          refine bwp_ret ?_
          simp -implicitDefEqProofs only [go_sem, ↓reduceIte, Nat.reduceEqDiff, Nat.reduceAdd, Nat.reduceLeDiff, Nat.reduceMul, Nat.reduceSub, Int.reduceLE, Int.reduceLT, Int.reduceEq, Int.reduceToNat, Int.reducePow, Int.reduceNeg]
          refine aend_ret _ rfl rfl ⟨?_, rfl⟩
          simp [fget, hn]
    · have hn : regN x = none := by unfold regN; rw [if_neg (fun h => hr (by rw [h.2.1]; rfl))]
      refine bwp_seq fun K hK => bwp_region rfl ?_
      simp -implicitDefEqProofs only [go_sem, ↓reduceIte, Nat.reduceEqDiff, Nat.reduceAdd, Nat.reduceLeDiff, Nat.reduceMul, Nat.reduceSub, Int.reduceLE, Int.reduceLT, Int.reduceEq, Int.reduceToNat, Int.reducePow, Int.reduceNeg, h2', i0, i1, hr]
      refine hK _ ?_; clear hK
      refine bwp_cond true (by simp [ev, fget]) (fun _ => ?_) (fun h => nomatch h)
      refine bwp_seq fun K hK => bwp_region rfl ?_
      simp -implicitDefEqProofs only [go_sem, ↓reduceIte, Nat.reduceEqDiff, Nat.reduceAdd, Nat.reduceLeDiff, Nat.reduceMul, Nat.reduceSub, Int.reduceLE, Int.reduceLT, Int.reduceEq, Int.reduceToNat, Int.reducePow, Int.reduceNeg]
      refine hK _ ?_; clear hK
      refine bwp_ret ?_
      simp -implicitDefEqProofs only [go_sem, ↓reduceIte, Nat.reduceEqDiff, Nat.reduceAdd, Nat.reduceLeDiff, Nat.reduceMul, Nat.reduceSub, Int.reduceLE, Int.reduceLT, Int.reduceEq, Int.reduceToNat, Int.reducePow, Int.reduceNeg]
      refine aend_ret _ rfl rfl ⟨?_, rfl⟩
      simp [fget, hn]
  · have h2' : ¬ (x.length : Int) = 2 := by omega
    have hn : regN x = none := by unfold regN; rw [if_neg (fun h => h2 h.1)]
    refine bwp_seq fun K hK => bwp_region rfl ?_
    simp -implicitDefEqProofs only [go_sem, ↓reduceIte, Nat.reduceEqDiff, Nat.reduceAdd, Nat.reduceLeDiff, Nat.reduceMul, Nat.reduceSub, Int.reduceLE, Int.reduceLT, Int.reduceEq, Int.reduceToNat, Int.reducePow, Int.reduceNeg, h2']
    refine hK _ ?_; clear hK
    refine bwp_cond true (by simp [ev, fget]) (fun _ => ?_) (fun h => nomatch h)
    refine bwp_seq fun K hK => bwp_region rfl ?_
    simp -implicitDefEqProofs only [go_sem, ↓reduceIte, Nat.reduceEqDiff, Nat.reduceAdd, Nat.reduceLeDiff, Nat.reduceMul, Nat.reduceSub, Int.reduceLE, Int.reduceLT, Int.reduceEq, Int.reduceToNat, Int.reducePow, Int.reduceNeg]
    refine hK _ ?_; clear hK
    refine bwp_ret ?_
    simp -implicitDefEqProofs only [go_sem, ↓reduceIte, Nat.reduceEqDiff, Nat.reduceAdd, Nat.reduceLeDiff, Nat.reduceMul, Nat.reduceSub, Int.reduceLE, Int.reduceLT, Int.reduceEq, Int.reduceToNat, Int.reducePow, Int.reduceNeg]
    refine aend_ret _ rfl rfl ⟨?_, rfl⟩
    simp [fget, hn]

theorem preg_callK {s : List UInt8} (hs : s.length ≤ 140737488351232) {σ : PR Nat} {q : PSt} (h : PS s σ q) {dst : Option Nat} {ops : List AOper} {K : St → Prop} {t : Fr} {m : Mem} {n : Nat} (hm0 : mget m 0 = some (parC q)) (hm1 : mget m 1 = some (lexQ s q))
    (hk : ∀ x q', PQ s (thn σ ((tNamed regN).run s)) x q' → runOps Tryd.prog ops ⟨putF t dst (.d (.int .i64 x)), mset (mset m 0 (parC q')) 1 (lexQ s q'), n + 2⟩ K) : callK Tryd.prog 72 [.ptr 0 0, .fn 92 []] dst ops K t m n := by
  refine par_callK (rest := [.fn 92 []]) (Q := fun r q' => ∃ x, r = .d (.int .i64 x) ∧ PQ s (thn σ ((tNamed regN).run s)) x q') (pnamed_calls hs h (f := regN) (v := fun x => (regN x).getD 0) (by kernel_rfl) (fun x n hn => by rw [hn]; rfl) (fun x _ => isReg1_pure x)) rfl ?_ hm0 hm1 ?_
  · rintro _ _ ⟨_, rfl, _⟩; rfl
  · rintro _ q' ⟨x, rfl, h⟩; exact hk x q' h

set_option maxHeartbeats 4000000 in
theorem popd_calls {s : List UInt8} (hs : s.length ≤ 140737488351232) {σ : PR Nat} {q : PSt} (h : PS s σ q) :
    ACalls Tryd.prog 91 [.ptr 0 0] [(0, parC q), (1, lexQ s q)] fun r m' => ∃ q', m' = [(0, parC q'), (1, lexQ s q')] ∧ ∃ x : Opnd, r = .agg (x.cells.map .d) ∧ PQ s (thn σ (tOpd.run s)) x q' := by
  have h84 : ldk Tryd.prog 84 = some (some 2) := by kernel_rfl
  refine acalls_of Tryd.func91 ac91_ok Tryd.ntmps91 Tryd.results91 rfl ?_
  unfold ac91
  refine bwp_seq fun K hK => bwp_region rfl ?_
  simp -implicitDefEqProofs only [go_sem, ↓reduceIte, Nat.reduceEqDiff, Nat.reduceAdd, Nat.reduceLeDiff, Nat.reduceMul, Nat.reduceSub, Int.reduceLE, Int.reduceLT, Int.reduceEq, Int.reduceToNat, Int.reducePow, Int.reduceNeg]
  refine hK _ ?_; clear hK
  refine bwp_seq fun K1 hK1 => ?_
  have no : ∀ (S : St), (q.code = 0 → q.tok.kd ≠ 2) → Leads 2 19 S ⟨[(0, .ptr 0 0), (2, .ptr 2 0)], [(0, parC q), (1, lexQ s q), (2, [.d (.int .i64 0), .d (.int .i64 0)])], 3⟩ → K1 S := by
    intro S hn hS
    refine hK1 _ ?_; clear hK1
    refine bwp_leads hS ?_
    refine bwp_seq fun K hK => bwp_region rfl ?_
    simp -implicitDefEqProofs only [go_sem, ↓reduceIte, Nat.reduceEqDiff, Nat.reduceAdd, Nat.reduceLeDiff, Nat.reduceMul, Nat.reduceSub, Int.reduceLE, Int.reduceLT, Int.reduceEq, Int.reduceToNat, Int.reducePow, Int.reduceNeg]
    refine preg_callK hs h rfl rfl ?_
    intro x q' hq'
    simp -implicitDefEqProofs only [go_sem, ↓reduceIte, Nat.reduceEqDiff, Nat.reduceAdd, Nat.reduceLeDiff, Nat.reduceMul, Nat.reduceSub, Int.reduceLE, Int.reduceLT, Int.reduceEq, Int.reduceToNat, Int.reducePow, Int.reduceNeg, mset]
    refine hK _ ?_; clear hK
    refine bwp_ret ?_
    simp only [go_sem]
    refine aend_mem (.agg (Opnd.cells ⟨x, 0⟩ |>.map .d)) [(0, 0), (1, 1)] [(0, parC q'), (1, lexQ s q')] ?_ rfl rfl ?_ ⟨q', rfl, ⟨x, 0⟩, rfl, ?_⟩
    · simp [resA, resVs, resV, fget, mget, mset, loadA, h84, Opnd.cells]
    · simp [entM, pinv, mget, mset, renL, AV.ren, parC, lexQ, lexC, pget]
    · cases σ with
      | error e => exact hq'
      | ok a =>
        refine PQ.cur h ?_
        rw [if_neg (hn h.code)]
        exact PQ.bind hq' (PQ.ret hq'.ps)
  refine bwp_seq fun K hK => bwp_region rfl ?_
  simp -implicitDefEqProofs only [go_sem, ↓reduceIte, Nat.reduceEqDiff, Nat.reduceAdd, Nat.reduceLeDiff, Nat.reduceMul, Nat.reduceSub, Int.reduceLE, Int.reduceLT, Int.reduceEq, Int.reduceToNat, Int.reducePow, Int.reduceNeg]
  refine pok_callK s q rfl rfl ?_
  by_cases hc : q.code = 0
  · by_cases h2 : q.tok.kd = 2
    · simp -implicitDefEqProofs only [go_sem, ↓reduceIte, Nat.reduceEqDiff, Nat.reduceAdd, Nat.reduceLeDiff, Nat.reduceMul, Nat.reduceSub, Int.reduceLE, Int.reduceLT, Int.reduceEq, Int.reduceToNat, Int.reducePow, Int.reduceNeg, mset, eq_true hc, eq_true h2, parC, decide_true]
      refine hK _ ?_; clear hK
      refine bwp_cond true (by simp [ev, fget]) (fun _ => ?_) (fun h => nomatch h)
      refine bwp_seq fun K hK => bwp_region rfl ?_
      simp -implicitDefEqProofs only [go_sem, ↓reduceIte, Nat.reduceEqDiff, Nat.reduceAdd, Nat.reduceLeDiff, Nat.reduceMul, Nat.reduceSub, Int.reduceLE, Int.reduceLT, Int.reduceEq, Int.reduceToNat, Int.reducePow, Int.reduceNeg]
      refine pnum_callK (q := q) hs h rfl rfl ?_
      intro x q' hq'
      simp -implicitDefEqProofs only [go_sem, ↓reduceIte, Nat.reduceEqDiff, Nat.reduceAdd, Nat.reduceLeDiff, Nat.reduceMul, Nat.reduceSub, Int.reduceLE, Int.reduceLT, Int.reduceEq, Int.reduceToNat, Int.reducePow, Int.reduceNeg, mset]
      refine hK _ ?_; clear hK
      refine bwp_ret ?_
      simp only [go_sem]
      refine aend_mem (.agg (Opnd.cells ⟨-1, x⟩ |>.map .d)) [(0, 0), (1, 1)] [(0, parC q'), (1, lexQ s q')] ?_ rfl rfl ?_ ⟨q', rfl, ⟨-1, x⟩, rfl, ?_⟩
      · simp [resA, resVs, resV, fget, mget, mset, loadA, h84, Opnd.cells]
      · simp [entM, pinv, mget, mset, renL, AV.ren, parC, lexQ, lexC, pget]
      · refine PQ.cur h ?_
        rw [if_pos h2]
        exact PQ.bind hq' (PQ.ret hq'.ps)
    · simp -implicitDefEqProofs only [go_sem, ↓reduceIte, Nat.reduceEqDiff, Nat.reduceAdd, Nat.reduceLeDiff, Nat.reduceMul, Nat.reduceSub, Int.reduceLE, Int.reduceLT, Int.reduceEq, Int.reduceToNat, Int.reducePow, Int.reduceNeg, mset, eq_true hc, eq_false h2, parC, decide_true]
      refine hK _ ?_; clear hK
      refine bwp_cond false (by simp [ev, fget]) (fun h => nomatch h) (fun _ => ?_)
      refine bwp_skip ?_
      refine no _ (fun _ => h2) ?_
      exact Leads.ent [(0, 0), (1, 1), (2, 2)] ⟨by simp [entT, fget, AV.ren, renL, pget], by simp [entM, pinv, mget, mset, renL, AV.ren, parC, lexQ, lexC, pget], rfl, rfl⟩
  · simp -implicitDefEqProofs only [go_sem, ↓reduceIte, Nat.reduceEqDiff, Nat.reduceAdd, Nat.reduceLeDiff, Nat.reduceMul, Nat.reduceSub, Int.reduceLE, Int.reduceLT, Int.reduceEq, Int.reduceToNat, Int.reducePow, Int.reduceNeg, mset, eq_false hc, parC, decide_false]
    refine hK _ ?_; clear hK
    refine bwp_cond false (by simp [ev, fget]) (fun h => nomatch h) (fun _ => ?_)
    refine bwp_skip ?_
    refine no _ (fun h0 => absurd h0 hc) ?_
    exact Leads.ent [(0, 0), (1, 1), (2, 2)] ⟨by simp [entT, fget, AV.ren, renL, pget], by simp [entM, pinv, mget, mset, renL, AV.ren, parC, lexQ, lexC, pget], rfl, rfl⟩

theorem opnd_in (x : Opnd) : inB (fun _ => none) (.agg (x.cells.map .d)) = true := rfl

theorem popd_callK {s : List UInt8} (hs : s.length ≤ 140737488351232) {σ : PR Nat} {q : PSt} (h : PS s σ q) {dst : Option Nat} {ops : List AOper} {K : St → Prop} {t : Fr} {m : Mem} {n : Nat} (hm0 : mget m 0 = some (parC q)) (hm1 : mget m 1 = some (lexQ s q))
    (hk : ∀ (x : Opnd) q', PQ s (thn σ (tOpd.run s)) x q' → runOps Tryd.prog ops ⟨putF t dst (.agg [.d (.int .i64 x.reg), .d (.int .i64 x.value)]), mset (mset m 0 (parC q')) 1 (lexQ s q'), n + 2⟩ K) : callK Tryd.prog 91 [.ptr 0 0] dst ops K t m n := by
  refine par_callK (rest := []) (Q := fun r q' => ∃ x : Opnd, r = .agg (x.cells.map .d) ∧ PQ s (thn σ (tOpd.run s)) x q') (popd_calls hs h) rfl ?_ hm0 hm1 ?_
  · rintro _ _ ⟨x, rfl, _⟩; exact opnd_in x
  · rintro _ q' ⟨x, rfl, h⟩; exact hk x q' h

end Go.Proofs.YtpfbljkfbjjlkaaDoor
