/- What the statement's proof leans on, part 4: the layer, the walks, the plain laws. -/
import Derived.Test.YtpfbljkfbjjlkaaGreatDoorMJZ4c
import Derived.Lib.IndexLaws
set_option linter.unusedSimpArgs false
set_option linter.unusedVariables false

/- The lexer's signs. -/
namespace Go.Proofs.YtpfbljkfbjjlkaaGreatDoor
open Go Go.Jq
set_option maxRecDepth 100000
set_option linter.unusedSimpArgs false
theorem idx_pure (l : List UInt8) (c : UInt8) : Pure Tryz.prog 140 [.d (.str l), .d (.int .u8 c.toNat)] (.d (.int .i64 (Lib.indexByte l c))) := by
  refine pure_of_below fun cx w vs hr hM => ?_
  simp only [RelL, Rel, RelD] at hr
  obtain ⟨v1, vs1, rfl, rfl, v2, vs2, rfl, rfl, rfl⟩ := hr
  refine (Tryz.strings_IndexByte ⟨l.toArray⟩ c.toNat w).mono ?_
  rintro e w' ⟨rfl, rfl⟩
  refine ⟨_, rfl, rfl, rfl, rfl, Nat.le_refl _, fun _ _ => rfl, ?_⟩
  simp [Rel, RelD]
theorem idx_mem (l : List UInt8) (c : UInt8) : 0 ≤ Lib.indexByte l c ↔ c ∈ l := by
  have hg := Lib.indexByte_ge l c
  constructor
  · intro h
    obtain ⟨o, ho⟩ : ∃ o : Nat, Lib.indexByte l c = o := ⟨(Lib.indexByte l c).toNat, by omega⟩
    exact List.mem_of_getElem? (Lib.indexByte_some ho).1
  · intro h
    obtain ⟨k, hk, e⟩ := List.getElem_of_mem h
    rcases Int.lt_or_le (Lib.indexByte l c) 0 with h1 | h1
    · have : Lib.indexByte l c = -1 := by omega
      exact absurd (by rw [List.getElem?_eq_getElem hk, e]) (Lib.indexByte_none this k)
    · exact h1
def plain : List UInt8 := [123, 125, 59, 58, 43, 45, 42, 38, 124, 94]
theorem ones_iff (c : UInt8) : c ∈ ones ↔ c ∈ plain ∨ c = 60 ∨ c = 61 := by
  simp only [ones, plain, List.mem_cons, List.not_mem_nil, or_false]
  constructor
  · rintro (h | h | h | h | h | h | h | h | h | h | h | h) <;> simp [h]
  · rintro ((h | h | h | h | h | h | h | h | h | h) | h | h) <;> simp [h]
def sgQ (s : List UInt8) (a rd : Nat) (r : AV) (m' : Mem) : Prop :=
  r = .d (.str ((s.drop a).take (signL (s.drop a)))) ∧ ∃ rd', (rd ≤ rd' ∧ a + 1 ≤ rd' ∧ rd' ≤ s.length ∧ (signL (s.drop a) ≠ 0 → a + signL (s.drop a) ≤ rd' ∧ rd' ≤ max rd (a + signL (s.drop a) + 1))) ∧ m' = [(0, lexC s a rd' 0 0)]
set_option maxHeartbeats 16000000 in
theorem sign_calls {s : List UInt8} (hs : s.length ≤ 140737488351232) {a rd : Nat} (ha : a < s.length) (hr : a ≤ rd ∧ rd ≤ s.length) :
    ACalls Tryz.prog 125 [.ptr 0 0] [(0, lexC s a rd 0 0)] (sgQ s a rd) := by
  have hd := drop_at ha
  have hw1 : IntKind.i64.wrap ((a : Int) + 1) = ((a + 1 : Nat) : Int) := by rw [wrap_i64 (by omega) (by omega)]; rfl
  have hp1 := rdW_lt (rd := rd) ha
  refine acalls_of Tryz.func125 ac125_ok Tryz.ntmps125 Tryz.results125 rfl ?_
  unfold ac125
  refine bwp_seq fun K hK => bwp_region rfl ?_
  simp -implicitDefEqProofs only [go_sem, ↓reduceIte]
  refine hK _ ?_; clear hK
  refine bwp_seq fun K hK => bwp_region rfl ?_
  simp -implicitDefEqProofs only [go_sem, ↓reduceIte, lexC]
  refine peek_callK hs a rd 0 0 a rfl ?_
  generalize hc : s.getD a 0 = c at hd
  rw [hp1]
  generalize hm1 : max rd (a + 1) = rd1
  simp -implicitDefEqProofs only [go_sem, ↓reduceIte, lexC, mset]
  refine hK _ ?_; clear hK
  refine bwp_seq fun K1 hK1 => ?_
  refine bwp_seq fun K hK => bwp_region rfl ?_
  simp -implicitDefEqProofs only [go_sem, ↓reduceIte]
  refine hK _ ?_; clear hK
  refine bwp_block ?_
  refine bwp_seq fun K2 hK2 => ?_
  by_cases h60 : (c.toNat : Int) = 60
  · have hcv := u8eq (k := 60) h60
    refine bwp_seq fun K hK => bwp_region rfl ?_
    simp -implicitDefEqProofs only [go_sem, ↓reduceIte, h60]
    refine hK _ ?_; clear hK
    refine bwp_cond true (by simp [ev, fget]) (fun _ => ?_) (fun h => nomatch h)
    refine bwp_skip ?_
    refine hK2 _ ?_; clear hK2
    refine bwp_cond true (by simp [ev, fget]) (fun _ => ?_) (fun h => nomatch h)
    refine bwp_seq fun K hK => bwp_region rfl ?_
    simp -implicitDefEqProofs only [go_sem, ↓reduceIte, hw1]
    refine peek_callK hs a rd1 0 0 (a + 1) rfl ?_
    obtain ⟨rd2, hr2, q1, q2, q3, q4⟩ : ∃ rd2, rdW s rd1 (a + 1) = rd2 ∧ rd1 ≤ rd2 ∧ rd2 ≤ s.length ∧ rd2 ≤ max rd (a + 2) ∧ (a + 1 < s.length → a + 2 ≤ rd2) := ⟨_, rfl, by unfold rdW; split <;> omega⟩
    rw [hr2]
    generalize hd2 : s.getD (a + 1) 0 = d
    simp -implicitDefEqProofs only [go_sem, ↓reduceIte, lexC, mset]
    refine hK _ ?_; clear hK
    by_cases hdd : (d.toNat : Int) = 60
    · have hdv := u8eq (k := 60) hdd
      have hin : a + 1 < s.length := by
        rcases Nat.lt_or_ge (a + 1) s.length with h | h
        · exact h
        · rw [List.getD_eq_getElem?_getD, List.getElem?_eq_none (by omega)] at hd2
          rw [← hd2] at hdv
          cases hdv
      have hdr := drop_at hin
      rw [hd2, hdv] at hdr
      have hsg : signL (s.drop a) = 2 := by rw [hd, hdr, hcv]; rfl
      have hw2 : IntKind.i64.wrap ((a : Int) + 2) = ((a + 2 : Nat) : Int) := by rw [wrap_i64 (by omega) (by omega)]; rfl
      have b0 : (0 : Int) ≤ (a : Int) := Int.natCast_nonneg _
      have b1 : (0 : Int) ≤ ((a + 2 : Nat) : Int) := Int.natCast_nonneg _
      have b2 : a ≤ a + 2 := by omega
      have b3 : a + 2 ≤ s.length := by omega
      have hsl : (s.take (a + 2)).drop a = (s.drop a).take 2 := by rw [List.drop_take]; congr 1; omega
      refine bwp_seq fun K hK => bwp_region rfl ?_
      simp -implicitDefEqProofs only [go_sem, ↓reduceIte, h60, hdd]
      refine hK _ ?_; clear hK
      refine bwp_seq fun K3 hK3 => ?_
      refine bwp_block ?_
      refine bwp_seq fun K hK => bwp_region rfl ?_
      simp -implicitDefEqProofs only [go_sem, ↓reduceIte]
      refine hK _ ?_; clear hK
      refine bwp_cond true (by simp [ev, fget]) (fun _ => ?_) (fun h => nomatch h)
      refine bwp_seq fun K hK => bwp_region_draw rfl rfl ?_
      simp -implicitDefEqProofs only [go_sem, ↓reduceIte, hw2, b0, b1, b2, b3, Int.toNat_natCast, hsl]
      refine ⟨rfl, hK _ ?_⟩; clear hK
      refine bwp_ret ?_
      simp only [go_sem]
      refine aend_mem (.d (.str ((s.drop a).take (signL (s.drop a))))) [(0, 0)] [(0, lexC s a rd2 0 0)] ?_ rfl rfl ?_ ⟨rfl, rd2, ⟨by omega, by omega, by omega, fun _ => by rw [hsg]; omega⟩, rfl⟩
      · simp [resA, resVs, resV, fget, hsg]
      · simp [entM, pinv, mget, mset, renL, AV.ren, lexC]
    · have hdn := u8ne (k := 60) hdd
      have hsg : signL (s.drop a) = 1 := by
        rw [hd, hcv, signL, if_neg, if_pos (by decide)]
        have hh : ¬ s[a + 1]? = some 60 := by
          intro h
          apply hdn
          rw [← hd2, List.getD_eq_getElem?_getD, h]
          rfl
        simp [hh]
      refine bwp_seq fun K hK => bwp_region rfl ?_
      simp -implicitDefEqProofs only [go_sem, ↓reduceIte, h60, hdd]
      refine hK _ ?_; clear hK
      refine bwp_seq fun K3 hK3 => ?_
      refine bwp_block ?_
      refine bwp_seq fun K hK => bwp_region rfl ?_
      simp -implicitDefEqProofs only [go_sem, ↓reduceIte]
      refine hK _ ?_; clear hK
      refine bwp_cond false (by simp [ev, fget]) (fun h => nomatch h) (fun _ => ?_)
      refine bwp_seq fun K hK => bwp_region rfl ?_
      simp -implicitDefEqProofs only [go_sem, ↓reduceIte, h60]
      refine hK _ ?_; clear hK
      refine bwp_cond false (by simp [ev, fget]) (fun h => nomatch h) (fun _ => ?_)
      refine bwp_skip ?_
      refine hK3 _ ?_; clear hK3
      refine bwp_seq fun K hK => bwp_region rfl ?_
      simp -implicitDefEqProofs only [go_sem, ↓reduceIte, h60]
      refine hK _ ?_; clear hK
      refine bwp_ret ?_
      simp only [go_sem]
      refine aend_mem (.d (.str ((s.drop a).take (signL (s.drop a))))) [(0, 0)] [(0, lexC s a rd2 0 0)] ?_ rfl rfl ?_ ⟨rfl, rd2, ⟨by omega, by omega, by omega, fun _ => by rw [hsg]; omega⟩, rfl⟩
      · rw [hsg, hd, hcv]
        simp [resA, resVs, resV, fget]
        rfl
      · simp [entM, pinv, mget, mset, renL, AV.ren, lexC]
  by_cases h62 : (c.toNat : Int) = 62
  · have hcv := u8eq (k := 62) h62
    refine bwp_seq fun K hK => bwp_region rfl ?_
    simp -implicitDefEqProofs only [go_sem, ↓reduceIte, h60]
    refine hK _ ?_; clear hK
    refine bwp_cond false (by simp [ev, fget]) (fun h => nomatch h) (fun _ => ?_)
    refine bwp_seq fun K hK => bwp_region rfl ?_
    simp -implicitDefEqProofs only [go_sem, ↓reduceIte, h62]
    refine hK _ ?_; clear hK
    refine bwp_cond true (by simp [ev, fget]) (fun _ => ?_) (fun h => nomatch h)
    refine bwp_skip ?_
    refine hK2 _ ?_; clear hK2
    refine bwp_cond true (by simp [ev, fget]) (fun _ => ?_) (fun h => nomatch h)
    refine bwp_seq fun K hK => bwp_region rfl ?_
    simp -implicitDefEqProofs only [go_sem, ↓reduceIte, hw1]
    refine peek_callK hs a rd1 0 0 (a + 1) rfl ?_
    obtain ⟨rd2, hr2, q1, q2, q3, q4⟩ : ∃ rd2, rdW s rd1 (a + 1) = rd2 ∧ rd1 ≤ rd2 ∧ rd2 ≤ s.length ∧ rd2 ≤ max rd (a + 2) ∧ (a + 1 < s.length → a + 2 ≤ rd2) := ⟨_, rfl, by unfold rdW; split <;> omega⟩
    rw [hr2]
    generalize hd2 : s.getD (a + 1) 0 = d
    simp -implicitDefEqProofs only [go_sem, ↓reduceIte, lexC, mset]
    refine hK _ ?_; clear hK
    by_cases hdd : (d.toNat : Int) = 62
    · have hdv := u8eq (k := 62) hdd
      have hin : a + 1 < s.length := by
        rcases Nat.lt_or_ge (a + 1) s.length with h | h
        · exact h
        · rw [List.getD_eq_getElem?_getD, List.getElem?_eq_none (by omega)] at hd2
          rw [← hd2] at hdv
          cases hdv
      have hdr := drop_at hin
      rw [hd2, hdv] at hdr
      have hsg : signL (s.drop a) = 2 := by rw [hd, hdr, hcv]; rfl
      have hw2 : IntKind.i64.wrap ((a : Int) + 2) = ((a + 2 : Nat) : Int) := by rw [wrap_i64 (by omega) (by omega)]; rfl
      have b0 : (0 : Int) ≤ (a : Int) := Int.natCast_nonneg _
      have b1 : (0 : Int) ≤ ((a + 2 : Nat) : Int) := Int.natCast_nonneg _
      have b2 : a ≤ a + 2 := by omega
      have b3 : a + 2 ≤ s.length := by omega
      have hsl : (s.take (a + 2)).drop a = (s.drop a).take 2 := by rw [List.drop_take]; congr 1; omega
      refine bwp_seq fun K hK => bwp_region rfl ?_
      simp -implicitDefEqProofs only [go_sem, ↓reduceIte, h60, h62, hdd]
      refine hK _ ?_; clear hK
      refine bwp_seq fun K3 hK3 => ?_
      refine bwp_block ?_
      refine bwp_seq fun K hK => bwp_region rfl ?_
      simp -implicitDefEqProofs only [go_sem, ↓reduceIte]
      refine hK _ ?_; clear hK
      refine bwp_cond true (by simp [ev, fget]) (fun _ => ?_) (fun h => nomatch h)
      refine bwp_seq fun K hK => bwp_region_draw rfl rfl ?_
      simp -implicitDefEqProofs only [go_sem, ↓reduceIte, hw2, b0, b1, b2, b3, Int.toNat_natCast, hsl]
      refine ⟨rfl, hK _ ?_⟩; clear hK
      refine bwp_ret ?_
      simp only [go_sem]
      refine aend_mem (.d (.str ((s.drop a).take (signL (s.drop a))))) [(0, 0)] [(0, lexC s a rd2 0 0)] ?_ rfl rfl ?_ ⟨rfl, rd2, ⟨by omega, by omega, by omega, fun _ => by rw [hsg]; omega⟩, rfl⟩
      · simp [resA, resVs, resV, fget, hsg]
      · simp [entM, pinv, mget, mset, renL, AV.ren, lexC]
    · have hdn := u8ne (k := 62) hdd
      have hsg : signL (s.drop a) = 0 := by
        rw [hd, hcv, signL, if_neg, if_neg (by decide)]
        have hh : ¬ s[a + 1]? = some 62 := by
          intro h
          apply hdn
          rw [← hd2, List.getD_eq_getElem?_getD, h]
          rfl
        simp [hh]
      refine bwp_seq fun K hK => bwp_region rfl ?_
      simp -implicitDefEqProofs only [go_sem, ↓reduceIte, h60, h62, hdd]
      refine hK _ ?_; clear hK
      refine bwp_seq fun K3 hK3 => ?_
      refine bwp_block ?_
      refine bwp_seq fun K hK => bwp_region rfl ?_
      simp -implicitDefEqProofs only [go_sem, ↓reduceIte]
      refine hK _ ?_; clear hK
      refine bwp_cond false (by simp [ev, fget]) (fun h => nomatch h) (fun _ => ?_)
      refine bwp_seq fun K hK => bwp_region rfl ?_
      simp -implicitDefEqProofs only [go_sem, ↓reduceIte, h60, h62]
      refine hK _ ?_; clear hK
      refine bwp_cond true (by simp [ev, fget]) (fun _ => ?_) (fun h => nomatch h)
      refine bwp_seq fun K hK => bwp_region rfl ?_
      simp -implicitDefEqProofs only [go_sem, ↓reduceIte]
      refine hK _ ?_; clear hK
      refine bwp_ret ?_
      simp only [go_sem]
      refine aend_mem (.d (.str ((s.drop a).take (signL (s.drop a))))) [(0, 0)] [(0, lexC s a rd2 0 0)] ?_ rfl rfl ?_ ⟨rfl, rd2, ⟨by omega, by omega, by omega, fun h => absurd hsg h⟩, rfl⟩
      · rw [hsg]
        simp [resA, resVs, resV, fget]
      · simp [entM, pinv, mget, mset, renL, AV.ren, lexC]
  by_cases h61 : (c.toNat : Int) = 61
  · have hcv := u8eq (k := 61) h61
    refine bwp_seq fun K hK => bwp_region rfl ?_
    simp -implicitDefEqProofs only [go_sem, ↓reduceIte, h60]
    refine hK _ ?_; clear hK
    refine bwp_cond false (by simp [ev, fget]) (fun h => nomatch h) (fun _ => ?_)
    refine bwp_seq fun K hK => bwp_region rfl ?_
    simp -implicitDefEqProofs only [go_sem, ↓reduceIte, h62]
    refine hK _ ?_; clear hK
    refine bwp_cond false (by simp [ev, fget]) (fun h => nomatch h) (fun _ => ?_)
    refine bwp_seq fun K hK => bwp_region rfl ?_
    simp -implicitDefEqProofs only [go_sem, ↓reduceIte, h61]
    refine hK _ ?_; clear hK
    refine bwp_cond true (by simp [ev, fget]) (fun _ => ?_) (fun h => nomatch h)
    refine bwp_skip ?_
    refine hK2 _ ?_; clear hK2
    refine bwp_cond true (by simp [ev, fget]) (fun _ => ?_) (fun h => nomatch h)
    refine bwp_seq fun K hK => bwp_region rfl ?_
    simp -implicitDefEqProofs only [go_sem, ↓reduceIte, hw1]
    refine peek_callK hs a rd1 0 0 (a + 1) rfl ?_
    obtain ⟨rd2, hr2, q1, q2, q3, q4⟩ : ∃ rd2, rdW s rd1 (a + 1) = rd2 ∧ rd1 ≤ rd2 ∧ rd2 ≤ s.length ∧ rd2 ≤ max rd (a + 2) ∧ (a + 1 < s.length → a + 2 ≤ rd2) := ⟨_, rfl, by unfold rdW; split <;> omega⟩
    rw [hr2]
    generalize hd2 : s.getD (a + 1) 0 = d
    simp -implicitDefEqProofs only [go_sem, ↓reduceIte, lexC, mset]
    refine hK _ ?_; clear hK
    by_cases hdd : (d.toNat : Int) = 61
    · have hdv := u8eq (k := 61) hdd
      have hin : a + 1 < s.length := by
        rcases Nat.lt_or_ge (a + 1) s.length with h | h
        · exact h
        · rw [List.getD_eq_getElem?_getD, List.getElem?_eq_none (by omega)] at hd2
          rw [← hd2] at hdv
          cases hdv
      have hdr := drop_at hin
      rw [hd2, hdv] at hdr
      have hsg : signL (s.drop a) = 2 := by rw [hd, hdr, hcv]; rfl
      have hw2 : IntKind.i64.wrap ((a : Int) + 2) = ((a + 2 : Nat) : Int) := by rw [wrap_i64 (by omega) (by omega)]; rfl
      have b0 : (0 : Int) ≤ (a : Int) := Int.natCast_nonneg _
      have b1 : (0 : Int) ≤ ((a + 2 : Nat) : Int) := Int.natCast_nonneg _
      have b2 : a ≤ a + 2 := by omega
      have b3 : a + 2 ≤ s.length := by omega
      have hsl : (s.take (a + 2)).drop a = (s.drop a).take 2 := by rw [List.drop_take]; congr 1; omega
      refine bwp_seq fun K hK => bwp_region rfl ?_
      simp -implicitDefEqProofs only [go_sem, ↓reduceIte, h60, h62, h61, hdd]
      refine hK _ ?_; clear hK
      refine bwp_seq fun K3 hK3 => ?_
      refine bwp_block ?_
      refine bwp_seq fun K hK => bwp_region rfl ?_
      simp -implicitDefEqProofs only [go_sem, ↓reduceIte]
      refine hK _ ?_; clear hK
      refine bwp_cond true (by simp [ev, fget]) (fun _ => ?_) (fun h => nomatch h)
      refine bwp_seq fun K hK => bwp_region_draw rfl rfl ?_
      simp -implicitDefEqProofs only [go_sem, ↓reduceIte, hw2, b0, b1, b2, b3, Int.toNat_natCast, hsl]
      refine ⟨rfl, hK _ ?_⟩; clear hK
      refine bwp_ret ?_
      simp only [go_sem]
      refine aend_mem (.d (.str ((s.drop a).take (signL (s.drop a))))) [(0, 0)] [(0, lexC s a rd2 0 0)] ?_ rfl rfl ?_ ⟨rfl, rd2, ⟨by omega, by omega, by omega, fun _ => by rw [hsg]; omega⟩, rfl⟩
      · simp [resA, resVs, resV, fget, hsg]
      · simp [entM, pinv, mget, mset, renL, AV.ren, lexC]
    · have hdn := u8ne (k := 61) hdd
      have hsg : signL (s.drop a) = 1 := by
        rw [hd, hcv, signL, if_neg, if_pos (by decide)]
        have hh : ¬ s[a + 1]? = some 61 := by
          intro h
          apply hdn
          rw [← hd2, List.getD_eq_getElem?_getD, h]
          rfl
        simp [hh]
      refine bwp_seq fun K hK => bwp_region rfl ?_
      simp -implicitDefEqProofs only [go_sem, ↓reduceIte, h60, h62, h61, hdd]
      refine hK _ ?_; clear hK
      refine bwp_seq fun K3 hK3 => ?_
      refine bwp_block ?_
      refine bwp_seq fun K hK => bwp_region rfl ?_
      simp -implicitDefEqProofs only [go_sem, ↓reduceIte]
      refine hK _ ?_; clear hK
      refine bwp_cond false (by simp [ev, fget]) (fun h => nomatch h) (fun _ => ?_)
      refine bwp_seq fun K hK => bwp_region rfl ?_
      simp -implicitDefEqProofs only [go_sem, ↓reduceIte, h60, h62, h61]
      refine hK _ ?_; clear hK
      refine bwp_cond false (by simp [ev, fget]) (fun h => nomatch h) (fun _ => ?_)
      refine bwp_skip ?_
      refine hK3 _ ?_; clear hK3
      refine bwp_seq fun K hK => bwp_region rfl ?_
      simp -implicitDefEqProofs only [go_sem, ↓reduceIte, h60, h62, h61]
      refine hK _ ?_; clear hK
      refine bwp_ret ?_
      simp only [go_sem]
      refine aend_mem (.d (.str ((s.drop a).take (signL (s.drop a))))) [(0, 0)] [(0, lexC s a rd2 0 0)] ?_ rfl rfl ?_ ⟨rfl, rd2, ⟨by omega, by omega, by omega, fun _ => by rw [hsg]; omega⟩, rfl⟩
      · rw [hsg, hd, hcv]
        simp [resA, resVs, resV, fget]
        rfl
      · simp [entM, pinv, mget, mset, renL, AV.ren, lexC]
  by_cases h33 : (c.toNat : Int) = 33
  · have hcv := u8eq (k := 33) h33
    refine bwp_seq fun K hK => bwp_region rfl ?_
    simp -implicitDefEqProofs only [go_sem, ↓reduceIte, h60]
    refine hK _ ?_; clear hK
    refine bwp_cond false (by simp [ev, fget]) (fun h => nomatch h) (fun _ => ?_)
    refine bwp_seq fun K hK => bwp_region rfl ?_
    simp -implicitDefEqProofs only [go_sem, ↓reduceIte, h62]
    refine hK _ ?_; clear hK
    refine bwp_cond false (by simp [ev, fget]) (fun h => nomatch h) (fun _ => ?_)
    refine bwp_seq fun K hK => bwp_region rfl ?_
    simp -implicitDefEqProofs only [go_sem, ↓reduceIte, h61]
    refine hK _ ?_; clear hK
    refine bwp_cond false (by simp [ev, fget]) (fun h => nomatch h) (fun _ => ?_)
    refine bwp_region rfl ?_
    simp -implicitDefEqProofs only [go_sem, ↓reduceIte, h33]
    refine hK2 _ ?_; clear hK2
    refine bwp_cond true (by simp [ev, fget]) (fun _ => ?_) (fun h => nomatch h)
    refine bwp_seq fun K hK => bwp_region rfl ?_
    simp -implicitDefEqProofs only [go_sem, ↓reduceIte, hw1]
    refine peek_callK hs a rd1 0 0 (a + 1) rfl ?_
    obtain ⟨rd2, hr2, q1, q2, q3, q4⟩ : ∃ rd2, rdW s rd1 (a + 1) = rd2 ∧ rd1 ≤ rd2 ∧ rd2 ≤ s.length ∧ rd2 ≤ max rd (a + 2) ∧ (a + 1 < s.length → a + 2 ≤ rd2) := ⟨_, rfl, by unfold rdW; split <;> omega⟩
    rw [hr2]
    generalize hd2 : s.getD (a + 1) 0 = d
    simp -implicitDefEqProofs only [go_sem, ↓reduceIte, lexC, mset]
    refine hK _ ?_; clear hK
    by_cases hdd : (d.toNat : Int) = 61
    · have hdv := u8eq (k := 61) hdd
      have hin : a + 1 < s.length := by
        rcases Nat.lt_or_ge (a + 1) s.length with h | h
        · exact h
        · rw [List.getD_eq_getElem?_getD, List.getElem?_eq_none (by omega)] at hd2
          rw [← hd2] at hdv
          cases hdv
      have hdr := drop_at hin
      rw [hd2, hdv] at hdr
      have hsg : signL (s.drop a) = 2 := by rw [hd, hdr, hcv]; rfl
      have hw2 : IntKind.i64.wrap ((a : Int) + 2) = ((a + 2 : Nat) : Int) := by rw [wrap_i64 (by omega) (by omega)]; rfl
      have b0 : (0 : Int) ≤ (a : Int) := Int.natCast_nonneg _
      have b1 : (0 : Int) ≤ ((a + 2 : Nat) : Int) := Int.natCast_nonneg _
      have b2 : a ≤ a + 2 := by omega
      have b3 : a + 2 ≤ s.length := by omega
      have hsl : (s.take (a + 2)).drop a = (s.drop a).take 2 := by rw [List.drop_take]; congr 1; omega
      refine bwp_seq fun K hK => bwp_region rfl ?_
      simp -implicitDefEqProofs only [go_sem, ↓reduceIte, h60, h62, h61, h33, hdd]
      refine hK _ ?_; clear hK
      refine bwp_seq fun K3 hK3 => ?_
      refine bwp_block ?_
      refine bwp_seq fun K hK => bwp_region rfl ?_
      simp -implicitDefEqProofs only [go_sem, ↓reduceIte]
      refine hK _ ?_; clear hK
      refine bwp_cond true (by simp [ev, fget]) (fun _ => ?_) (fun h => nomatch h)
      refine bwp_seq fun K hK => bwp_region_draw rfl rfl ?_
      simp -implicitDefEqProofs only [go_sem, ↓reduceIte, hw2, b0, b1, b2, b3, Int.toNat_natCast, hsl]
      refine ⟨rfl, hK _ ?_⟩; clear hK
      refine bwp_ret ?_
      simp only [go_sem]
      refine aend_mem (.d (.str ((s.drop a).take (signL (s.drop a))))) [(0, 0)] [(0, lexC s a rd2 0 0)] ?_ rfl rfl ?_ ⟨rfl, rd2, ⟨by omega, by omega, by omega, fun _ => by rw [hsg]; omega⟩, rfl⟩
      · simp [resA, resVs, resV, fget, hsg]
      · simp [entM, pinv, mget, mset, renL, AV.ren, lexC]
    · have hdn := u8ne (k := 61) hdd
      have hsg : signL (s.drop a) = 0 := by
        rw [hd, hcv, signL, if_neg, if_neg (by decide)]
        have hh : ¬ s[a + 1]? = some 61 := by
          intro h
          apply hdn
          rw [← hd2, List.getD_eq_getElem?_getD, h]
          rfl
        simp [hh]
      refine bwp_seq fun K hK => bwp_region rfl ?_
      simp -implicitDefEqProofs only [go_sem, ↓reduceIte, h60, h62, h61, h33, hdd]
      refine hK _ ?_; clear hK
      refine bwp_seq fun K3 hK3 => ?_
      refine bwp_block ?_
      refine bwp_seq fun K hK => bwp_region rfl ?_
      simp -implicitDefEqProofs only [go_sem, ↓reduceIte]
      refine hK _ ?_; clear hK
      refine bwp_cond false (by simp [ev, fget]) (fun h => nomatch h) (fun _ => ?_)
      refine bwp_seq fun K hK => bwp_region rfl ?_
      simp -implicitDefEqProofs only [go_sem, ↓reduceIte, h60, h62, h61, h33]
      refine hK _ ?_; clear hK
      refine bwp_cond true (by simp [ev, fget]) (fun _ => ?_) (fun h => nomatch h)
      refine bwp_seq fun K hK => bwp_region rfl ?_
      simp -implicitDefEqProofs only [go_sem, ↓reduceIte]
      refine hK _ ?_; clear hK
      refine bwp_ret ?_
      simp only [go_sem]
      refine aend_mem (.d (.str ((s.drop a).take (signL (s.drop a))))) [(0, 0)] [(0, lexC s a rd2 0 0)] ?_ rfl rfl ?_ ⟨rfl, rd2, ⟨by omega, by omega, by omega, fun h => absurd hsg h⟩, rfl⟩
      · rw [hsg]
        simp [resA, resVs, resV, fget]
      · simp [entM, pinv, mget, mset, renL, AV.ren, lexC]
  refine bwp_seq fun K hK => bwp_region rfl ?_
  simp -implicitDefEqProofs only [go_sem, ↓reduceIte, h60]
  refine hK _ ?_; clear hK
  refine bwp_cond false (by simp [ev, fget]) (fun h => nomatch h) (fun _ => ?_)
  refine bwp_seq fun K hK => bwp_region rfl ?_
  simp -implicitDefEqProofs only [go_sem, ↓reduceIte, h62]
  refine hK _ ?_; clear hK
  refine bwp_cond false (by simp [ev, fget]) (fun h => nomatch h) (fun _ => ?_)
  refine bwp_seq fun K hK => bwp_region rfl ?_
  simp -implicitDefEqProofs only [go_sem, ↓reduceIte, h61]
  refine hK _ ?_; clear hK
  refine bwp_cond false (by simp [ev, fget]) (fun h => nomatch h) (fun _ => ?_)
  refine bwp_region rfl ?_
  simp -implicitDefEqProofs only [go_sem, ↓reduceIte, h33]
  refine hK2 _ ?_; clear hK2
  refine bwp_cond false (by simp [ev, fget]) (fun h => nomatch h) (fun _ => ?_)
  refine bwp_skip ?_
  refine hK1 _ ?_; clear hK1
  have n60 := u8ne (k := 60) h60
  have n62 := u8ne (k := 62) h62
  have n61 := u8ne (k := 61) h61
  have n33 := u8ne (k := 33) h33
  have hsg : signL (s.drop a) = if c ∈ plain then 1 else 0 := by
    rw [hd, signL, if_neg (by simp [n60, n62, n61, n33])]
    simp [ones_iff, n60, n61]
  have ki := idx_pure plain c
  refine bwp_seq fun K1 hK1 => ?_
  by_cases hm : c ∈ plain
  · rw [if_pos hm] at hsg
    have h0 : ¬ (c.toNat : Int) = 0 := by
      intro h
      have := u8eq (k := 0) h
      rw [this] at hm
      revert hm; decide
    have hi := (idx_mem plain c).2 hm
    generalize Lib.indexByte plain c = ix at ki hi
    unfold plain at ki
    refine bwp_seq fun K hK => bwp_region rfl ?_
    simp -implicitDefEqProofs only [go_sem, ↓reduceIte, h0]
    repeat' (first
      | (refine gateK_split (fun hb => ?_) (fun hb => ?_) <;> simp -implicitDefEqProofs only [go_sem, ↓reduceIte, hb, h0, hi])
      | (refine dGateK_split (fun hb => ?_) (fun hb => ?_) <;> simp -implicitDefEqProofs only [go_sem, ↓reduceIte, hb, h0, hi])
      | (refine callK_pure (ki) rfl rfl ?_; simp -implicitDefEqProofs only [go_sem, ↓reduceIte, h0, hi])
      | (refine dCallK_pure (ki) rfl rfl ?_; simp -implicitDefEqProofs only [go_sem, ↓reduceIte, h0, hi])
      | (rw [if_pos (by (try simp only [List.length_append, List.length_cons, List.length_nil, List.length_map]); omega)]; simp -implicitDefEqProofs only [go_sem, ↓reduceIte, h0, hi]))
    refine hK _ ?_; clear hK
    refine bwp_cond true (by simp [ev, fget]) (fun _ => ?_) (fun h => nomatch h)
    have henc : ∀ k ∈ plain, (Utf8.encode (k.toNat : Int)).data.toList = [k] := by decide
    refine bwp_seq fun K hK => bwp_region rfl ?_
    simp -implicitDefEqProofs only [go_sem, ↓reduceIte]
    refine hK _ ?_; clear hK
    refine bwp_ret ?_
    simp only [go_sem]
    refine aend_mem (.d (.str ((s.drop a).take (signL (s.drop a))))) [(0, 0)] [(0, lexC s a rd1 0 0)] ?_ rfl rfl ?_ ⟨rfl, rd1, ⟨by omega, by omega, by omega, fun _ => by rw [hsg]; omega⟩, rfl⟩
    · rw [hsg, hd]
      simp [resA, resVs, resV, fget, henc c hm]
    · simp [entM, pinv, mget, mset, renL, AV.ren, lexC]
  · rw [if_neg hm] at hsg
    have hi : ¬ 0 ≤ Lib.indexByte plain c := fun h => hm ((idx_mem plain c).1 h)
    by_cases h0 : (c.toNat : Int) = 0
    · refine bwp_seq fun K hK => bwp_region rfl ?_
      simp -implicitDefEqProofs only [go_sem, ↓reduceIte, h0]
      refine hK _ ?_; clear hK
      refine bwp_cond false (by simp [ev, fget]) (fun h => nomatch h) (fun _ => ?_)
      refine bwp_skip ?_
      refine hK1 _ ?_; clear hK1
      refine bwp_seq fun K hK => bwp_region rfl ?_
      simp -implicitDefEqProofs only [go_sem, ↓reduceIte]
      refine hK _ ?_; clear hK
      refine bwp_ret ?_
      simp only [go_sem]
      refine aend_mem (.d (.str ((s.drop a).take (signL (s.drop a))))) [(0, 0)] [(0, lexC s a rd1 0 0)] ?_ rfl rfl ?_ ⟨rfl, rd1, ⟨by omega, by omega, by omega, fun h => absurd hsg h⟩, rfl⟩
      · rw [hsg]
        simp [resA, resVs, resV, fget]
      · simp [entM, pinv, mget, mset, renL, AV.ren, lexC]
    · generalize Lib.indexByte plain c = ix at ki hi
      unfold plain at ki
      refine bwp_seq fun K hK => bwp_region rfl ?_
      simp -implicitDefEqProofs only [go_sem, ↓reduceIte, h0]
      repeat' (first
        | (refine gateK_split (fun hb => ?_) (fun hb => ?_) <;> simp -implicitDefEqProofs only [go_sem, ↓reduceIte, hb, h0, hi])
        | (refine dGateK_split (fun hb => ?_) (fun hb => ?_) <;> simp -implicitDefEqProofs only [go_sem, ↓reduceIte, hb, h0, hi])
        | (refine callK_pure (ki) rfl rfl ?_; simp -implicitDefEqProofs only [go_sem, ↓reduceIte, h0, hi])
        | (refine dCallK_pure (ki) rfl rfl ?_; simp -implicitDefEqProofs only [go_sem, ↓reduceIte, h0, hi])
        | (rw [if_pos (by (try simp only [List.length_append, List.length_cons, List.length_nil, List.length_map]); omega)]; simp -implicitDefEqProofs only [go_sem, ↓reduceIte, h0, hi]))
      refine hK _ ?_; clear hK
      refine bwp_cond false (by simp [ev, fget]) (fun h => nomatch h) (fun _ => ?_)
      refine bwp_skip ?_
      refine hK1 _ ?_; clear hK1
      refine bwp_seq fun K hK => bwp_region rfl ?_
      simp -implicitDefEqProofs only [go_sem, ↓reduceIte]
      refine hK _ ?_; clear hK
      refine bwp_ret ?_
      simp only [go_sem]
      refine aend_mem (.d (.str ((s.drop a).take (signL (s.drop a))))) [(0, 0)] [(0, lexC s a rd1 0 0)] ?_ rfl rfl ?_ ⟨rfl, rd1, ⟨by omega, by omega, by omega, fun h => absurd hsg h⟩, rfl⟩
      · rw [hsg]
        simp [resA, resVs, resV, fget]
      · simp [entM, pinv, mget, mset, renL, AV.ren, lexC]
end Go.Proofs.YtpfbljkfbjjlkaaGreatDoor

/- The document's Parse of a number, gone through. -/
namespace Go.Proofs.YtpfbljkfbjjlkaaGreatDoor
open Go Go.Jq
set_option maxRecDepth 100000
set_option linter.unusedSimpArgs false
end Go.Proofs.YtpfbljkfbjjlkaaGreatDoor

/- The document's next token, gone through. -/
namespace Go.Proofs.YtpfbljkfbjjlkaaGreatDoor
open Go Go.Jq
set_option maxRecDepth 100000
set_option linter.unusedSimpArgs false
end Go.Proofs.YtpfbljkfbjjlkaaGreatDoor

/- The document's next token, gone through: signs. -/
namespace Go.Proofs.YtpfbljkfbjjlkaaGreatDoor
open Go Go.Jq
set_option maxRecDepth 100000
set_option linter.unusedSimpArgs false
end Go.Proofs.YtpfbljkfbjjlkaaGreatDoor

/- All tokens of a text by the document's reader, gone through. -/
namespace Go.Proofs.YtpfbljkfbjjlkaaGreatDoor
open Go Go.Jq
set_option maxRecDepth 100000
set_option linter.unusedSimpArgs false
theorem tokAt_bad {a : Nat} {l : List UInt8} (h : (tokAt a l).2.2 ≠ 0) : (noTok, (tokAt a l).2.1, (tokAt a l).2.2) = tokAt a l := by
  cases l with
  | nil => exact absurd rfl h
  | cons c r =>
    rw [tokAt] at h ⊢
    split at h
    · exact absurd rfl h
    · rename_i h1
      rw [if_neg h1]
      split at h
      · rename_i h2
        rw [if_pos h2]
        split at h
        · exact absurd rfl h
        · rename_i h3
          rw [if_neg h3]
      · rename_i h2
        rw [if_neg h2]
        split at h
        · rename_i h3
          rw [if_pos h3]
        · exact absurd rfl h
end Go.Proofs.YtpfbljkfbjjlkaaGreatDoor

/- The lexer's next token, gone through. -/
namespace Go.Proofs.YtpfbljkfbjjlkaaGreatDoor
open Go Go.Jq
set_option maxRecDepth 100000
set_option linter.unusedSimpArgs false
theorem fail_calls (s : List UInt8) (a rd : Nat) (e : Int) : ACalls Tryz.prog 124 [.ptr 0 0, .d (.int .i64 e)] [(0, lexC s a rd 0 0)] fun r m' => r = .tup [.agg [.d (.int .i64 0), .d (.str []), .d (.int .i64 0)], .agg [.d (.int .i64 e), .d (.int .i64 a)]] ∧ m' = [(0, lexC s a rd e a)] := by
  have h34 : ldk Tryz.prog 67 = some (some 3) := by kernel_rfl
  have h26 : ldk Tryz.prog 35 = some (some 2) := by kernel_rfl
  refine acalls_of Tryz.func124 ac124_ok Tryz.ntmps124 Tryz.results124 rfl ?_
  unfold ac124
  refine bwp_seq fun K hK => bwp_region rfl ?_
  simp only [go_sem, ↓reduceIte]
  refine hK _ ?_; clear hK
  refine bwp_seq fun K hK => bwp_region rfl ?_
  simp only [go_sem, ↓reduceIte, lexC]
  refine hK _ ?_; clear hK
  refine bwp_seq fun K hK => bwp_region_draw rfl rfl ?_
  simp only [go_sem, ↓reduceIte]
  refine ⟨rfl, hK _ ?_⟩; clear hK
  refine bwp_ret ?_
  simp only [go_sem]
  refine aend_mem (.tup [.agg [.d (.int .i64 0), .d (.str []), .d (.int .i64 0)], .agg [.d (.int .i64 e), .d (.int .i64 a)]]) [(0, 0)] [(0, lexC s a rd e a)] ?_ rfl rfl ?_ ⟨rfl, rfl⟩
  · simp [resA, resVs, resV, fget, mget, mset, loadA, h34, h26]
  · simp [entM, pinv, mget, mset, renL, AV.ren, lexC]
theorem fail_callK (s : List UInt8) (a rd : Nat) (e : Int) {j : Nat} {dst : Option Nat} {r : List AOper} {K : St → Prop} {t : Fr} {m : Mem} {n : Nat} (hm : mget m j = some (lexC s a rd 0 0))
    (hk : runOps Tryz.prog r ⟨putF t dst (.tup [.agg [.d (.int .i64 0), .d (.str []), .d (.int .i64 0)], .agg [.d (.int .i64 e), .d (.int .i64 a)]]), mset m j (lexC s a rd e a), n + 1⟩ K) : callK Tryz.prog 124 [.ptr j 0, .d (.int .i64 e)] dst r K t m n := by
  refine meth_callK (rest := [.d (.int .i64 e)]) (Q := fun r c' => r = .tup [.agg [.d (.int .i64 0), .d (.str []), .d (.int .i64 0)], .agg [.d (.int .i64 e), .d (.int .i64 a)]] ∧ c' = lexC s a rd e a) ((fail_calls s a rd e).mono fun r m' h => ⟨_, h.2, h.1, rfl⟩) rfl rfl ?_ hm ?_
  · rintro _ _ ⟨rfl, rfl⟩; exact ⟨rfl, rfl⟩
  · rintro _ _ ⟨rfl, rfl⟩; exact hk
theorem sign_callK {s : List UInt8} (hs : s.length ≤ 140737488351232) {a rd : Nat} (ha : a < s.length) (hr : a ≤ rd ∧ rd ≤ s.length) {j : Nat} {dst : Option Nat} {r : List AOper} {K : St → Prop} {t : Fr} {m : Mem} {n : Nat} (hm : mget m j = some (lexC s a rd 0 0))
    (hk : ∀ rd', (rd ≤ rd' ∧ a + 1 ≤ rd' ∧ rd' ≤ s.length ∧ (signL (s.drop a) ≠ 0 → a + signL (s.drop a) ≤ rd' ∧ rd' ≤ max rd (a + signL (s.drop a) + 1))) →
      runOps Tryz.prog r ⟨putF t dst (.d (.str ((s.drop a).take (signL (s.drop a))))), mset m j (lexC s a rd' 0 0), n + 1⟩ K) : callK Tryz.prog 125 [.ptr j 0] dst r K t m n := by
  refine meth_callK (rest := []) (Q := fun r c' => sgQ s a rd r [(0, c')]) ((sign_calls hs ha hr).mono fun r m' h => ?_) rfl rfl ?_ hm ?_
  · obtain ⟨h1, rd', h2, h3⟩ := h
    exact ⟨_, h3, h1, rd', h2, rfl⟩
  · rintro _ c' ⟨rfl, rd', _, h⟩
    have : c' = lexC s a rd' 0 0 := by simpa using h
    subst this
    exact ⟨rfl, rfl⟩
  · rintro _ c' ⟨rfl, rd', h1, h⟩
    have : c' = lexC s a rd' 0 0 := by simpa using h
    subst this
    exact hk rd' h1
theorem not_let_dig' {c : UInt8} (h : digB c = true) : letB c = false := by
  simp only [digB, Bool.and_eq_true, decide_eq_true_eq] at h
  have : ¬ 97 ≤ c.toNat := by omega
  simp [letB, this]
theorem kind_let (c : UInt8) : kindW c = 2 ↔ letB c = true := by
  unfold kindW
  cases h : letB c with
  | true => simp [(let_heads h).1]
  | false => cases blankB c <;> cases digB c <;> decide
theorem kind_dig (c : UInt8) : kindW c = 3 ↔ digB c = true := by
  unfold kindW
  cases h : digB c with
  | true => simp [(dig_heads h).1, not_let_dig' h]
  | false => cases blankB c <;> cases letB c <;> decide
def nxR (s : List UInt8) (a : Nat) : AV := .tup [.agg ((nextW s a).1.cells.map .d), .agg [.d (.int .i64 (nextW s a).2.2), .d (.int .i64 (errAt s a))]]
theorem nxR_in (s : List UInt8) (a : Nat) : inB (fun _ => none) (nxR s a) = true := rfl
theorem nxR_ok {s : List UInt8} {a : Nat} {t : Tok} {e : Nat} (h : nextW s a = (t, e, 0)) : nxR s a = .tup [.agg [.d (.int .i64 t.kd), .d (.str t.tx), .d (.int .i64 t.pl)], .agg [.d (.int .i64 0), .d (.int .i64 0)]] := by
  simp [nxR, errAt, h, Tok.cells]
theorem nxR_bad {s : List UInt8} {a : Nat} {e : Nat} {c : Int} (hc : c ≠ 0) (h : nextW s a = (noTok, e, c)) : nxR s a = .tup [.agg [.d (.int .i64 0), .d (.str []), .d (.int .i64 0)], .agg [.d (.int .i64 c), .d (.int .i64 (skipA s a))]] := by
  simp [nxR, errAt, h, hc, Tok.cells, noTok]
def nxQ (s : List UInt8) (a rd : Nat) (r : AV) (c' : List AV) : Prop :=
  r = nxR s a ∧ ∃ rd', (rd ≤ rd' ∧ rd' ≤ s.length ∧ (nextW s a).2.1 ≤ rd' ∧ ((nextW s a).2.2 = 0 → rd' ≤ max rd ((nextW s a).2.1 + 1))) ∧ c' = lexC s (nextW s a).2.1 rd' (nextW s a).2.2 (errAt s a)
def fnS (s : List UInt8) (p q rd : Nat) (k : Int) : St := ⟨[(6, .d (.int .i64 q)), (0, .ptr 0 0), (5, .ptr 3 0), (2, .ptr 1 0), (3, .ptr 2 0)], [(0, lexC s p rd 0 0), (1, [.d (.int .i64 0), .d (.str []), .d (.int .i64 0)]), (2, [.d (.int .i64 0), .d (.int .i64 0)]), (3, [.d (.int .i64 k), .d (.str []), .d (.int .i64 p)])], 4⟩
def kdS (s : List UInt8) (p rd : Nat) (c : UInt8) (b : Bool) : St := ⟨[(78, .d (.bool b)), (6, .d (.int .i64 p)), (4, .d (.int .u8 c.toNat)), (0, .ptr 0 0), (5, .ptr 3 0), (2, .ptr 1 0), (3, .ptr 2 0)], [(0, lexC s p rd 0 0), (1, [.d (.int .i64 0), .d (.str []), .d (.int .i64 0)]), (2, [.d (.int .i64 0), .d (.int .i64 0)]), (3, [.d (.int .i64 0), .d (.str []), .d (.int .i64 p)])], 4⟩
set_option maxHeartbeats 16000000 in
theorem next_calls {s : List UInt8} (hs : s.length ≤ 140737488351232) {a rd : Nat} (ha : a ≤ s.length) (hr : a ≤ rd ∧ rd ≤ s.length) :
    ACalls Tryz.prog 85 [.ptr 0 0] [(0, lexC s a rd 0 0)] fun r m' => ∃ c', m' = [(0, c')] ∧ nxQ s a rd r c' := by
  have h34 : ldk Tryz.prog 67 = some (some 3) := by kernel_rfl
  have h26 : ldk Tryz.prog 35 = some (some 2) := by kernel_rfl
  have hskl := skipA_le ha
  have hska := le_skipA s a
  have hnw : nextW s a = tokAt (skipA s a) (s.drop (skipA s a)) := rfl
  refine acalls_of Tryz.func85 ac85_ok Tryz.ntmps85 Tryz.results85 rfl ?_
  unfold ac85
  refine bwp_seq fun K hK => bwp_region rfl ?_
  simp only [go_sem, ↓reduceIte]
  refine hK _ ?_; clear hK
  refine bwp_seq fun K1 hK1 => ?_
  refine bwp_seq fun K hK => bwp_region rfl ?_
  simp only [go_sem, ↓reduceIte, lexC]
  refine hK _ ?_; clear hK
  refine bwp_cond false (by simp [ev, fget]) (fun h => nomatch h) (fun _ => ?_)
  refine bwp_skip ?_
  refine hK1 _ ?_; clear hK1
  refine bwp_seq fun K hK => bwp_region rfl ?_
  simp only [go_sem, ↓reduceIte]
  refine skip_callK hs ha hr rfl ?_
  intro rd1 hrd1
  unfold rdIn at hrd1
  generalize hp : skipA s a = p at *
  simp only [go_sem, ↓reduceIte, lexC, mset]
  refine hK _ ?_; clear hK
  refine bwp_seq fun K1 hK1 => ?_
  refine bwp_seq fun K hK => bwp_region rfl ?_
  simp only [go_sem, ↓reduceIte]
  refine has_callK s p rd1 0 0 p rfl ?_
  by_cases hlt : p < s.length
  · simp only [go_sem, ↓reduceIte, hlt, decide_true, lexC, mset]
    refine hK _ ?_; clear hK
    refine bwp_cond false (by simp [ev, fget]) (fun h => nomatch h) (fun _ => ?_)
    refine bwp_skip ?_
    refine hK1 _ ?_; clear hK1
    refine bwp_seq fun K hK => bwp_region rfl ?_
    simp only [go_sem, ↓reduceIte]
    refine peek_callK hs p rd1 0 0 p rfl ?_
    have hd := drop_at hlt
    rw [rdW_lt hlt]
    generalize hcd : s.getD p 0 = c at hd
    obtain ⟨rd2, hr2, b1, b2, b3, b4⟩ : ∃ rd2, max rd1 (p + 1) = rd2 ∧ rd ≤ rd2 ∧ p + 1 ≤ rd2 ∧ rd2 ≤ s.length ∧ rd2 ≤ max rd (p + 1) := ⟨_, rfl, by omega⟩
    rw [hr2]
    rw [hd] at hnw
    simp only [go_sem, ↓reduceIte, lexC, mset]
    refine hK _ ?_; clear hK
    refine bwp_seq fun K hK => bwp_region rfl ?_
    simp only [go_sem, ↓reduceIte]
    refine hK _ ?_; clear hK
    refine bwp_seq fun K hK => bwp_region rfl ?_
    simp only [go_sem, ↓reduceIte]
    refine hK _ ?_; clear hK
    refine bwp_seq fun K1 hK1 => ?_
    refine bwp_block ?_
    have fin : ∀ (k : Int) (q rd' : Nat) (S : St), nextW s a = (⟨k, (s.drop p).take (q - p), p⟩, q, 0) → p ≤ q → q ≤ s.length → (rd ≤ rd' ∧ rd' ≤ s.length ∧ q ≤ rd' ∧ rd' ≤ max rd (q + 1)) → Leads (mbound [(0, lexC s a rd 0 0)]) 142 S (fnS s p q rd' k) → K1 S := by
      intro k q rd' S hn hq1 hq2 hb hS
      refine hK1 _ ?_; clear hK1
      refine bwp_leads hS ?_
      have hsl : (s.take q).drop p = (s.drop p).take (q - p) := by rw [List.drop_take]
      have i0 : (0 : Int) ≤ (p : Int) := Int.natCast_nonneg _
      have i1 : (0 : Int) ≤ (q : Int) := Int.natCast_nonneg _
      unfold fnS lexC
      refine bwp_seq fun K hK => bwp_region_draw rfl rfl ?_
      simp only [go_sem, ↓reduceIte, i0, i1, hq1, hq2, Int.toNat_natCast, hsl]
      refine ⟨rfl, hK _ ?_⟩; clear hK
      refine bwp_seq fun K hK => bwp_region rfl ?_
      simp only [go_sem, ↓reduceIte]
      refine hK _ ?_; clear hK
      refine bwp_ret ?_
      simp only [go_sem]
      refine aend_mem (nxR s a) [(0, 0)] [(0, lexC s q rd' 0 0)] ?_ rfl rfl ?_ ⟨_, rfl, rfl, rd', ⟨by omega, by omega, by rw [hn]; exact hb.2.2.1, fun _ => by rw [hn]; exact hb.2.2.2⟩, by unfold errAt; rw [hn]; rfl⟩
      · rw [nxR_ok hn]
        simp [resA, resVs, resV, fget, mget, mset, loadA, h34, h26]
      · simp [entM, pinv, mget, mset, renL, AV.ren, lexC]
    have kc := kind_pure c
    have hrun : ∀ q, q = runL (s.drop (p + 1)) → p + (1 + q) ≤ s.length := fun q h => by
      have := runL_le (s.drop (p + 1))
      rw [List.length_drop] at this
      omega
    have htk : ∀ q, (s.drop p).take (p + (1 + q) - p) = c :: (s.drop (p + 1)).take q := fun q => by
      rw [hd, show p + (1 + q) - p = q + 1 by omega, List.take_succ_cons]
    by_cases hlet : letB c = true
    · have hk2 := (kind_let c).2 hlet
      have haln : alnB c = true := by unfold alnB; rw [hlet]; rfl
      have hrl : runL (s.drop p) = 1 + runL (s.drop (p + 1)) := by rw [hd, runL, if_pos haln]
      rw [tokAt, if_pos hlet] at hnw
      refine bwp_seq fun K hK => bwp_region rfl ?_
      simp only [go_sem, ↓reduceIte]
      refine callK_pure kc rfl rfl ?_
      simp only [go_sem, ↓reduceIte, hk2]
      refine hK _ ?_; clear hK
      refine bwp_cond true (by simp [ev, fget]) (fun _ => ?_) (fun h => nomatch h)
      refine bwp_region rfl ?_
      simp only [go_sem, ↓reduceIte]
      refine run_callK hs (by omega) ⟨by omega, b3⟩ rfl ?_
      intro rd' hrd'
      rw [hrl] at hrd' ⊢
      unfold rdIn at hrd'
      have hq := hrun _ rfl
      have htq := htk (runL (s.drop (p + 1)))
      rw [← htq] at hnw
      have hq0 : p + 1 ≤ p + (1 + runL (s.drop (p + 1))) := by omega
      generalize p + (1 + runL (s.drop (p + 1))) = q at hnw hrd' hq hq0 ⊢
      simp only [go_sem, ↓reduceIte, lexC, mset]
      refine fin 1 q rd' _ hnw (by omega) hq (by omega) ?_
      exact Leads.ent [(0, 0), (1, 1), (2, 2), (6, 3)] ⟨by simp [entT, fget, AV.ren, renL, pget, fnS], by simp [entM, pinv, mget, mset, renL, AV.ren, fnS, lexC], rfl, rfl⟩
    · have hk2 : ¬ kindW c = 2 := fun h => hlet ((kind_let c).1 h)
      rw [tokAt, if_neg hlet] at hnw
      refine bwp_seq fun K hK => bwp_region rfl ?_
      simp only [go_sem, ↓reduceIte]
      refine callK_pure kc rfl rfl ?_
      simp only [go_sem, ↓reduceIte, hk2]
      refine hK _ ?_; clear hK
      refine bwp_cond false (by simp [ev, fget]) (fun h => nomatch h) (fun _ => ?_)
      have hH : ((s.drop (p + 1)).head?.map digB).getD false = digB (s.getD (p + 1) 0) := by
        rcases Nat.lt_or_ge (p + 1) s.length with h | h
        · rw [drop_at h]; rfl
        · rw [List.drop_eq_nil_of_le h, List.getD_eq_getElem?_getD, List.getElem?_eq_none h]; rfl
      have hw1 : IntKind.i64.wrap ((p : Int) + 1) = ((p + 1 : Nat) : Int) := by rw [wrap_i64 (by omega) (by omega)]; rfl
      rw [hH] at hnw
      refine bwp_seq fun K hK => bwp_region rfl ?_
      simp only [go_sem, ↓reduceIte]
      have yes : (digB c = true ∨ (c = 45 ∧ digB (s.getD (p + 1) 0) = true)) → ∀ (rd3 : Nat) (S : St), (rd ≤ rd3 ∧ p + 1 ≤ rd3 ∧ rd3 ≤ s.length ∧ rd3 ≤ max rd (p + 2)) → Leads (mbound [(0, lexC s a rd 0 0)]) 142 S (kdS s p rd3 c true) → K S := by
        intro hdg rd3 S hb hS
        rw [if_pos hdg] at hnw
        refine hK _ ?_; clear hK
        refine bwp_leads hS ?_
        unfold kdS lexC
        refine bwp_cond true (by simp [ev, fget]) (fun _ => ?_) (fun h => nomatch h)
        refine bwp_seq fun K hK => bwp_region rfl ?_
        simp only [go_sem, ↓reduceIte, hw1]
        refine run_callK hs (by omega) ⟨by omega, hb.2.2.1⟩ rfl ?_
        intro rd' hrd'
        unfold rdIn at hrd'
        have hq := hrun _ rfl
        have htq := htk (runL (s.drop (p + 1)))
        have hq0 : p + 1 ≤ p + (1 + runL (s.drop (p + 1))) := by omega
        have hql : (c :: (s.drop (p + 1)).take (runL (s.drop (p + 1)))).length ≤ 281474976710656 := by
          rw [List.length_cons, List.length_take, List.length_drop]
          omega
        have kp := parse_pure hql
        rw [← htq] at hnw kp
        rw [show p + 1 + runL (s.drop (p + 1)) = p + (1 + runL (s.drop (p + 1))) by omega] at hrd' ⊢
        generalize p + (1 + runL (s.drop (p + 1))) = q at hnw hrd' hq hq0 kp ⊢
        simp only [go_sem, ↓reduceIte, lexC, mset]
        refine hK _ ?_; clear hK
        have hsl : (s.take q).drop p = (s.drop p).take (q - p) := by rw [List.drop_take]
        have i0 : (0 : Int) ≤ (p : Int) := Int.natCast_nonneg _
        have i1 : (0 : Int) ≤ (q : Int) := Int.natCast_nonneg _
        have i2 : p ≤ q := by omega
        generalize hw : (s.drop p).take (q - p) = w at *
        generalize parseW w = pr at *
        obtain ⟨pn, pb⟩ := pr
        refine bwp_seq fun K hK => bwp_region_draw rfl rfl ?_
        simp only [go_sem, ↓reduceIte, i0, i1, i2, hq, Int.toNat_natCast, hsl]
        refine dCallK_pure kp rfl rfl ?_
        simp only [go_sem, ↓reduceIte]
        refine ⟨rfl, hK _ ?_⟩; clear hK
        cases pb with
        | true =>
          rw [if_pos rfl] at hnw
          refine bwp_seq fun K hK => bwp_region rfl ?_
          simp only [go_sem, ↓reduceIte]
          refine hK _ ?_; clear hK
          refine bwp_cond false (by simp [ev, fget]) (fun h => nomatch h) (fun _ => ?_)
          refine bwp_skip ?_
          simp only [go_sem, ↓reduceIte]
          refine fin 2 q rd' _ (by rw [hnw, hw]) (by omega) hq (by omega) ?_
          exact Leads.ent [(0, 0), (1, 1), (2, 2), (3, 3)] ⟨by simp [entT, fget, AV.ren, renL, pget, fnS], by simp [entM, pinv, mget, mset, renL, AV.ren, fnS, lexC], rfl, rfl⟩
        | false =>
          rw [if_neg (by exact Bool.false_ne_true)] at hnw
          refine bwp_seq fun K hK => bwp_region rfl ?_
          simp only [go_sem, ↓reduceIte]
          refine hK _ ?_; clear hK
          refine bwp_cond true (by simp [ev, fget]) (fun _ => ?_) (fun h => nomatch h)
          refine bwp_seq fun K hK => bwp_region rfl ?_
          simp only [go_sem, ↓reduceIte]
          refine fail_callK s p rd' 5 rfl ?_
          simp only [go_sem, ↓reduceIte, lexC, mset]
          refine hK _ ?_; clear hK
          refine bwp_ret ?_
          simp only [go_sem]
          refine aend_mem (nxR s a) [(0, 0)] [(0, lexC s p rd' 5 p)] ?_ rfl rfl ?_ ⟨_, rfl, rfl, rd', ⟨by omega, by omega, by rw [hnw]; simp only; omega, fun h => by rw [hnw] at h; cases h⟩, by unfold errAt; rw [hnw, hp]; rfl⟩
          · rw [nxR_bad (by decide) hnw, hp]
            simp [resA, resVs, resV, fget, mget, mset, loadA, h34, h26]
          · simp [entM, pinv, mget, mset, renL, AV.ren, lexC]
      have no : ¬ (digB c = true ∨ (c = 45 ∧ digB (s.getD (p + 1) 0) = true)) → ∀ (rd3 : Nat) (S : St), (rd ≤ rd3 ∧ p + 1 ≤ rd3 ∧ rd3 ≤ s.length ∧ rd3 ≤ max rd (p + 2)) → Leads (mbound [(0, lexC s a rd 0 0)]) 142 S (kdS s p rd3 c false) → K S := by
        intro hdg rd3 S hb hS
        rw [if_neg hdg] at hnw
        refine hK _ ?_; clear hK
        refine bwp_leads hS ?_
        unfold kdS lexC
        refine bwp_cond false (by simp [ev, fget]) (fun h => nomatch h) (fun _ => ?_)
        refine bwp_seq fun K hK => bwp_region rfl ?_
        simp only [go_sem, ↓reduceIte]
        refine sign_callK hs hlt ⟨by omega, hb.2.2.1⟩ rfl ?_
        intro rd' hrd'
        have hsl := signL_le (s.drop p)
        have hlw : ((s.drop p).take (signL (s.drop p))).length = signL (s.drop p) := by rw [List.length_take]; omega
        rw [List.length_drop] at hsl
        rw [← hd] at hnw
        generalize hk : signL (s.drop p) = k at *
        simp only [go_sem, ↓reduceIte, lexC, mset]
        refine hK _ ?_; clear hK
        refine bwp_seq fun K3 hK3 => ?_
        by_cases hk0 : k = 0
        · subst hk0
          rw [if_pos rfl] at hnw
          refine bwp_seq fun K hK => bwp_region rfl ?_
          simp only [go_sem, ↓reduceIte, List.take_zero]
          refine hK _ ?_; clear hK
          refine bwp_cond true (by simp [ev, fget]) (fun _ => ?_) (fun h => nomatch h)
          refine bwp_seq fun K hK => bwp_region rfl ?_
          simp only [go_sem, ↓reduceIte]
          refine fail_callK s p rd' 4 rfl ?_
          simp only [go_sem, ↓reduceIte, lexC, mset]
          refine hK _ ?_; clear hK
          refine bwp_ret ?_
          simp only [go_sem]
          refine aend_mem (nxR s a) [(0, 0)] [(0, lexC s p rd' 4 p)] ?_ rfl rfl ?_ ⟨_, rfl, rfl, rd', ⟨by omega, by omega, by rw [hnw]; simp only; omega, fun h => by rw [hnw] at h; cases h⟩, by unfold errAt; rw [hnw, hp]; rfl⟩
          · rw [nxR_bad (by decide) hnw, hp]
            simp [resA, resVs, resV, fget, mget, mset, loadA, h34, h26]
          · simp [entM, pinv, mget, mset, renL, AV.ren, lexC]
        · rw [if_neg hk0] at hnw
          have hne : ¬ (s.drop p).take k = [] := fun h => by rw [h] at hlw; simp at hlw; omega
          have hb2 := hrd'.2.2.2 hk0
          have hwk : IntKind.i64.wrap ((p : Int) + (k : Int)) = ((p + k : Nat) : Int) := by rw [wrap_i64 (by omega) (by omega)]; rfl
          have hqk : p + k - p = k := by omega
          have hpk1 : p + 1 ≤ p + k := by omega
          have hpk2 : p + k ≤ s.length := by omega
          generalize hw : (s.drop p).take k = w at *
          refine bwp_seq fun K hK => bwp_region rfl ?_
          simp only [go_sem, ↓reduceIte, hne]
          refine hK _ ?_; clear hK
          refine bwp_cond false (by simp [ev, fget]) (fun h => nomatch h) (fun _ => ?_)
          refine bwp_skip ?_
          refine hK3 _ ?_; clear hK3
          refine bwp_region_draw rfl rfl ?_
          simp only [go_sem, ↓reduceIte, hlw, hwk]
          refine ⟨rfl, fin 3 (p + k) rd' _ (by rw [hnw, hqk, hw]) (by omega) hpk2 (by omega) ?_⟩
          exact Leads.ent [(0, 0), (1, 1), (2, 2), (3, 3)] ⟨by simp [entT, fget, AV.ren, renL, pget, fnS], by simp [entM, pinv, mget, mset, renL, AV.ren, fnS, lexC], rfl, rfl⟩
      by_cases hdig : digB c = true
      · have hk3 := (kind_dig c).2 hdig
        refine callK_pure kc rfl rfl ?_
        simp only [go_sem, ↓reduceIte, hk3]
        refine yes (.inl hdig) rd2 _ (by omega) ?_
        exact Leads.ent [(0, 0), (1, 1), (2, 2), (6, 3)] ⟨by simp [entT, fget, AV.ren, renL, pget, kdS], by simp [entM, pinv, mget, mset, renL, AV.ren, kdS, lexC], rfl, rfl⟩
      · have hk3 : ¬ kindW c = 3 := fun h => hdig ((kind_dig c).1 h)
        refine callK_pure kc rfl rfl ?_
        by_cases h45 : (c.toNat : Int) = 45
        · have hc45 := u8eq (k := 45) h45
          simp only [go_sem, ↓reduceIte, hk3, h45, hw1]
          refine peek_callK hs p rd2 0 0 (p + 1) rfl ?_
          obtain ⟨rd3, hr3, q1, q2, q3⟩ : ∃ rd3, rdW s rd2 (p + 1) = rd3 ∧ rd2 ≤ rd3 ∧ rd3 ≤ s.length ∧ rd3 ≤ max rd (p + 2) := ⟨_, rfl, by unfold rdW; split <;> omega⟩
          rw [hr3]
          generalize hd2 : s.getD (p + 1) 0 = d at *
          have kd := kind_pure d
          simp only [go_sem, ↓reduceIte, lexC, mset]
          refine callK_pure kd rfl rfl ?_
          by_cases hdd : digB d = true
          · have hk4 := (kind_dig d).2 hdd
            simp only [go_sem, ↓reduceIte, hk4]
            refine yes (.inr ⟨hc45, hdd⟩) rd3 _ (by omega) ?_
            exact Leads.ent [(0, 0), (1, 1), (2, 2), (6, 3)] ⟨by simp [entT, fget, AV.ren, renL, pget, kdS, hc45], by simp [entM, pinv, mget, mset, renL, AV.ren, kdS, lexC], rfl, rfl⟩
          · have hk4 : ¬ kindW d = 3 := fun h => hdd ((kind_dig d).1 h)
            simp only [go_sem, ↓reduceIte, hk4]
            refine no (by rintro (h | ⟨_, h⟩); exact hdig h; exact hdd h) rd3 _ (by omega) ?_
            exact Leads.ent [(0, 0), (1, 1), (2, 2), (6, 3)] ⟨by simp [entT, fget, AV.ren, renL, pget, kdS, hc45], by simp [entM, pinv, mget, mset, renL, AV.ren, kdS, lexC], rfl, rfl⟩
        · have hc45 := u8ne (k := 45) h45
          simp only [go_sem, ↓reduceIte, hk3, h45]
          refine no (by rintro (h | ⟨h, _⟩); exact hdig h; exact hc45 h) rd2 _ (by omega) ?_
          exact Leads.ent [(0, 0), (1, 1), (2, 2), (6, 3)] ⟨by simp [entT, fget, AV.ren, renL, pget, kdS], by simp [entM, pinv, mget, mset, renL, AV.ren, kdS, lexC], rfl, rfl⟩
  · have he : p = s.length := by omega
    have hn : nextW s a = (⟨4, [], p⟩, p, 0) := by rw [hnw, he, List.drop_length]; rfl
    simp only [go_sem, ↓reduceIte, hlt, decide_false, lexC, mset]
    refine hK _ ?_; clear hK
    refine bwp_cond true (by simp [ev, fget]) (fun _ => ?_) (fun h => nomatch h)
    refine bwp_seq fun K hK => bwp_region rfl ?_
    simp only [go_sem, ↓reduceIte]
    refine hK _ ?_; clear hK
    refine bwp_ret ?_
    simp only [go_sem]
    refine aend_mem (nxR s a) [(0, 0)] [(0, lexC s p rd1 0 0)] ?_ rfl rfl ?_ ⟨_, rfl, rfl, rd1, ⟨by omega, by omega, by rw [hn]; simp only; omega, fun _ => by rw [hn]; simp only; omega⟩, by unfold errAt; rw [hn]; rfl⟩
    · rw [nxR_ok hn]
      simp [resA, resVs, resV, fget, mget, mset, loadA, h34, h26]
    · simp [entM, pinv, mget, mset, renL, AV.ren, lexC]
end Go.Proofs.YtpfbljkfbjjlkaaGreatDoor

/- Tokens of certain texts: plain laws. -/
namespace Go.Proofs.YtpfbljkfbjjlkaaGreatDoor
open Go Go.Jq
set_option maxRecDepth 100000
set_option linter.unusedSimpArgs false
theorem runL_all (l : List UInt8) (h : l.all alnB = true) : runL l = l.length := by
  induction l with
  | nil => rfl
  | cons c r ih =>
    rw [List.all_cons, Bool.and_eq_true] at h
    rw [runL, if_pos h.1, ih h.2, List.length_cons, Nat.add_comm]
theorem not_let_dig {c : UInt8} (h : digB c = true) : letB c = false := by
  simp only [digB, Bool.and_eq_true, decide_eq_true_eq] at h
  have : ¬ 97 ≤ c.toNat := by omega
  simp [letB, this]
theorem itoa_form (n : Int) : ∃ (c : UInt8) (r : List UInt8), Lib.itoa n = c :: r ∧ r.all digB = true ∧ (digB c = true ∨ (c = 45 ∧ ∃ d r', r = d :: r' ∧ digB d = true)) := by
  unfold Lib.itoa
  split
  · obtain ⟨h1, _⟩ := dig_dec n.natAbs
    obtain ⟨d, r, h2, h3, _⟩ := decDigits_head n.natAbs
    refine ⟨45, _, rfl, h1, .inr ⟨rfl, _, r, h2, (digB_ofNat h3).1⟩⟩
  · obtain ⟨h1, _⟩ := dig_dec n.toNat
    obtain ⟨d, r, h2, h3, _⟩ := decDigits_head n.toNat
    rw [h2] at h1 ⊢
    rw [List.all_cons, Bool.and_eq_true] at h1
    exact ⟨_, r, rfl, h1.2, .inl h1.1⟩
theorem num_tok (a : Nat) (n : Int) (x : List UInt8) (hx : runL x = x.length) : tokAt a (Lib.itoa n ++ x) =
    if (parseW (Lib.itoa n ++ x)).2 = true then (⟨2, Lib.itoa n ++ x, a⟩, a + (Lib.itoa n ++ x).length, 0) else (noTok, a, 5) := by
  obtain ⟨c, r, h1, h2, h3⟩ := itoa_form n
  rw [h1, List.cons_append]
  have hl : letB c = false := by
    rcases h3 with h3 | ⟨rfl, _⟩
    · exact not_let_dig h3
    · rfl
  have hc : digB c = true ∨ (c = 45 ∧ ((r ++ x).head?.map digB).getD false = true) := by
    rcases h3 with h3 | ⟨h3, d, r', h4, h5⟩
    · exact .inl h3
    · exact .inr ⟨h3, by rw [h4]; simpa using h5⟩
  have hr : ∀ y : List UInt8, y.all digB = true → runL (y ++ x) = (y ++ x).length := by
    intro y
    induction y with
    | nil => intro _; exact hx
    | cons d y ih =>
      intro h
      rw [List.all_cons, Bool.and_eq_true] at h
      rw [List.cons_append, runL, if_pos (by simp [alnB, h.1]), ih h.2, List.length_cons, Nat.add_comm]
  rw [tokAt, if_neg (by rw [hl]; decide), if_pos hc, hr r h2, List.take_length]
  simp only [List.length_cons]
  rw [Nat.add_comm 1]
end Go.Proofs.YtpfbljkfbjjlkaaGreatDoor

/- The lexer: made, read, all tokens. -/
namespace Go.Proofs.YtpfbljkfbjjlkaaGreatDoor
open Go Go.Jq
set_option maxRecDepth 100000
set_option linter.unusedSimpArgs false
theorem next_callK {s : List UInt8} (hs : s.length ≤ 140737488351232) {a rd : Nat} (ha : a ≤ s.length) (hr : a ≤ rd ∧ rd ≤ s.length) {j : Nat} {dst : Option Nat} {r : List AOper} {K : St → Prop} {t : Fr} {m : Mem} {n : Nat} (hm : mget m j = some (lexC s a rd 0 0))
    (hk : ∀ rd', (rd ≤ rd' ∧ rd' ≤ s.length ∧ (nextW s a).2.1 ≤ rd' ∧ ((nextW s a).2.2 = 0 → rd' ≤ max rd ((nextW s a).2.1 + 1))) →
      runOps Tryz.prog r ⟨putF t dst (nxR s a), mset m j (lexC s (nextW s a).2.1 rd' (nextW s a).2.2 (errAt s a)), n + 1⟩ K) : callK Tryz.prog 85 [.ptr j 0] dst r K t m n := by
  refine meth_callK (rest := []) (Q := nxQ s a rd) (next_calls hs ha hr) rfl rfl ?_ hm ?_
  · rintro _ _ ⟨rfl, rd', _, rfl⟩; exact ⟨nxR_in s a, rfl⟩
  · rintro _ _ ⟨rfl, rd', h, rfl⟩; exact hk rd' h
theorem new_calls (s : List UInt8) : ACalls Tryz.prog 28 [.d (.str s)] [] fun r m' => r = .ptr 0 0 ∧ m' = [(0, lexC s 0 0 0 0)] := by
  refine acalls_of Tryz.func28 ac28_ok Tryz.ntmps28 Tryz.results28 rfl ?_
  unfold ac28
  refine bwp_seq fun K hK => bwp_region rfl ?_
  simp -implicitDefEqProofs only [go_sem, ↓reduceIte]
  refine hK _ ?_; clear hK
  refine bwp_seq fun K hK => bwp_region rfl ?_
  simp -implicitDefEqProofs only [go_sem, ↓reduceIte]
  refine hK _ ?_; clear hK
  refine bwp_ret ?_
  simp only [go_sem]
  refine aend_mem (.ptr 0 0) [(0, 0)] [(0, lexC s 0 0 0 0)] ?_ rfl rfl ?_ ⟨rfl, rfl⟩
  · simp [resA, resVs, resV, fget]
  · simp [entM, pinv, mget, mset, renL, AV.ren, lexC]
theorem new_callK (s : List UInt8) {dst : Option Nat} {r : List AOper} {K : St → Prop} {t : Fr} {m : Mem} {n : Nat}
    (hk : runOps Tryz.prog r ⟨putF t dst (.ptr n 0), mset m n (lexC s 0 0 0 0), n + 1⟩ K) : callK Tryz.prog 28 [.d (.str s)] dst r K t m n := by
  refine callK_gen [] [.d (.str s)] [] (nb := 0) (new_calls s) rfl rfl rfl trivial rfl ?_
  rintro r0 m' ⟨rfl, rfl⟩
  have e1 : callMem [] [] [(0, lexC s 0 0 0 0)] n m = mset m n (lexC s 0 0 0 0) := by
    simp [callMem, updNew, updOld, mget, renL_noId _ (lexC_in s 0 0 0 0)]
  rw [e1]
  exact hk
def longV (s : List UInt8) : AV := if 4000 < s.length then .agg [.d (.int .i64 2), .d (.int .i64 4000)] else .agg [.d (.int .i64 0), .d (.int .i64 0)]
theorem long_pure (s : List UInt8) : Pure Tryz.prog 27 [.d (.str s)] (longV s) := by
  have h26 : ldk Tryz.prog 35 = some (some 2) := by kernel_rfl
  refine acalls_of Tryz.func27 ac27_ok Tryz.ntmps27 Tryz.results27 rfl ?_
  unfold ac27
  refine bwp_seq fun K hK => bwp_region rfl ?_
  simp -implicitDefEqProofs only [go_sem, ↓reduceIte]
  refine hK _ ?_; clear hK
  refine bwp_seq fun K1 hK1 => ?_
  by_cases hl : 4000 < s.length
  · have hl' : (4000 : Int) < s.length := by omega
    refine bwp_seq fun K hK => bwp_region rfl ?_
    simp -implicitDefEqProofs only [go_sem, ↓reduceIte, hl']
    refine hK _ ?_; clear hK
    refine bwp_cond true (by simp [ev, fget]) (fun _ => ?_) (fun h => nomatch h)
    refine bwp_seq fun K hK => bwp_region rfl ?_
    simp -implicitDefEqProofs only [go_sem, ↓reduceIte]
    refine hK _ ?_; clear hK
    refine bwp_ret ?_
    simp -implicitDefEqProofs only [go_sem, ↓reduceIte]
    refine aend_ret (longV s) ?_ (by unfold longV; rw [if_pos hl]; rfl) ⟨rfl, rfl⟩
    unfold longV
    rw [if_pos hl]
    simp [resA, resVs, resV, fget, mget, mset, loadA, h26]
  · have hl' : ¬ (4000 : Int) < s.length := by omega
    refine bwp_seq fun K hK => bwp_region rfl ?_
    simp -implicitDefEqProofs only [go_sem, ↓reduceIte, hl']
    refine hK _ ?_; clear hK
    refine bwp_cond false (by simp [ev, fget]) (fun h => nomatch h) (fun _ => ?_)
    refine bwp_skip ?_
    refine hK1 _ ?_; clear hK1
    refine bwp_seq fun K hK => bwp_region rfl ?_
    simp -implicitDefEqProofs only [go_sem, ↓reduceIte]
    refine hK _ ?_; clear hK
    refine bwp_ret ?_
    simp -implicitDefEqProofs only [go_sem, ↓reduceIte]
    refine aend_ret (longV s) ?_ (by unfold longV; rw [if_neg hl]; rfl) ⟨rfl, rfl⟩
    unfold longV
    rw [if_neg hl]
    simp [resA, resVs, resV, fget, mget, mset, loadA, h26]
end Go.Proofs.YtpfbljkfbjjlkaaGreatDoor

/- The parser's small methods, gone through. -/
namespace Go.Proofs.YtpfbljkfbjjlkaaGreatDoor
open Go Go.Jq
set_option maxRecDepth 100000
set_option linter.unusedSimpArgs false
structure PSt where
  tok : Tok
  code : Int
  eat : Nat
  la : Nat
  rd : Nat
  lc : Int
  le : Nat
def parC (q : PSt) : List AV := [.ptr 1 0, .d (.int .i64 q.tok.kd), .d (.str q.tok.tx), .d (.int .i64 q.tok.pl), .d (.int .i64 q.code), .d (.int .i64 q.eat)]
def lexQ (s : List UInt8) (q : PSt) : List AV := lexC s q.la q.rd q.lc q.le
def PS (s : List UInt8) : PR Nat → PSt → Prop
  | .ok a, q => a ≤ s.length ∧ (nextW s a).2.2 = 0 ∧ q.tok = curT s a ∧ q.code = 0 ∧ q.eat = 0 ∧ q.la = (nextW s a).2.1 ∧ q.la ≤ q.rd ∧ q.rd ≤ s.length ∧ q.lc = 0 ∧ q.le = 0
  | .error e, q => q.code = e.1 ∧ e.1 ≠ 0 ∧ q.eat = e.2 ∧ (q.tok.kd = 1 → q.tok.tx ≠ []) ∧ q.tok.tx.length ≤ s.length
def PQ {α : Type} (s : List UInt8) : PR (α × Nat) → α → PSt → Prop
  | .ok (y, b), x, q => y = x ∧ PS s (.ok b) q
  | .error e, _, q => PS s (.error e) q
def thn {β : Type} (σ : PR Nat) (f : Nat → PR β) : PR β := match σ with
  | .ok a => f a
  | .error e => .error e
def posR {α : Type} (τ : PR (α × Nat)) : PR Nat := match τ with
  | .ok p => .ok p.2
  | .error e => .error e
theorem PQ.ps {α : Type} {s : List UInt8} {τ : PR (α × Nat)} {x : α} {q : PSt} (h : PQ s τ x q) : PS s (posR τ) q := by
  cases τ with
  | ok p => exact h.2
  | error e => exact h
theorem PQ.bind {α β : Type} {s : List UInt8} {σ : PR Nat} {t : PT α} {f : α → PT β} {x : α} {y : β} {q q' : PSt} (h : PQ s (thn σ (t.run s)) x q) (h' : PQ s (thn (posR (thn σ (t.run s))) ((f x).run s)) y q') :
    PQ s (thn σ ((t.bind f).run s)) y q' := by
  cases σ with
  | error e => exact h'
  | ok a =>
    simp only [thn] at h h' ⊢
    rw [PT.run_bind]
    cases ht : t.run s a with
    | error e => rw [ht] at h'; exact h'
    | ok p =>
      obtain ⟨x', b⟩ := p
      rw [ht] at h h'
      obtain ⟨rfl, _⟩ := h
      exact h'
theorem PQ.ret {α : Type} {s : List UInt8} {σ : PR Nat} {x : α} {q : PSt} (h : PS s σ q) : PQ s (thn σ ((PT.ret x).run s)) x q := by
  cases σ with
  | error e => exact h
  | ok a => exact ⟨rfl, h⟩
theorem PQ.cur {α : Type} {s : List UInt8} {σ : PR Nat} {k : Int → List UInt8 → PT α} {y : α} {q q' : PSt} (h : PS s σ q) (h' : PQ s (thn σ ((k q.tok.kd q.tok.tx).run s)) y q') : PQ s (thn σ ((PT.cur k).run s)) y q' := by
  cases σ with
  | error e => exact h'
  | ok a =>
    obtain ⟨_, _, ht, _⟩ := h
    rw [ht] at h'
    exact h'
theorem PQ.eat {α : Type} {s : List UInt8} {σ : PR Nat} {k : PT α} {y : α} {q' : PSt} (h' : PQ s (thn (thn σ (eatW s)) (k.run s)) y q') : PQ s (thn σ ((PT.eat k).run s)) y q' := by
  cases σ with
  | error e => exact h'
  | ok a =>
    simp only [thn] at h' ⊢
    simp only [PT.run]
    cases he : eatW s a with
    | error e => rw [he] at h'; exact h'
    | ok b => rw [he] at h'; exact h'
def failF (q : PSt) (c : Int) : PSt := if q.code = 0 then { q with code := c, eat := q.tok.pl } else q
theorem tokAt_word (a : Nat) (l : List UInt8) (h : (tokAt a l).1.kd = 1) : (tokAt a l).1.tx ≠ [] := by
  cases l with
  | nil => simp [tokAt] at h
  | cons c r =>
    rw [tokAt] at h ⊢
    split
    · simp
    · rename_i hc
      rw [if_neg hc] at h
      split
      · rename_i hd
        rw [if_pos hd] at h
        split
        · simp
        · rename_i hp
          rw [if_neg hp] at h
          simp [noTok] at h
      · rename_i hd
        rw [if_neg hd] at h
        split
        · rename_i hs
          rw [if_pos hs] at h
          simp [noTok] at h
        · rename_i hs
          rw [if_neg hs] at h
          simp at h
theorem curT_pos {s : List UInt8} {a : Nat} (ha : a ≤ s.length) (h : (nextW s a).2.2 = 0) : ((curT s a).kd = 1 → (curT s a).tx ≠ []) ∧ (curT s a).tx.length ≤ s.length := by
  have he : nextW s a = (curT s a, (nextW s a).2.1, 0) := by unfold curT; rw [← h]
  obtain ⟨p1, p2, p3, p4, p5, p6, p7⟩ := next_text ha he
  exact ⟨fun h1 => tokAt_word _ _ h1, by omega⟩
theorem PS.pos {s : List UInt8} {σ : PR Nat} {q : PSt} (h : PS s σ q) : (q.tok.kd = 1 → q.tok.tx ≠ []) ∧ q.tok.tx.length ≤ s.length := by
  cases σ with
  | error e => exact ⟨h.2.2.2.1, h.2.2.2.2⟩
  | ok a =>
    obtain ⟨h1, h2, h3, _⟩ := h
    rw [h3]
    exact curT_pos h1 h2
theorem PS.fail {s : List UInt8} {σ : PR Nat} {q : PSt} (h : PS s σ q) {c : Int} (hc : c ≠ 0) {α : Type} : PS s (posR (thn σ ((PT.bad c : PT α).run s))) (failF q c) := by
  have hp := h.pos
  cases σ with
  | error e =>
    obtain ⟨h1, h2, h3, h4, h5⟩ := h
    have : failF q c = q := by unfold failF; rw [if_neg (by rw [h1]; exact h2)]
    rw [this]
    exact ⟨h1, h2, h3, h4, h5⟩
  | ok a =>
    obtain ⟨h1, h2, h3, h4, h5⟩ := h
    have : failF q c = { q with code := c, eat := q.tok.pl } := by unfold failF; rw [if_pos h4]
    rw [this]
    exact ⟨rfl, hc, by simp only [h3], hp.1, hp.2⟩
theorem PQ.bad {α : Type} {s : List UInt8} {σ : PR Nat} {q : PSt} (h : PS s σ q) {c : Int} (hc : c ≠ 0) (y : α) : PQ s (thn σ ((PT.bad c : PT α).run s)) y (failF q c) := by
  have := h.fail hc (α := α)
  cases σ with
  | error e => exact this
  | ok a => exact this
def tkB (q : PSt) (x : List UInt8) : Bool := decide (q.code = 0) && isK q.tok.kd q.tok.tx x
theorem PS.code {s : List UInt8} {a : Nat} {q : PSt} (h : PS s (.ok a) q) : q.code = 0 := h.2.2.2.1
theorem PS.codeE {s : List UInt8} {e : PE} {q : PSt} (h : PS s (.error e) q) : q.code ≠ 0 := by rw [h.1]; exact h.2.1
theorem PQ.take_yes {α : Type} {s : List UInt8} {σ : PR Nat} {q q' : PSt} {x : List UInt8} {yes no : PT α} {y : α} (h : PS s σ q) (hb : tkB q x = true) (h' : PQ s (thn (thn σ (eatW s)) (yes.run s)) y q') : PQ s (thn σ ((tTake x yes no).run s)) y q' := by
  unfold tkB at hb
  simp only [Bool.and_eq_true] at hb
  refine PQ.cur h ?_
  rw [if_pos hb.2]
  exact PQ.eat h'
theorem PQ.take_no {α : Type} {s : List UInt8} {σ : PR Nat} {q q' : PSt} {x : List UInt8} {yes no : PT α} {y : α} (h : PS s σ q) (hb : tkB q x = false) (h' : PQ s (thn σ (no.run s)) y q') : PQ s (thn σ ((tTake x yes no).run s)) y q' := by
  cases σ with
  | error e => exact h'
  | ok a =>
    refine PQ.cur h ?_
    have hk : isK q.tok.kd q.tok.tx x = false := by simpa [tkB, h.code] using hb
    rw [if_neg (by rw [hk]; decide)]
    exact h'
theorem parC_ren (π : Nat → Option Nat) (h : π 1 = some 1) (q : PSt) : renL π (parC q) = parC q := by simp [parC, renL, AV.ren, h]
theorem lexQ_ren (π : Nat → Option Nat) (s : List UInt8) (q : PSt) : renL π (lexQ s q) = lexQ s q := by simp [lexQ, lexC, renL, AV.ren]
theorem par_callK {P : Program} {f : Nat} {rest : List AV} {s : List UInt8} {q : PSt} {Q : AV → PSt → Prop}
    (h : ACalls P f (.ptr 0 0 :: rest) [(0, parC q), (1, lexQ s q)] fun r m' => ∃ q', m' = [(0, parC q'), (1, lexQ s q')] ∧ Q r q')
    (hr : inL (fun _ => none) rest = true) (hQ : ∀ r q', Q r q' → inB (fun _ => none) r = true)
    {dst : Option Nat} {ops : List AOper} {K : St → Prop} {t : Fr} {m : Mem} {n : Nat} (hm0 : mget m 0 = some (parC q)) (hm1 : mget m 1 = some (lexQ s q))
    (hk : ∀ r q', Q r q' → runOps P ops ⟨putF t dst r, mset (mset m 0 (parC q')) 1 (lexQ s q'), n + 2⟩ K) : callK P f (.ptr 0 0 :: rest) dst ops K t m n := by
  have e0 : pget [(0, 0), (1, 1)] 1 = some 1 := rfl
  have i0 : inL (pget [(0, 0), (1, 1)]) (parC q) = true := rfl
  have i1 : inL (pget [(0, 0), (1, 1)]) (lexQ s q) = true := rfl
  refine callK_gen [(0, 0), (1, 1)] (.ptr 0 0 :: rest) [(0, parC q), (1, lexQ s q)] (nb := 2) h rfl (by simp [renL, AV.ren, pget, renL_noId _ hr]) ?_ ?_ rfl ?_
  · simp only [inL, inB, Bool.and_eq_true]
    exact ⟨rfl, inL_mono (fun _ h => by cases h) _ hr⟩
  · refine ⟨?_, ?_, trivial⟩
    · show mget m 0 = some (renL (pget [(0, 0), (1, 1)]) (parC q)) ∧ _
      exact ⟨by rw [hm0, parC_ren _ e0], i0⟩
    · show mget m 1 = some (renL (pget [(0, 0), (1, 1)]) (lexQ s q)) ∧ _
      exact ⟨by rw [hm1, lexQ_ren], i1⟩
  · rintro r0 m' ⟨q', rfl, hq⟩
    have e1 : callMem [(0, 0), (1, 1)] [(0, parC q), (1, lexQ s q)] [(0, parC q'), (1, lexQ s q')] n m = mset (mset m 0 (parC q')) 1 (lexQ s q') := by
      have hp : renOf [(0, 0), (1, 1)] [(0, parC q), (1, lexQ s q)] [(0, parC q'), (1, lexQ s q')] n 1 = some 1 := rfl
      simp only [callMem, updNew, updOld, mget, if_true, Option.isSome_some]
      rw [parC_ren _ hp, lexQ_ren]
      rfl
    rw [e1, ren_noId _ (hQ _ _ hq)]
    exact hk _ _ hq
end Go.Proofs.YtpfbljkfbjjlkaaGreatDoor

/- The parser's small methods: next, ok, fail, is, take, must. -/
namespace Go.Proofs.YtpfbljkfbjjlkaaGreatDoor
open Go Go.Jq
set_option maxRecDepth 100000
set_option linter.unusedSimpArgs false
theorem curT_noTok {s : List UInt8} {a : Nat} (h : (nextW s a).2.2 ≠ 0) : nextW s a = (noTok, (nextW s a).2.1, (nextW s a).2.2) := by
  have := tokAt_bad (a := skipA s a) (l := s.drop (skipA s a)) h
  unfold nextW
  rw [← this]
set_option maxHeartbeats 4000000 in
theorem pnext_calls {s : List UInt8} (hs : s.length ≤ 140737488351232) {σ : PR Nat} {q : PSt} (h : PS s σ q) :
    ACalls Tryz.prog 29 [.ptr 0 0] [(0, parC q), (1, lexQ s q)] fun r m' => ∃ q', m' = [(0, parC q'), (1, lexQ s q')] ∧ (r = .tup [] ∧ PS s (thn σ (eatW s)) q') := by
  cases σ with
  | error e =>
    have hc := h.codeE
    refine acalls_of Tryz.func29 ac29_ok Tryz.ntmps29 Tryz.results29 rfl ?_
    unfold ac29
    refine bwp_seq fun K hK => bwp_region rfl ?_
    simp -implicitDefEqProofs only [go_sem, ↓reduceIte, parC, hc]
    refine hK _ ?_; clear hK
    refine bwp_cond false (by simp [ev, fget]) (fun h => nomatch h) (fun _ => ?_)
    refine bwp_skip ?_
    refine ⟨.tup [], rfl, [(0, 0), (1, 1)], [(0, parC q), (1, lexQ s q)], rfl, rfl, ?_, ⟨q, rfl, rfl, h⟩⟩
    simp [entM, pinv, mget, mset, renL, AV.ren, parC, lexQ, lexC, pget]
  | ok a =>
    obtain ⟨h1, h2, h3, h4, h5, h6, h7, h8, h9, h10⟩ := h
    obtain ⟨tok, code, eat, la, rd, lc, le⟩ := q
    simp only at h3 h4 h5 h6 h7 h8 h9 h10
    subst h4 h9 h10
    have hle := (nextW_to h1).2.1
    rw [← h6] at hle
    have hg : thn (.ok a) (eatW s) = goW s la := by unfold thn eatW; rw [h6]
    refine acalls_of Tryz.func29 ac29_ok Tryz.ntmps29 Tryz.results29 rfl ?_
    unfold ac29
    refine bwp_seq fun K hK => bwp_region rfl ?_
    simp -implicitDefEqProofs only [go_sem, ↓reduceIte, parC]
    refine hK _ ?_; clear hK
    refine bwp_cond true (by simp [ev, fget]) (fun _ => ?_) (fun h => nomatch h)
    refine bwp_region rfl ?_
    simp -implicitDefEqProofs only [go_sem, ↓reduceIte]
    refine next_callK hs hle ⟨h7, h8⟩ rfl ?_
    intro rd' hrd'
    by_cases h0 : (nextW s la).2.2 = 0
    · have he : nextW s la = ((nextW s la).1, (nextW s la).2.1, 0) := by rw [← h0]
      have hee : errAt s la = 0 := by unfold errAt; rw [if_pos h0]
      have hgo : goW s la = .ok la := by unfold goW; rw [if_pos h0]
      rw [nxR_ok he, hee, h0]
      have hto := (nextW_to hle).2.1
      simp -implicitDefEqProofs only [go_sem, ↓reduceIte, mset, lexQ, lexC]
      refine ⟨.tup [], rfl, [(0, 0), (1, 1)], [(0, parC ⟨(nextW s la).1, 0, 0, (nextW s la).2.1, rd', 0, 0⟩), (1, lexQ s ⟨(nextW s la).1, 0, 0, (nextW s la).2.1, rd', 0, 0⟩)], rfl, rfl, ?_, ⟨_, rfl, rfl, ?_⟩⟩
      · simp [entM, pinv, mget, mset, renL, AV.ren, parC, lexQ, lexC, pget]
      · rw [hg, hgo]
        exact ⟨hle, h0, rfl, rfl, rfl, rfl, hrd'.2.2.1, hrd'.2.1, rfl, rfl⟩
    · have hbad := curT_noTok h0
      have hgo : goW s la = .error ((nextW s la).2.2, skipA s la) := by unfold goW; rw [if_neg h0]
      have hee : errAt s la = skipA s la := by unfold errAt; rw [if_neg h0]
      rw [nxR_bad h0 hbad, hee]
      simp -implicitDefEqProofs only [go_sem, ↓reduceIte, mset, lexQ, lexC]
      refine ⟨.tup [], rfl, [(0, 0), (1, 1)], [(0, parC ⟨noTok, (nextW s la).2.2, skipA s la, (nextW s la).2.1, rd', (nextW s la).2.2, skipA s la⟩), (1, lexQ s ⟨noTok, (nextW s la).2.2, skipA s la, (nextW s la).2.1, rd', (nextW s la).2.2, skipA s la⟩)], rfl, rfl, ?_, ⟨_, rfl, rfl, ?_⟩⟩
      · simp [entM, pinv, mget, mset, renL, AV.ren, parC, lexQ, lexC, pget, noTok]
      · rw [hg, hgo]
        exact ⟨rfl, h0, rfl, (fun h => by cases h), Nat.zero_le _⟩
theorem pnext_callK {s : List UInt8} (hs : s.length ≤ 140737488351232) {σ : PR Nat} {q : PSt} (h : PS s σ q) {dst : Option Nat} {ops : List AOper} {K : St → Prop} {t : Fr} {m : Mem} {n : Nat} (hm0 : mget m 0 = some (parC q)) (hm1 : mget m 1 = some (lexQ s q))
    (hk : ∀ q', PS s (thn σ (eatW s)) q' → runOps Tryz.prog ops ⟨putF t dst (.tup []), mset (mset m 0 (parC q')) 1 (lexQ s q'), n + 2⟩ K) : callK Tryz.prog 29 [.ptr 0 0] dst ops K t m n := by
  refine par_callK (rest := []) (Q := fun r q' => r = .tup [] ∧ PS s (thn σ (eatW s)) q') (pnext_calls hs h) rfl ?_ hm0 hm1 ?_
  · rintro _ _ ⟨rfl, _⟩; rfl
  · rintro _ q' ⟨rfl, h⟩; exact hk q' h
theorem pok_calls (s : List UInt8) (q : PSt) : ACalls Tryz.prog 36 [.ptr 0 0] [(0, parC q), (1, lexQ s q)] fun r m' => ∃ q', m' = [(0, parC q'), (1, lexQ s q')] ∧ (r = .d (.bool (decide (q.code = 0))) ∧ q' = q) := by
  refine acalls_of Tryz.func36 ac36_ok Tryz.ntmps36 Tryz.results36 rfl ?_
  unfold ac36
  refine bwp_seq fun K hK => bwp_region rfl ?_
  simp -implicitDefEqProofs only [go_sem, ↓reduceIte]
  refine hK _ ?_; clear hK
  refine bwp_seq fun K hK => bwp_region rfl ?_
  simp -implicitDefEqProofs only [go_sem, ↓reduceIte, parC]
  refine hK _ ?_; clear hK
  refine bwp_ret ?_
  simp only [go_sem]
  refine aend_mem (.d (.bool (decide (q.code = 0)))) [(0, 0), (1, 1)] [(0, parC q), (1, lexQ s q)] ?_ rfl rfl ?_ ⟨q, rfl, rfl, rfl⟩
  · simp [resA, resVs, resV, fget]
  · simp [entM, pinv, mget, mset, renL, AV.ren, parC, lexQ, lexC, pget]
theorem pok_callK (s : List UInt8) (q : PSt) {dst : Option Nat} {ops : List AOper} {K : St → Prop} {t : Fr} {m : Mem} {n : Nat} (hm0 : mget m 0 = some (parC q)) (hm1 : mget m 1 = some (lexQ s q))
    (hk : runOps Tryz.prog ops ⟨putF t dst (.d (.bool (decide (q.code = 0)))), mset (mset m 0 (parC q)) 1 (lexQ s q), n + 2⟩ K) : callK Tryz.prog 36 [.ptr 0 0] dst ops K t m n := by
  refine par_callK (rest := []) (Q := fun r q' => r = .d (.bool (decide (q.code = 0))) ∧ q' = q) (pok_calls s q) rfl ?_ hm0 hm1 ?_
  · rintro _ _ ⟨rfl, _⟩; rfl
  · rintro _ q' ⟨rfl, rfl⟩; exact hk
theorem pfail_calls (s : List UInt8) (q : PSt) (c : Int) : ACalls Tryz.prog 37 [.ptr 0 0, .d (.int .i64 c)] [(0, parC q), (1, lexQ s q)] fun r m' => ∃ q', m' = [(0, parC q'), (1, lexQ s q')] ∧ (r = .tup [] ∧ q' = failF q c) := by
  by_cases h : q.code = 0
  · have hf : failF q c = { q with code := c, eat := q.tok.pl } := by unfold failF; rw [if_pos h]
    rw [hf]
    refine acalls_of Tryz.func37 ac37_ok Tryz.ntmps37 Tryz.results37 rfl ?_
    unfold ac37
    refine bwp_seq fun K hK => bwp_region rfl ?_
    simp -implicitDefEqProofs only [go_sem, ↓reduceIte, parC, h]
    refine hK _ ?_; clear hK
    refine bwp_cond true (by simp [ev, fget]) (fun _ => ?_) (fun h => nomatch h)
    refine bwp_region rfl ?_
    simp -implicitDefEqProofs only [go_sem, ↓reduceIte]
    refine ⟨.tup [], rfl, [(0, 0), (1, 1)], [(0, parC { q with code := c, eat := q.tok.pl }), (1, lexQ s { q with code := c, eat := q.tok.pl })], rfl, rfl, ?_, ⟨_, rfl, rfl, rfl⟩⟩
    simp [entM, pinv, mget, mset, renL, AV.ren, parC, lexQ, lexC, pget]
  · have hf : failF q c = q := by unfold failF; rw [if_neg h]
    rw [hf]
    refine acalls_of Tryz.func37 ac37_ok Tryz.ntmps37 Tryz.results37 rfl ?_
    unfold ac37
    refine bwp_seq fun K hK => bwp_region rfl ?_
    simp -implicitDefEqProofs only [go_sem, ↓reduceIte, parC, h]
    refine hK _ ?_; clear hK
    refine bwp_cond false (by simp [ev, fget]) (fun h => nomatch h) (fun _ => ?_)
    refine bwp_skip ?_
    refine ⟨.tup [], rfl, [(0, 0), (1, 1)], [(0, parC q), (1, lexQ s q)], rfl, rfl, ?_, ⟨_, rfl, rfl, rfl⟩⟩
    simp [entM, pinv, mget, mset, renL, AV.ren, parC, lexQ, lexC, pget]
theorem pfail_callK (s : List UInt8) (q : PSt) (c : Int) {dst : Option Nat} {ops : List AOper} {K : St → Prop} {t : Fr} {m : Mem} {n : Nat} (hm0 : mget m 0 = some (parC q)) (hm1 : mget m 1 = some (lexQ s q))
    (hk : runOps Tryz.prog ops ⟨putF t dst (.tup []), mset (mset m 0 (parC (failF q c))) 1 (lexQ s (failF q c)), n + 2⟩ K) : callK Tryz.prog 37 [.ptr 0 0, .d (.int .i64 c)] dst ops K t m n := by
  refine par_callK (rest := [.d (.int .i64 c)]) (Q := fun r q' => r = .tup [] ∧ q' = failF q c) (pfail_calls s q c) rfl ?_ hm0 hm1 ?_
  · rintro _ _ ⟨rfl, _⟩; rfl
  · rintro _ q' ⟨rfl, rfl⟩; exact hk
set_option maxHeartbeats 4000000 in
theorem pis_calls (s : List UInt8) (q : PSt) (x : List UInt8) : ACalls Tryz.prog 86 [.ptr 0 0, .d (.str x)] [(0, parC q), (1, lexQ s q)] fun r m' => ∃ q', m' = [(0, parC q'), (1, lexQ s q')] ∧ (r = .d (.bool (tkB q x)) ∧ q' = q) := by
  refine acalls_of Tryz.func86 ac86_ok Tryz.ntmps86 Tryz.results86 rfl ?_
  unfold ac86
  refine bwp_seq fun K hK => bwp_region rfl ?_
  simp -implicitDefEqProofs only [go_sem, ↓reduceIte]
  refine hK _ ?_; clear hK
  have fin : ∀ (t : Fr) (n : Nat), fget t 4 = .d (.bool (tkB q x)) → AEnd Tryz.prog #[.tmp 4] (mbound [(0, parC q), (1, lexQ s q)]) (fun r m' => ∃ q', m' = [(0, parC q'), (1, lexQ s q')] ∧ (r = .d (.bool (tkB q x)) ∧ q' = q)) .ret ⟨t, [(0, parC q), (1, lexQ s q)], n⟩ := by
    intro t n ht
    refine aend_mem (.d (.bool (tkB q x))) [(0, 0), (1, 1)] [(0, parC q), (1, lexQ s q)] ?_ rfl rfl ?_ ⟨q, rfl, rfl, rfl⟩
    · simp [resA, resVs, resV, ht]
    · simp [entM, pinv, mget, mset, renL, AV.ren, parC, lexQ, lexC, pget]
  refine bwp_seq fun K hK => bwp_region rfl ?_
  simp -implicitDefEqProofs only [go_sem, ↓reduceIte]
  refine pok_callK s q rfl rfl ?_
  by_cases h0 : q.code = 0
  · by_cases h3 : q.tok.kd = 3
    · simp -implicitDefEqProofs only [go_sem, ↓reduceIte, mset, eq_true h0, eq_true h3, parC, decide_true]
      refine hK _ ?_; clear hK
      refine bwp_ret ?_
      simp -implicitDefEqProofs only [go_sem, ↓reduceIte]
      exact fin _ _ (by simp [fget, tkB, isK, h0, h3])
    · by_cases h1 : q.tok.kd = 1
      · simp -implicitDefEqProofs only [go_sem, ↓reduceIte, mset, eq_true h0, eq_true h1, eq_false h3, parC, decide_true]
        refine hK _ ?_; clear hK
        refine bwp_ret ?_
        simp -implicitDefEqProofs only [go_sem, ↓reduceIte]
        exact fin _ _ (by simp [fget, tkB, isK, h0, h1])
      · simp -implicitDefEqProofs only [go_sem, ↓reduceIte, mset, eq_true h0, eq_false h1, eq_false h3, parC, decide_true]
        refine hK _ ?_; clear hK
        refine bwp_ret ?_
        simp -implicitDefEqProofs only [go_sem, ↓reduceIte]
        exact fin _ _ (by simp [fget, tkB, isK, h0, h1, h3])
  · simp -implicitDefEqProofs only [go_sem, ↓reduceIte, mset, eq_false h0, parC, decide_false]
    refine hK _ ?_; clear hK
    refine bwp_ret ?_
    simp -implicitDefEqProofs only [go_sem, ↓reduceIte]
    exact fin _ _ (by simp [fget, tkB, h0])
theorem pis_callK (s : List UInt8) (q : PSt) (x : List UInt8) {dst : Option Nat} {ops : List AOper} {K : St → Prop} {t : Fr} {m : Mem} {n : Nat} (hm0 : mget m 0 = some (parC q)) (hm1 : mget m 1 = some (lexQ s q))
    (hk : runOps Tryz.prog ops ⟨putF t dst (.d (.bool (tkB q x))), mset (mset m 0 (parC q)) 1 (lexQ s q), n + 2⟩ K) : callK Tryz.prog 86 [.ptr 0 0, .d (.str x)] dst ops K t m n := by
  refine par_callK (rest := [.d (.str x)]) (Q := fun r q' => r = .d (.bool (tkB q x)) ∧ q' = q) (pis_calls s q x) rfl ?_ hm0 hm1 ?_
  · rintro _ _ ⟨rfl, _⟩; rfl
  · rintro _ q' ⟨rfl, rfl⟩; exact hk
def tkQ (s : List UInt8) (σ : PR Nat) (q : PSt) (x : List UInt8) (r : AV) (q' : PSt) : Prop :=
  r = .d (.bool (tkB q x)) ∧ (tkB q x = true → PS s (thn σ (eatW s)) q') ∧ (tkB q x = false → q' = q)
theorem ptake_calls {s : List UInt8} (hs : s.length ≤ 140737488351232) {σ : PR Nat} {q : PSt} (h : PS s σ q) (x : List UInt8) :
    ACalls Tryz.prog 32 [.ptr 0 0, .d (.str x)] [(0, parC q), (1, lexQ s q)] fun r m' => ∃ q', m' = [(0, parC q'), (1, lexQ s q')] ∧ tkQ s σ q x r q' := by
  refine acalls_of Tryz.func32 ac32_ok Tryz.ntmps32 Tryz.results32 rfl ?_
  unfold ac32
  refine bwp_seq fun K hK => bwp_region rfl ?_
  simp -implicitDefEqProofs only [go_sem, ↓reduceIte]
  refine hK _ ?_; clear hK
  refine bwp_seq fun K1 hK1 => ?_
  refine bwp_seq fun K hK => bwp_region rfl ?_
  simp -implicitDefEqProofs only [go_sem, ↓reduceIte]
  refine pis_callK s q x rfl rfl ?_
  cases hb : tkB q x with
  | false =>
    simp -implicitDefEqProofs only [go_sem, ↓reduceIte, mset]
    refine hK _ ?_; clear hK
    refine bwp_cond true (by simp [ev, fget]) (fun _ => ?_) (fun h => nomatch h)
    refine bwp_seq fun K hK => bwp_region rfl ?_
    simp -implicitDefEqProofs only [go_sem, ↓reduceIte]
    refine hK _ ?_; clear hK
    refine bwp_ret ?_
    simp only [go_sem]
    refine aend_mem (.d (.bool false)) [(0, 0), (1, 1)] [(0, parC q), (1, lexQ s q)] ?_ rfl rfl ?_ ⟨q, rfl, by rw [hb]; rfl, (fun h => by rw [hb] at h; cases h), fun _ => rfl⟩
    · simp [resA, resVs, resV, fget]
    · simp [entM, pinv, mget, mset, renL, AV.ren, parC, lexQ, lexC, pget]
  | true =>
    simp -implicitDefEqProofs only [go_sem, ↓reduceIte, mset]
    refine hK _ ?_; clear hK
    refine bwp_cond false (by simp [ev, fget]) (fun h => nomatch h) (fun _ => ?_)
    refine bwp_skip ?_
    refine hK1 _ ?_; clear hK1
    refine bwp_seq fun K hK => bwp_region rfl ?_
    simp -implicitDefEqProofs only [go_sem, ↓reduceIte]
    refine pnext_callK hs h rfl rfl ?_
    intro q' hq'
    simp -implicitDefEqProofs only [go_sem, ↓reduceIte, mset]
    refine hK _ ?_; clear hK
    refine bwp_seq fun K hK => bwp_region rfl ?_
    simp -implicitDefEqProofs only [go_sem, ↓reduceIte]
    refine hK _ ?_; clear hK
    refine bwp_ret ?_
    simp only [go_sem]
    refine aend_mem (.d (.bool true)) [(0, 0), (1, 1)] [(0, parC q'), (1, lexQ s q')] ?_ rfl rfl ?_ ⟨q', rfl, by rw [hb]; rfl, fun _ => hq', (fun h => by rw [hb] at h; cases h)⟩
    · simp [resA, resVs, resV, fget]
    · simp [entM, pinv, mget, mset, renL, AV.ren, parC, lexQ, lexC, pget]
theorem ptake_callK {s : List UInt8} (hs : s.length ≤ 140737488351232) {σ : PR Nat} {q : PSt} (h : PS s σ q) (x : List UInt8) {dst : Option Nat} {ops : List AOper} {K : St → Prop} {t : Fr} {m : Mem} {n : Nat} (hm0 : mget m 0 = some (parC q)) (hm1 : mget m 1 = some (lexQ s q))
    (hk : ∀ q', (tkB q x = true → PS s (thn σ (eatW s)) q') → (tkB q x = false → q' = q) → runOps Tryz.prog ops ⟨putF t dst (.d (.bool (tkB q x))), mset (mset m 0 (parC q')) 1 (lexQ s q'), n + 2⟩ K) : callK Tryz.prog 32 [.ptr 0 0, .d (.str x)] dst ops K t m n := by
  refine par_callK (rest := [.d (.str x)]) (ptake_calls hs h x) rfl ?_ hm0 hm1 ?_
  · rintro _ _ ⟨rfl, _⟩; rfl
  · rintro _ q' ⟨rfl, h1, h2⟩; exact hk q' h1 h2
theorem pmust_calls {s : List UInt8} (hs : s.length ≤ 140737488351232) {σ : PR Nat} {q : PSt} (h : PS s σ q) (x : List UInt8) :
    ACalls Tryz.prog 30 [.ptr 0 0, .d (.str x)] [(0, parC q), (1, lexQ s q)] fun r m' => ∃ q', m' = [(0, parC q'), (1, lexQ s q')] ∧ (r = .tup [] ∧ PQ s (thn σ ((tMust x).run s)) () q') := by
  refine acalls_of Tryz.func30 ac30_ok Tryz.ntmps30 Tryz.results30 rfl ?_
  unfold ac30
  refine bwp_seq fun K hK => bwp_region rfl ?_
  simp -implicitDefEqProofs only [go_sem, ↓reduceIte]
  refine ptake_callK hs h x rfl rfl ?_
  intro q' hy hn
  cases hb : tkB q x with
  | false =>
    have hq := hn hb
    subst hq
    simp -implicitDefEqProofs only [go_sem, ↓reduceIte, mset]
    refine hK _ ?_; clear hK
    refine bwp_cond true (by simp [ev, fget]) (fun _ => ?_) (fun h => nomatch h)
    refine bwp_region rfl ?_
    simp -implicitDefEqProofs only [go_sem, ↓reduceIte]
    refine pfail_callK s q' 6 rfl rfl ?_
    simp -implicitDefEqProofs only [go_sem, ↓reduceIte, mset]
    refine ⟨.tup [], rfl, [(0, 0), (1, 1)], [(0, parC (failF q' 6)), (1, lexQ s (failF q' 6))], rfl, rfl, ?_, ⟨_, rfl, rfl, ?_⟩⟩
    · simp [entM, pinv, mget, mset, renL, AV.ren, parC, lexQ, lexC, pget]
    · exact PQ.take_no (x := x) (yes := .ret ()) h hb (PQ.bad h (by decide) ())
  | true =>
    have hq := hy hb
    simp -implicitDefEqProofs only [go_sem, ↓reduceIte, mset]
    refine hK _ ?_; clear hK
    refine bwp_cond false (by simp [ev, fget]) (fun h => nomatch h) (fun _ => ?_)
    refine bwp_skip ?_
    refine ⟨.tup [], rfl, [(0, 0), (1, 1)], [(0, parC q'), (1, lexQ s q')], rfl, rfl, ?_, ⟨_, rfl, rfl, ?_⟩⟩
    · simp [entM, pinv, mget, mset, renL, AV.ren, parC, lexQ, lexC, pget]
    · exact PQ.take_yes (x := x) (no := .bad 6) h hb (PQ.ret hq)
theorem pmust_callK {s : List UInt8} (hs : s.length ≤ 140737488351232) {σ : PR Nat} {q : PSt} (h : PS s σ q) (x : List UInt8) {dst : Option Nat} {ops : List AOper} {K : St → Prop} {t : Fr} {m : Mem} {n : Nat} (hm0 : mget m 0 = some (parC q)) (hm1 : mget m 1 = some (lexQ s q))
    (hk : ∀ q', PQ s (thn σ ((tMust x).run s)) () q' → runOps Tryz.prog ops ⟨putF t dst (.tup []), mset (mset m 0 (parC q')) 1 (lexQ s q'), n + 2⟩ K) : callK Tryz.prog 30 [.ptr 0 0, .d (.str x)] dst ops K t m n := by
  refine par_callK (rest := [.d (.str x)]) (Q := fun r q' => r = .tup [] ∧ PQ s (thn σ ((tMust x).run s)) () q') (pmust_calls hs h x) rfl ?_ hm0 hm1 ?_
  · rintro _ _ ⟨rfl, _⟩; rfl
  · rintro _ q' ⟨rfl, h⟩; exact hk q' h
end Go.Proofs.YtpfbljkfbjjlkaaGreatDoor

/- The parser's words, numbers, names, operands. -/
namespace Go.Proofs.YtpfbljkfbjjlkaaGreatDoor
open Go Go.Jq
set_option maxRecDepth 100000
set_option linter.unusedSimpArgs false
theorem failF_code {q : PSt} {c : Int} (hc : c ≠ 0) : (failF q c).code ≠ 0 := by
  unfold failF
  split
  · exact hc
  · assumption
set_option maxHeartbeats 4000000 in
theorem pword_calls {s : List UInt8} (hs : s.length ≤ 140737488351232) {σ : PR Nat} {q : PSt} (h : PS s σ q) :
    ACalls Tryz.prog 31 [.ptr 0 0] [(0, parC q), (1, lexQ s q)] fun r m' => ∃ q', m' = [(0, parC q'), (1, lexQ s q')] ∧ ∃ x, r = .d (.str x) ∧ PQ s (thn σ (tWord.run s)) x q' := by
  refine acalls_of Tryz.func31 ac31_ok Tryz.ntmps31 Tryz.results31 rfl ?_
  unfold ac31
  refine bwp_seq fun K hK => bwp_region rfl ?_
  simp -implicitDefEqProofs only [go_sem, ↓reduceIte]
  refine hK _ ?_; clear hK
  refine bwp_seq fun K hK => bwp_region rfl ?_
  simp -implicitDefEqProofs only [go_sem, ↓reduceIte, parC]
  refine hK _ ?_; clear hK
  refine bwp_seq fun K1 hK1 => ?_
  by_cases h1 : q.tok.kd = 1
  · refine bwp_seq fun K hK => bwp_region rfl ?_
    simp -implicitDefEqProofs only [go_sem, ↓reduceIte, eq_true h1]
    refine hK _ ?_; clear hK
    refine bwp_cond false (by simp [ev, fget]) (fun h => nomatch h) (fun _ => ?_)
    refine bwp_skip ?_
    refine hK1 _ ?_; clear hK1
    refine bwp_seq fun K hK => bwp_region rfl ?_
    simp -implicitDefEqProofs only [go_sem, ↓reduceIte]
    refine pnext_callK hs h rfl rfl ?_
    intro q' hq'
    simp -implicitDefEqProofs only [go_sem, ↓reduceIte, mset]
    refine hK _ ?_; clear hK
    refine bwp_seq fun K hK => bwp_region rfl ?_
    simp -implicitDefEqProofs only [go_sem, ↓reduceIte]
    refine hK _ ?_; clear hK
    refine bwp_ret ?_
    simp only [go_sem]
    refine aend_mem (.d (.str q.tok.tx)) [(0, 0), (1, 1)] [(0, parC q'), (1, lexQ s q')] ?_ rfl rfl ?_ ⟨q', rfl, q.tok.tx, rfl, ?_⟩
    · simp [resA, resVs, resV, fget]
    · simp [entM, pinv, mget, mset, renL, AV.ren, parC, lexQ, lexC, pget]
    · refine PQ.cur h ?_
      rw [if_pos h1]
      exact PQ.eat (PQ.ret hq')
  · refine bwp_seq fun K hK => bwp_region rfl ?_
    simp -implicitDefEqProofs only [go_sem, ↓reduceIte, eq_false h1]
    refine hK _ ?_; clear hK
    refine bwp_cond true (by simp [ev, fget]) (fun _ => ?_) (fun h => nomatch h)
    refine bwp_seq fun K hK => bwp_region rfl ?_
    simp -implicitDefEqProofs only [go_sem, ↓reduceIte]
    refine pfail_callK s q 6 rfl rfl ?_
    simp -implicitDefEqProofs only [go_sem, ↓reduceIte, mset]
    refine hK _ ?_; clear hK
    refine bwp_seq fun K hK => bwp_region rfl ?_
    simp -implicitDefEqProofs only [go_sem, ↓reduceIte]
    refine hK _ ?_; clear hK
    refine bwp_ret ?_
    simp only [go_sem]
    refine aend_mem (.d (.str [])) [(0, 0), (1, 1)] [(0, parC (failF q 6)), (1, lexQ s (failF q 6))] ?_ rfl rfl ?_ ⟨_, rfl, [], rfl, ?_⟩
    · simp [resA, resVs, resV, fget]
    · simp [entM, pinv, mget, mset, renL, AV.ren, parC, lexQ, lexC, pget]
    · refine PQ.cur h ?_
      rw [if_neg h1]
      exact PQ.bad h (by decide) []
theorem pword_callK {s : List UInt8} (hs : s.length ≤ 140737488351232) {σ : PR Nat} {q : PSt} (h : PS s σ q) {dst : Option Nat} {ops : List AOper} {K : St → Prop} {t : Fr} {m : Mem} {n : Nat} (hm0 : mget m 0 = some (parC q)) (hm1 : mget m 1 = some (lexQ s q))
    (hk : ∀ x q', PQ s (thn σ (tWord.run s)) x q' → runOps Tryz.prog ops ⟨putF t dst (.d (.str x)), mset (mset m 0 (parC q')) 1 (lexQ s q'), n + 2⟩ K) : callK Tryz.prog 31 [.ptr 0 0] dst ops K t m n := by
  refine par_callK (rest := []) (Q := fun r q' => ∃ x, r = .d (.str x) ∧ PQ s (thn σ (tWord.run s)) x q') (pword_calls hs h) rfl ?_ hm0 hm1 ?_
  · rintro _ _ ⟨_, rfl, _⟩; rfl
  · rintro _ q' ⟨x, rfl, h⟩; exact hk x q' h
set_option maxHeartbeats 4000000 in
theorem pnum_calls {s : List UInt8} (hs : s.length ≤ 140737488351232) {σ : PR Nat} {q : PSt} (h : PS s σ q) :
    ACalls Tryz.prog 89 [.ptr 0 0] [(0, parC q), (1, lexQ s q)] fun r m' => ∃ q', m' = [(0, parC q'), (1, lexQ s q')] ∧ ∃ x, r = .d (.int .i64 x) ∧ PQ s (thn σ (tNum.run s)) x q' := by
  have hp := h.pos
  have kp := parse_pure (s := q.tok.tx) (by omega)
  refine acalls_of Tryz.func89 ac89_ok Tryz.ntmps89 Tryz.results89 rfl ?_
  unfold ac89
  refine bwp_seq fun K hK => bwp_region rfl ?_
  simp -implicitDefEqProofs only [go_sem, ↓reduceIte]
  refine hK _ ?_; clear hK
  refine bwp_seq fun K1 hK1 => ?_
  by_cases h1 : q.tok.kd = 2
  · refine bwp_seq fun K hK => bwp_region rfl ?_
    simp -implicitDefEqProofs only [go_sem, ↓reduceIte, parC, eq_true h1]
    refine hK _ ?_; clear hK
    refine bwp_cond false (by simp [ev, fget]) (fun h => nomatch h) (fun _ => ?_)
    refine bwp_skip ?_
    refine hK1 _ ?_; clear hK1
    refine bwp_seq fun K1 hK1 => ?_
    refine bwp_seq fun K hK => bwp_region rfl ?_
    simp -implicitDefEqProofs only [go_sem, ↓reduceIte]
    refine pok_callK s q rfl rfl ?_
    cases σ with
    | error e =>
      have hc := h.codeE
      simp -implicitDefEqProofs only [go_sem, ↓reduceIte, mset, hc]
      refine hK _ ?_; clear hK
      refine bwp_cond true (by simp [ev, fget]) (fun _ => ?_) (fun h => nomatch h)
      refine bwp_seq fun K hK => bwp_region rfl ?_
      simp -implicitDefEqProofs only [go_sem, ↓reduceIte]
      refine hK _ ?_; clear hK
      refine bwp_ret ?_
      simp only [go_sem]
      refine aend_mem (.d (.int .i64 0)) [(0, 0), (1, 1)] [(0, parC q), (1, lexQ s q)] ?_ rfl rfl ?_ ⟨q, rfl, 0, rfl, h⟩
      · simp [resA, resVs, resV, fget]
      · simp [entM, pinv, mget, mset, renL, AV.ren, parC, lexQ, lexC, pget]
    | ok a =>
      have hc := h.code
      simp -implicitDefEqProofs only [go_sem, ↓reduceIte, mset, hc]
      refine hK _ ?_; clear hK
      refine bwp_cond false (by simp [ev, fget]) (fun h => nomatch h) (fun _ => ?_)
      refine bwp_skip ?_
      refine hK1 _ ?_; clear hK1
      refine bwp_seq fun K hK => bwp_region rfl ?_
      simp -implicitDefEqProofs only [go_sem, ↓reduceIte, parC]
      repeat' (first
        | (refine gateK_split (fun hb => ?_) (fun hb => ?_) <;> simp -implicitDefEqProofs only [go_sem, ↓reduceIte, hb])
        | (refine dGateK_split (fun hb => ?_) (fun hb => ?_) <;> simp -implicitDefEqProofs only [go_sem, ↓reduceIte, hb])
        | (refine callK_pure (kp) rfl rfl ?_; simp -implicitDefEqProofs only [go_sem, ↓reduceIte])
        | (refine dCallK_pure (kp) rfl rfl ?_; simp -implicitDefEqProofs only [go_sem, ↓reduceIte])
        | (rw [if_pos (by (try simp only [List.length_append, List.length_cons, List.length_nil, List.length_map]); omega)]; simp -implicitDefEqProofs only [go_sem, ↓reduceIte]))
      refine hK _ ?_; clear hK
      refine bwp_seq fun K hK => bwp_region rfl ?_
      simp -implicitDefEqProofs only [go_sem, ↓reduceIte]
      refine pnext_callK hs h rfl rfl ?_
      intro q' hq'
      simp -implicitDefEqProofs only [go_sem, ↓reduceIte, mset]
      refine hK _ ?_; clear hK
      refine bwp_seq fun K hK => bwp_region rfl ?_
      simp -implicitDefEqProofs only [go_sem, ↓reduceIte]
      refine hK _ ?_; clear hK
      refine bwp_ret ?_
      simp only [go_sem]
      refine aend_mem (.d (.int .i64 (parseW q.tok.tx).1)) [(0, 0), (1, 1)] [(0, parC q'), (1, lexQ s q')] ?_ rfl rfl ?_ ⟨q', rfl, _, rfl, ?_⟩
      · simp [resA, resVs, resV, fget]
      · simp [entM, pinv, mget, mset, renL, AV.ren, parC, lexQ, lexC, pget]
      · refine PQ.cur h ?_
        rw [if_pos h1]
        exact PQ.eat (PQ.ret hq')
  · refine bwp_seq fun K hK => bwp_region rfl ?_
    simp -implicitDefEqProofs only [go_sem, ↓reduceIte, parC, eq_false h1]
    refine hK _ ?_; clear hK
    refine bwp_cond true (by simp [ev, fget]) (fun _ => ?_) (fun h => nomatch h)
    refine bwp_region rfl ?_
    simp -implicitDefEqProofs only [go_sem, ↓reduceIte]
    refine pfail_callK s q 6 rfl rfl ?_
    have hc : (failF q 6).code ≠ 0 := failF_code (by decide)
    simp -implicitDefEqProofs only [go_sem, ↓reduceIte, mset]
    refine hK1 _ ?_; clear hK1
    refine bwp_seq fun K1 hK1 => ?_
    refine bwp_seq fun K hK => bwp_region rfl ?_
    simp -implicitDefEqProofs only [go_sem, ↓reduceIte]
    refine pok_callK s (failF q 6) rfl rfl ?_
    simp -implicitDefEqProofs only [go_sem, ↓reduceIte, mset, hc]
    refine hK _ ?_; clear hK
    refine bwp_cond true (by simp [ev, fget]) (fun _ => ?_) (fun h => nomatch h)
    refine bwp_seq fun K hK => bwp_region rfl ?_
    simp -implicitDefEqProofs only [go_sem, ↓reduceIte]
    refine hK _ ?_; clear hK
    refine bwp_ret ?_
    simp only [go_sem]
    refine aend_mem (.d (.int .i64 0)) [(0, 0), (1, 1)] [(0, parC (failF q 6)), (1, lexQ s (failF q 6))] ?_ rfl rfl ?_ ⟨_, rfl, 0, rfl, ?_⟩
    · simp [resA, resVs, resV, fget]
    · simp [entM, pinv, mget, mset, renL, AV.ren, parC, lexQ, lexC, pget]
    · refine PQ.cur h ?_
      rw [if_neg h1]
      exact PQ.bad h (by decide) 0
theorem pnum_callK {s : List UInt8} (hs : s.length ≤ 140737488351232) {σ : PR Nat} {q : PSt} (h : PS s σ q) {dst : Option Nat} {ops : List AOper} {K : St → Prop} {t : Fr} {m : Mem} {n : Nat} (hm0 : mget m 0 = some (parC q)) (hm1 : mget m 1 = some (lexQ s q))
    (hk : ∀ x q', PQ s (thn σ (tNum.run s)) x q' → runOps Tryz.prog ops ⟨putF t dst (.d (.int .i64 x)), mset (mset m 0 (parC q')) 1 (lexQ s q'), n + 2⟩ K) : callK Tryz.prog 89 [.ptr 0 0] dst ops K t m n := by
  refine par_callK (rest := []) (Q := fun r q' => ∃ x, r = .d (.int .i64 x) ∧ PQ s (thn σ (tNum.run s)) x q') (pnum_calls hs h) rfl ?_ hm0 hm1 ?_
  · rintro _ _ ⟨_, rfl, _⟩; rfl
  · rintro _ q' ⟨x, rfl, h⟩; exact hk x q' h
set_option maxHeartbeats 4000000 in
theorem pnamed_calls {s : List UInt8} (hs : s.length ≤ 140737488351232) {σ : PR Nat} {q : PSt} (h : PS s σ q) {g : Nat} (hg : goesB Tryz.prog g = true) {f : List UInt8 → Option Int} {v : List UInt8 → Int} (hv : ∀ x n, f x = some n → v x = n)
    (hp : ∀ x : List UInt8, x ≠ [] → Pure Tryz.prog g [.d (.str x)] (.tup [.d (.int .i64 (v x)), .d (.bool (f x).isSome)])) :
    ACalls Tryz.prog 87 [.ptr 0 0, .fn g []] [(0, parC q), (1, lexQ s q)] fun r m' => ∃ q', m' = [(0, parC q'), (1, lexQ s q')] ∧ ∃ x, r = .d (.int .i64 x) ∧ PQ s (thn σ ((tNamed f).run s)) x q' := by
  have hpos := h.pos
  refine acalls_of Tryz.func87 ac87_ok Tryz.ntmps87 Tryz.results87 rfl ?_
  unfold ac87
  refine bwp_seq fun K hK => bwp_region rfl ?_
  simp -implicitDefEqProofs only [go_sem, ↓reduceIte]
  refine hK _ ?_; clear hK
  refine bwp_seq fun K1 hK1 => ?_
  by_cases h1 : q.tok.kd = 1
  · have kp := hp q.tok.tx (hpos.1 h1)
    refine bwp_seq fun K hK => bwp_region rfl ?_
    simp -implicitDefEqProofs only [go_sem, ↓reduceIte, parC, eq_true h1]
    refine hK _ ?_; clear hK
    refine bwp_cond false (by simp [ev, fget]) (fun h => nomatch h) (fun _ => ?_)
    refine bwp_skip ?_
    refine hK1 _ ?_; clear hK1
    refine bwp_seq fun K hK => bwp_region rfl ?_
    simp -implicitDefEqProofs only [go_sem, ↓reduceIte]
    refine ⟨hg, ?_⟩
    refine callK_pure kp rfl rfl ?_
    simp -implicitDefEqProofs only [go_sem, ↓reduceIte]
    refine hK _ ?_; clear hK
    refine bwp_seq fun K1 hK1 => ?_
    cases hf : f q.tok.tx with
    | none =>
      refine bwp_seq fun K hK => bwp_region rfl ?_
      simp -implicitDefEqProofs only [go_sem, ↓reduceIte, Option.isSome_none]
      refine hK _ ?_; clear hK
      refine bwp_cond true (by simp [ev, fget]) (fun _ => ?_) (fun h => nomatch h)
      refine bwp_seq fun K hK => bwp_region rfl ?_
      simp -implicitDefEqProofs only [go_sem, ↓reduceIte]
      refine pfail_callK s q 7 rfl rfl ?_
      simp -implicitDefEqProofs only [go_sem, ↓reduceIte, mset]
      refine hK _ ?_; clear hK
      refine bwp_seq fun K hK => bwp_region rfl ?_
      simp -implicitDefEqProofs only [go_sem, ↓reduceIte]
      refine hK _ ?_; clear hK
      refine bwp_ret ?_
      simp only [go_sem]
      refine aend_mem (.d (.int .i64 0)) [(0, 0), (1, 1)] [(0, parC (failF q 7)), (1, lexQ s (failF q 7))] ?_ rfl rfl ?_ ⟨_, rfl, 0, rfl, ?_⟩
      · simp [resA, resVs, resV, fget]
      · simp [entM, pinv, mget, mset, renL, AV.ren, parC, lexQ, lexC, pget]
      · refine PQ.cur h ?_
        rw [if_pos h1, hf]
        exact PQ.bad h (by decide) 0
    | some n =>
      have hvn := hv _ _ hf
      refine bwp_seq fun K hK => bwp_region rfl ?_
      simp -implicitDefEqProofs only [go_sem, ↓reduceIte, Option.isSome_some]
      refine hK _ ?_; clear hK
      refine bwp_cond false (by simp [ev, fget]) (fun h => nomatch h) (fun _ => ?_)
      refine bwp_skip ?_
      refine hK1 _ ?_; clear hK1
      refine bwp_seq fun K hK => bwp_region rfl ?_
      simp -implicitDefEqProofs only [go_sem, ↓reduceIte]
      refine pnext_callK hs h rfl rfl ?_
      intro q' hq'
      simp -implicitDefEqProofs only [go_sem, ↓reduceIte, mset]
      refine hK _ ?_; clear hK
      refine bwp_seq fun K hK => bwp_region rfl ?_
      simp -implicitDefEqProofs only [go_sem, ↓reduceIte]
      refine hK _ ?_; clear hK
      refine bwp_ret ?_
      simp only [go_sem]
      refine aend_mem (.d (.int .i64 n)) [(0, 0), (1, 1)] [(0, parC q'), (1, lexQ s q')] ?_ rfl rfl ?_ ⟨q', rfl, n, rfl, ?_⟩
      · simp [resA, resVs, resV, fget, hvn]
      · simp [entM, pinv, mget, mset, renL, AV.ren, parC, lexQ, lexC, pget]
      · refine PQ.cur h ?_
        rw [if_pos h1, hf]
        exact PQ.eat (PQ.ret hq')
  · refine bwp_seq fun K hK => bwp_region rfl ?_
    simp -implicitDefEqProofs only [go_sem, ↓reduceIte, parC, eq_false h1]
    refine hK _ ?_; clear hK
    refine bwp_cond true (by simp [ev, fget]) (fun _ => ?_) (fun h => nomatch h)
    refine bwp_seq fun K hK => bwp_region rfl ?_
    simp -implicitDefEqProofs only [go_sem, ↓reduceIte]
    refine pfail_callK s q 6 rfl rfl ?_
    simp -implicitDefEqProofs only [go_sem, ↓reduceIte, mset]
    refine hK _ ?_; clear hK
    refine bwp_seq fun K hK => bwp_region rfl ?_
    simp -implicitDefEqProofs only [go_sem, ↓reduceIte]
    refine hK _ ?_; clear hK
    refine bwp_ret ?_
    simp only [go_sem]
    refine aend_mem (.d (.int .i64 0)) [(0, 0), (1, 1)] [(0, parC (failF q 6)), (1, lexQ s (failF q 6))] ?_ rfl rfl ?_ ⟨_, rfl, 0, rfl, ?_⟩
    · simp [resA, resVs, resV, fget]
    · simp [entM, pinv, mget, mset, renL, AV.ren, parC, lexQ, lexC, pget]
    · refine PQ.cur h ?_
      rw [if_neg h1]
      exact PQ.bad h (by decide) 0
theorem isLoc1_pure {x : List UInt8} (hx : x ≠ []) : Pure Tryz.prog 88 [.d (.str x)] (.tup [.d (.int .i64 ((x.getD 0 0).toNat : Int)), .d (.bool (locN x).isSome)]) := by
  have hl : 0 < x.length := List.length_pos_iff.2 hx
  have hl' : (0 : Int) < x.length := by omega
  have hb : ((x.getD 0 0).toNat : Int) < 256 := by have := (x.getD 0 0).toNat_lt; omega
  have hw : IntKind.i64.wrap ((x.getD 0 0).toNat : Int) = ((x.getD 0 0).toNat : Int) := wrap_i64 (by omega) (by omega)
  refine acalls_of Tryz.func88 ac88_ok Tryz.ntmps88 Tryz.results88 rfl ?_
  unfold ac88
  refine bwp_seq fun K hK => bwp_region rfl ?_
  simp -implicitDefEqProofs only [go_sem, ↓reduceIte]
  refine hK _ ?_; clear hK
  refine bwp_seq fun K hK => bwp_region rfl ?_
  simp -implicitDefEqProofs only [go_sem, ↓reduceIte, hl', hw]
  refine hK _ ?_; clear hK
  refine bwp_ret ?_
  simp -implicitDefEqProofs only [go_sem, ↓reduceIte]
  refine aend_ret (.tup [.d (.int .i64 ((x.getD 0 0).toNat : Int)), .d (.bool (locN x).isSome)]) ?_ rfl ⟨rfl, rfl⟩
  by_cases h1 : x.length = 1
  · have : (x.length : Int) = 1 := by omega
    simp [resA, resVs, resV, fget, locN, h1]
  · have : ¬ (x.length : Int) = 1 := by omega
    simp [resA, resVs, resV, fget, locN, h1, this]
theorem ploc_callK {s : List UInt8} (hs : s.length ≤ 140737488351232) {σ : PR Nat} {q : PSt} (h : PS s σ q) {dst : Option Nat} {ops : List AOper} {K : St → Prop} {t : Fr} {m : Mem} {n : Nat} (hm0 : mget m 0 = some (parC q)) (hm1 : mget m 1 = some (lexQ s q))
    (hk : ∀ x q', PQ s (thn σ ((tNamed locN).run s)) x q' → runOps Tryz.prog ops ⟨putF t dst (.d (.int .i64 x)), mset (mset m 0 (parC q')) 1 (lexQ s q'), n + 2⟩ K) : callK Tryz.prog 87 [.ptr 0 0, .fn 88 []] dst ops K t m n := by
  refine par_callK (rest := [.fn 88 []]) (Q := fun r q' => ∃ x, r = .d (.int .i64 x) ∧ PQ s (thn σ ((tNamed locN).run s)) x q') (pnamed_calls hs h (f := locN) (v := fun x => ((x.getD 0 0).toNat : Int)) (by kernel_rfl) (fun x n hn => by
    unfold locN at hn
    split at hn
    · exact Option.some.inj hn
    · cases hn) (fun x hx => isLoc1_pure hx)) rfl ?_ hm0 hm1 ?_
  · rintro _ _ ⟨_, rfl, _⟩; rfl
  · rintro _ q' ⟨x, rfl, h⟩; exact hk x q' h
set_option maxHeartbeats 4000000 in
theorem isReg1_pure (x : List UInt8) : Pure Tryz.prog 127 [.d (.str x)] (.tup [.d (.int .i64 ((regN x).getD 0)), .d (.bool (regN x).isSome)]) := by
  have key : ∀ (c k : UInt8), ((c.toNat : Int) = (k.toNat : Int)) ↔ c = k := fun c k => ⟨u8eq, fun h => by rw [h]⟩
  refine acalls_of Tryz.func127 ac127_ok Tryz.ntmps127 Tryz.results127 rfl ?_
  unfold ac127
  refine bwp_seq fun K hK => bwp_region rfl ?_
  simp -implicitDefEqProofs only [go_sem, ↓reduceIte]
  refine hK _ ?_; clear hK
  refine bwp_seq fun K1 hK1 => ?_
  by_cases h2 : x.length = 2
  · have h2' : (x.length : Int) = 2 := by omega
    have i0 : (0 : Int) < x.length := by omega
    have i1 : (1 : Int) < x.length := by omega
    by_cases hr : ((x.getD 0 0).toNat : Int) = 114
    · by_cases hlo : ((x.getD 1 0).toNat : Int) < 48
      · have hn : regN x = none := by unfold regN; rw [if_neg (by omega)]
        refine bwp_seq fun K hK => bwp_region rfl ?_
        simp -implicitDefEqProofs only [go_sem, ↓reduceIte, h2', i0, i1, hr, hlo]
        refine hK _ ?_; clear hK
        refine bwp_cond true (by simp [ev, fget]) (fun _ => ?_) (fun h => nomatch h)
        refine bwp_seq fun K hK => bwp_region rfl ?_
        simp -implicitDefEqProofs only [go_sem, ↓reduceIte]
        refine hK _ ?_; clear hK
        refine bwp_ret ?_
        simp -implicitDefEqProofs only [go_sem, ↓reduceIte]
        refine aend_ret _ rfl rfl ⟨?_, rfl⟩
        simp [fget, hn]
      · by_cases hhi : (51 : Int) < (x.getD 1 0).toNat
        · have hn : regN x = none := by unfold regN; rw [if_neg (by omega)]
          refine bwp_seq fun K hK => bwp_region rfl ?_
          simp -implicitDefEqProofs only [go_sem, ↓reduceIte, h2', i0, i1, hr, hlo, hhi]
          refine hK _ ?_; clear hK
          refine bwp_cond true (by simp [ev, fget]) (fun _ => ?_) (fun h => nomatch h)
          refine bwp_seq fun K hK => bwp_region rfl ?_
          simp -implicitDefEqProofs only [go_sem, ↓reduceIte]
          refine hK _ ?_; clear hK
          refine bwp_ret ?_
          simp -implicitDefEqProofs only [go_sem, ↓reduceIte]
          refine aend_ret _ rfl rfl ⟨?_, rfl⟩
          simp [fget, hn]
        · have hn : regN x = some (((x.getD 1 0).toNat - 48 : Nat) : Int) := by
            unfold regN
            rw [if_pos ⟨h2, u8eq (k := 114) hr, by omega, by omega⟩]
          have hand : IntKind.i64.wrap (bits .and .u8 ((x.getD 1 0).toNat : Int) 3) = (((x.getD 1 0).toNat - 48 : Nat) : Int) := by
            have h4 : x.getD 1 0 = 48 ∨ x.getD 1 0 = 49 ∨ x.getD 1 0 = 50 ∨ x.getD 1 0 = 51 := by
              have k1 := key (x.getD 1 0) 48
              have k2 := key (x.getD 1 0) 49
              have k3 := key (x.getD 1 0) 50
              have k4 := key (x.getD 1 0) 51
              simp only [UInt8.reduceToNat, Int.cast_ofNat_Int] at k1 k2 k3 k4
              rw [← k1, ← k2, ← k3, ← k4]
              omega
            rcases h4 with h | h | h | h <;> rw [h] <;> decide
          refine bwp_seq fun K hK => bwp_region rfl ?_
          simp -implicitDefEqProofs only [go_sem, ↓reduceIte, h2', i0, i1, hr, hlo, hhi]
          refine hK _ ?_; clear hK
          refine bwp_cond false (by simp [ev, fget]) (fun h => nomatch h) (fun _ => ?_)
          refine bwp_skip ?_
          refine hK1 _ ?_; clear hK1
          refine bwp_seq fun K hK => bwp_region rfl ?_
          simp -implicitDefEqProofs only [go_sem, ↓reduceIte, i1, hand]
          refine hK _ ?_; clear hK
          refine bwp_ret ?_
          simp -implicitDefEqProofs only [go_sem, ↓reduceIte]
          refine aend_ret _ rfl rfl ⟨?_, rfl⟩
          simp [fget, hn]
    · have hn : regN x = none := by unfold regN; rw [if_neg (fun h => hr (by rw [h.2.1]; rfl))]
      refine bwp_seq fun K hK => bwp_region rfl ?_
      simp -implicitDefEqProofs only [go_sem, ↓reduceIte, h2', i0, i1, hr]
      refine hK _ ?_; clear hK
      refine bwp_cond true (by simp [ev, fget]) (fun _ => ?_) (fun h => nomatch h)
      refine bwp_seq fun K hK => bwp_region rfl ?_
      simp -implicitDefEqProofs only [go_sem, ↓reduceIte]
      refine hK _ ?_; clear hK
      refine bwp_ret ?_
      simp -implicitDefEqProofs only [go_sem, ↓reduceIte]
      refine aend_ret _ rfl rfl ⟨?_, rfl⟩
      simp [fget, hn]
  · have h2' : ¬ (x.length : Int) = 2 := by omega
    have hn : regN x = none := by unfold regN; rw [if_neg (fun h => h2 h.1)]
    refine bwp_seq fun K hK => bwp_region rfl ?_
    simp -implicitDefEqProofs only [go_sem, ↓reduceIte, h2']
    refine hK _ ?_; clear hK
    refine bwp_cond true (by simp [ev, fget]) (fun _ => ?_) (fun h => nomatch h)
    refine bwp_seq fun K hK => bwp_region rfl ?_
    simp -implicitDefEqProofs only [go_sem, ↓reduceIte]
    refine hK _ ?_; clear hK
    refine bwp_ret ?_
    simp -implicitDefEqProofs only [go_sem, ↓reduceIte]
    refine aend_ret _ rfl rfl ⟨?_, rfl⟩
    simp [fget, hn]
theorem preg_callK {s : List UInt8} (hs : s.length ≤ 140737488351232) {σ : PR Nat} {q : PSt} (h : PS s σ q) {dst : Option Nat} {ops : List AOper} {K : St → Prop} {t : Fr} {m : Mem} {n : Nat} (hm0 : mget m 0 = some (parC q)) (hm1 : mget m 1 = some (lexQ s q))
    (hk : ∀ x q', PQ s (thn σ ((tNamed regN).run s)) x q' → runOps Tryz.prog ops ⟨putF t dst (.d (.int .i64 x)), mset (mset m 0 (parC q')) 1 (lexQ s q'), n + 2⟩ K) : callK Tryz.prog 87 [.ptr 0 0, .fn 127 []] dst ops K t m n := by
  refine par_callK (rest := [.fn 127 []]) (Q := fun r q' => ∃ x, r = .d (.int .i64 x) ∧ PQ s (thn σ ((tNamed regN).run s)) x q') (pnamed_calls hs h (f := regN) (v := fun x => (regN x).getD 0) (by kernel_rfl) (fun x n hn => by rw [hn]; rfl) (fun x _ => isReg1_pure x)) rfl ?_ hm0 hm1 ?_
  · rintro _ _ ⟨_, rfl, _⟩; rfl
  · rintro _ q' ⟨x, rfl, h⟩; exact hk x q' h
set_option maxHeartbeats 4000000 in
theorem popd_calls {s : List UInt8} (hs : s.length ≤ 140737488351232) {σ : PR Nat} {q : PSt} (h : PS s σ q) :
    ACalls Tryz.prog 126 [.ptr 0 0] [(0, parC q), (1, lexQ s q)] fun r m' => ∃ q', m' = [(0, parC q'), (1, lexQ s q')] ∧ ∃ x : Opnd, r = .agg (x.cells.map .d) ∧ PQ s (thn σ (tOpd.run s)) x q' := by
  have h84 : ldk Tryz.prog 53 = some (some 2) := by kernel_rfl
  refine acalls_of Tryz.func126 ac126_ok Tryz.ntmps126 Tryz.results126 rfl ?_
  unfold ac126
  refine bwp_seq fun K hK => bwp_region rfl ?_
  simp -implicitDefEqProofs only [go_sem, ↓reduceIte]
  refine hK _ ?_; clear hK
  refine bwp_seq fun K1 hK1 => ?_
  have no : ∀ (S : St), (q.code = 0 → q.tok.kd ≠ 2) → Leads 2 19 S ⟨[(0, .ptr 0 0), (2, .ptr 2 0)], [(0, parC q), (1, lexQ s q), (2, [.d (.int .i64 0), .d (.int .i64 0)])], 3⟩ → K1 S := by
    intro S hn hS
    refine hK1 _ ?_; clear hK1
    refine bwp_leads hS ?_
    refine bwp_seq fun K hK => bwp_region rfl ?_
    simp -implicitDefEqProofs only [go_sem, ↓reduceIte]
    refine preg_callK hs h rfl rfl ?_
    intro x q' hq'
    simp -implicitDefEqProofs only [go_sem, ↓reduceIte, mset]
    refine hK _ ?_; clear hK
    refine bwp_ret ?_
    simp only [go_sem]
    refine aend_mem (.agg (Opnd.cells ⟨x, 0⟩ |>.map .d)) [(0, 0), (1, 1)] [(0, parC q'), (1, lexQ s q')] ?_ rfl rfl ?_ ⟨q', rfl, ⟨x, 0⟩, rfl, ?_⟩
    · simp [resA, resVs, resV, fget, mget, mset, loadA, h84, Opnd.cells]
    · simp [entM, pinv, mget, mset, renL, AV.ren, parC, lexQ, lexC, pget]
    · cases σ with
      | error e => exact hq'
      | ok a =>
        refine PQ.cur h ?_
        rw [if_neg (hn h.code)]
        exact PQ.bind hq' (PQ.ret hq'.ps)
  refine bwp_seq fun K hK => bwp_region rfl ?_
  simp -implicitDefEqProofs only [go_sem, ↓reduceIte]
  refine pok_callK s q rfl rfl ?_
  by_cases hc : q.code = 0
  · by_cases h2 : q.tok.kd = 2
    · simp -implicitDefEqProofs only [go_sem, ↓reduceIte, mset, eq_true hc, eq_true h2, parC, decide_true]
      refine hK _ ?_; clear hK
      refine bwp_cond true (by simp [ev, fget]) (fun _ => ?_) (fun h => nomatch h)
      refine bwp_seq fun K hK => bwp_region rfl ?_
      simp -implicitDefEqProofs only [go_sem, ↓reduceIte]
      refine pnum_callK (q := q) hs h rfl rfl ?_
      intro x q' hq'
      simp -implicitDefEqProofs only [go_sem, ↓reduceIte, mset]
      refine hK _ ?_; clear hK
      refine bwp_ret ?_
      simp only [go_sem]
      refine aend_mem (.agg (Opnd.cells ⟨-1, x⟩ |>.map .d)) [(0, 0), (1, 1)] [(0, parC q'), (1, lexQ s q')] ?_ rfl rfl ?_ ⟨q', rfl, ⟨-1, x⟩, rfl, ?_⟩
      · simp [resA, resVs, resV, fget, mget, mset, loadA, h84, Opnd.cells]
      · simp [entM, pinv, mget, mset, renL, AV.ren, parC, lexQ, lexC, pget]
      · refine PQ.cur h ?_
        rw [if_pos h2]
        exact PQ.bind hq' (PQ.ret hq'.ps)
    · simp -implicitDefEqProofs only [go_sem, ↓reduceIte, mset, eq_true hc, eq_false h2, parC, decide_true]
      refine hK _ ?_; clear hK
      refine bwp_cond false (by simp [ev, fget]) (fun h => nomatch h) (fun _ => ?_)
      refine bwp_skip ?_
      refine no _ (fun _ => h2) ?_
      exact Leads.ent [(0, 0), (1, 1), (2, 2)] ⟨by simp [entT, fget, AV.ren, renL, pget], by simp [entM, pinv, mget, mset, renL, AV.ren, parC, lexQ, lexC, pget], rfl, rfl⟩
  · simp -implicitDefEqProofs only [go_sem, ↓reduceIte, mset, eq_false hc, parC, decide_false]
    refine hK _ ?_; clear hK
    refine bwp_cond false (by simp [ev, fget]) (fun h => nomatch h) (fun _ => ?_)
    refine bwp_skip ?_
    refine no _ (fun h0 => absurd h0 hc) ?_
    exact Leads.ent [(0, 0), (1, 1), (2, 2)] ⟨by simp [entT, fget, AV.ren, renL, pget], by simp [entM, pinv, mget, mset, renL, AV.ren, parC, lexQ, lexC, pget], rfl, rfl⟩
theorem opnd_in (x : Opnd) : inB (fun _ => none) (.agg (x.cells.map .d)) = true := rfl
theorem popd_callK {s : List UInt8} (hs : s.length ≤ 140737488351232) {σ : PR Nat} {q : PSt} (h : PS s σ q) {dst : Option Nat} {ops : List AOper} {K : St → Prop} {t : Fr} {m : Mem} {n : Nat} (hm0 : mget m 0 = some (parC q)) (hm1 : mget m 1 = some (lexQ s q))
    (hk : ∀ (x : Opnd) q', PQ s (thn σ (tOpd.run s)) x q' → runOps Tryz.prog ops ⟨putF t dst (.agg [.d (.int .i64 x.reg), .d (.int .i64 x.value)]), mset (mset m 0 (parC q')) 1 (lexQ s q'), n + 2⟩ K) : callK Tryz.prog 126 [.ptr 0 0] dst ops K t m n := by
  refine par_callK (rest := []) (Q := fun r q' => ∃ x : Opnd, r = .agg (x.cells.map .d) ∧ PQ s (thn σ (tOpd.run s)) x q') (popd_calls hs h) rfl ?_ hm0 hm1 ?_
  · rintro _ _ ⟨x, rfl, _⟩; exact opnd_in x
  · rintro _ q' ⟨x, rfl, h⟩; exact hk x q' h
end Go.Proofs.YtpfbljkfbjjlkaaGreatDoor

/- The parser's instructions. -/
namespace Go.Proofs.YtpfbljkfbjjlkaaGreatDoor
open Go Go.Jq
set_option maxRecDepth 100000
set_option linter.unusedSimpArgs false
theorem PQ.past_bad {α γ : Type} {s : List UInt8} {τ : PR Nat} {c : Int} {f : Nat → PR (γ × Nat)} {y : γ} {q' : PSt} (h : PQ s (thn (posR (thn τ ((PT.bad c : PT α).run s))) f) y q') : PQ s (thn τ ((PT.bad c : PT γ).run s)) y q' := by
  cases τ with
  | error e => exact h
  | ok a => exact h
def insC (x : Ins) : List AV := x.cells.map .d
set_option maxHeartbeats 16000000 in
theorem pright_calls {s : List UInt8} (hs : s.length ≤ 140737488351232) {σ : PR Nat} {q : PSt} (h : PS s σ q) (rg : Int) :
    ACalls Tryz.prog 128 [.ptr 0 0, .ptr 2 0] [(0, parC q), (1, lexQ s q), (2, insC ⟨0, rg, 0, ⟨0, 0⟩, 0, ⟨0, 0⟩, 0⟩)] fun r m' => ∃ q' x', m' = [(0, parC q'), (1, lexQ s q'), (2, insC x')] ∧ (r = .tup [] ∧ PQ s (thn σ ((tRight rg).run s)) x' q') := by
  refine acalls_of Tryz.func128 ac128_ok Tryz.ntmps128 Tryz.results128 rfl ?_
  unfold ac128
  refine bwp_block ?_
  have fin : ∀ (e : Exit) (t : Fr) (n : Nat) (q' : PSt) (x' : Ins), (e = .ret ∨ e = .normal) → PQ s (thn σ ((tRight rg).run s)) x' q' →
      AEnd Tryz.prog #[] 3 (fun r m' => ∃ q' x', m' = [(0, parC q'), (1, lexQ s q'), (2, insC x')] ∧ (r = .tup [] ∧ PQ s (thn σ ((tRight rg).run s)) x' q')) e ⟨t, [(0, parC q'), (1, lexQ s q'), (2, insC x')], n⟩ := by
    intro e t n q' x' he hq
    rcases he with rfl | rfl
    · refine ⟨.tup [], rfl, [(0, 0), (1, 1), (2, 2)], [(0, parC q'), (1, lexQ s q'), (2, insC x')], rfl, rfl, ?_, ⟨q', x', rfl, rfl, hq⟩⟩
      simp [entM, pinv, mget, mset, renL, AV.ren, parC, lexQ, lexC, pget, insC, Ins.cells]
    · refine ⟨.tup [], rfl, [(0, 0), (1, 1), (2, 2)], [(0, parC q'), (1, lexQ s q'), (2, insC x')], rfl, rfl, ?_, ⟨q', x', rfl, rfl, hq⟩⟩
      simp [entM, pinv, mget, mset, renL, AV.ren, parC, lexQ, lexC, pget, insC, Ins.cells]
  refine bwp_seq fun K hK => bwp_region rfl ?_
  simp only [go_sem, ↓reduceIte]
  refine ptake_callK hs h [108, 111, 97, 100] rfl rfl ?_
  intro q1 hy hn
  cases hb1 : tkB q [108, 111, 97, 100] with
  | true =>
    have h1 := hy hb1
    simp only [go_sem, ↓reduceIte, mset]
    refine hK _ ?_; clear hK
    refine bwp_cond true (by simp [ev, fget]) (fun _ => ?_) (fun h => nomatch h)
    refine bwp_region rfl ?_
    simp only [go_sem, ↓reduceIte]
    refine ploc_callK hs h1 rfl rfl ?_
    intro l q2 h2
    simp only [go_sem, ↓reduceIte, mset, insC, Ins.cells]
    refine fin .normal _ _ q2 ⟨2, rg, l, ⟨0, 0⟩, 0, ⟨0, 0⟩, 0⟩ (.inr rfl) ?_
    exact PQ.take_yes h hb1 (PQ.bind h2 (PQ.ret h2.ps))
  | false =>
    have h1 := hn hb1
    subst h1
    simp only [go_sem, ↓reduceIte, mset]
    refine hK _ ?_; clear hK
    refine bwp_cond false (by simp [ev, fget]) (fun h => nomatch h) (fun _ => ?_)
    refine bwp_seq fun K hK => bwp_region rfl ?_
    simp only [go_sem, ↓reduceIte]
    refine ptake_callK hs h [99, 97, 115] rfl rfl ?_
    intro q2 hy hn
    cases hb2 : tkB q1 [99, 97, 115] with
    | true =>
      have h2 := hy hb2
      simp only [go_sem, ↓reduceIte, mset]
      refine hK _ ?_; clear hK
      refine bwp_cond true (by simp [ev, fget]) (fun _ => ?_) (fun h => nomatch h)
      refine bwp_seq fun K hK => bwp_region rfl ?_
      simp only [go_sem, ↓reduceIte]
      refine ploc_callK hs h2 rfl rfl ?_
      intro l q3 h3
      simp only [go_sem, ↓reduceIte, mset, insC, Ins.cells]
      refine hK _ ?_; clear hK
      refine bwp_seq fun K hK => bwp_region rfl ?_
      simp only [go_sem, ↓reduceIte]
      refine popd_callK hs h3.ps rfl rfl ?_
      intro x q4 h4
      simp only [go_sem, ↓reduceIte, mset]
      refine hK _ ?_; clear hK
      refine bwp_region rfl ?_
      simp only [go_sem, ↓reduceIte]
      refine popd_callK hs h4.ps rfl rfl ?_
      intro y q5 h5
      simp only [go_sem, ↓reduceIte, mset]
      refine fin .normal _ _ q5 ⟨4, rg, l, x, 0, y, 0⟩ (.inr rfl) ?_
      exact PQ.take_no h hb1 (PQ.take_yes h hb2 (PQ.bind h3 (PQ.bind h4 (PQ.bind h5 (PQ.ret h5.ps)))))
    | false =>
      have h2 := hn hb2
      subst h2
      simp only [go_sem, ↓reduceIte, mset]
      refine hK _ ?_; clear hK
      refine bwp_cond false (by simp [ev, fget]) (fun h => nomatch h) (fun _ => ?_)
      refine bwp_seq fun K hK => bwp_region rfl ?_
      simp only [go_sem, ↓reduceIte]
      refine popd_callK hs h rfl rfl ?_
      intro x q3 h3
      simp only [go_sem, ↓reduceIte, mset, insC, Ins.cells]
      refine hK _ ?_; clear hK
      have stop : (q3.code = 0 → q3.tok.kd = 3 → (opW q3.tok.tx).2 = false) → PQ s (thn σ ((tRight rg).run s)) ⟨5, rg, 0, x, 0, ⟨-1, 0⟩, 0⟩ q3 := by
        intro hno
        refine PQ.take_no h hb1 (PQ.take_no h hb2 (PQ.bind h3 ?_))
        have h3' := h3.ps
        generalize posR (thn σ (tOpd.run s)) = τ at h3' ⊢
        cases τ with
        | error e => exact h3'
        | ok a =>
          refine PQ.cur h3' ?_
          rw [if_neg (fun hc => by rw [hno h3'.code hc.1] at hc; cases hc.2)]
          exact PQ.ret h3'
      refine bwp_seq fun K1 hK1 => ?_
      refine bwp_seq fun K hK => bwp_region rfl ?_
      simp only [go_sem, ↓reduceIte]
      refine pok_callK s q3 rfl rfl ?_
      by_cases hc : q3.code = 0
      · by_cases hk : q3.tok.kd = 3
        · simp only [go_sem, ↓reduceIte, mset, eq_true hc, eq_true hk, parC, decide_true]
          refine hK _ ?_; clear hK
          refine bwp_cond false (by simp [ev, fget]) (fun h => nomatch h) (fun _ => ?_)
          refine bwp_skip ?_
          refine hK1 _ ?_; clear hK1
          have hl := h3.ps.pos.2
          have kop := op_pure q3.tok.tx
          refine bwp_seq fun K hK => bwp_region rfl ?_
          simp only [go_sem, ↓reduceIte]
          repeat' (first
            | (refine gateK_split (fun hb => ?_) (fun hb => ?_) <;> simp only [go_sem, ↓reduceIte, hb])
            | (refine dGateK_split (fun hb => ?_) (fun hb => ?_) <;> simp only [go_sem, ↓reduceIte, hb])
            | (refine callK_pure (kop) rfl rfl ?_; simp only [go_sem, ↓reduceIte])
            | (refine dCallK_pure (kop) rfl rfl ?_; simp only [go_sem, ↓reduceIte])
            | (rw [if_pos (by (try simp only [List.length_append, List.length_cons, List.length_nil, List.length_map]); omega)]; simp only [go_sem, ↓reduceIte]))
          refine hK _ ?_; clear hK
          refine bwp_seq fun K hK => bwp_region rfl ?_
          simp only [go_sem, ↓reduceIte]
          refine hK _ ?_; clear hK
          cases ho : (opW q3.tok.tx).2 with
          | false =>
            refine bwp_cond false (by simp [ev, fget, ho]) (fun h => nomatch h) (fun _ => ?_)
            refine bwp_skip ?_
            refine fin .normal _ _ q3 ⟨5, rg, 0, x, 0, ⟨-1, 0⟩, 0⟩ (.inr rfl) (stop fun _ _ => ho)
          | true =>
            refine bwp_cond true (by simp [ev, fget, ho]) (fun _ => ?_) (fun h => nomatch h)
            refine bwp_seq fun K hK => bwp_region rfl ?_
            simp only [go_sem, ↓reduceIte]
            refine pnext_callK (q := q3) hs h3.ps rfl rfl ?_
            intro q4 h4
            simp only [go_sem, ↓reduceIte, mset]
            refine hK _ ?_; clear hK
            refine bwp_region rfl ?_
            simp only [go_sem, ↓reduceIte]
            refine popd_callK hs h4 rfl rfl ?_
            intro z q5 h5
            simp only [go_sem, ↓reduceIte, mset]
            refine fin .normal _ _ q5 ⟨5, rg, 0, x, (opW q3.tok.tx).1, z, 0⟩ (.inr rfl) ?_
            refine PQ.take_no h hb1 (PQ.take_no h hb2 (PQ.bind h3 ?_))
            refine PQ.cur h3.ps ?_
            rw [if_pos ⟨hk, ho⟩]
            exact PQ.eat (PQ.bind h5 (PQ.ret h5.ps))
        · simp only [go_sem, ↓reduceIte, mset, eq_true hc, eq_false hk, parC, decide_true]
          refine hK _ ?_; clear hK
          refine bwp_cond true (by simp [ev, fget]) (fun _ => ?_) (fun h => nomatch h)
          refine bwp_ret ?_
          simp only [go_sem, ↓reduceIte]
          exact fin .ret _ _ q3 ⟨5, rg, 0, x, 0, ⟨-1, 0⟩, 0⟩ (.inl rfl) (stop fun _ h => absurd h hk)
      · simp only [go_sem, ↓reduceIte, mset, eq_false hc, parC, decide_false]
        refine hK _ ?_; clear hK
        refine bwp_cond true (by simp [ev, fget]) (fun _ => ?_) (fun h => nomatch h)
        refine bwp_ret ?_
        simp only [go_sem, ↓reduceIte]
        exact fin .ret _ _ q3 ⟨5, rg, 0, x, 0, ⟨-1, 0⟩, 0⟩ (.inl rfl) (stop fun h => absurd h hc)
theorem insC_ren (π : Nat → Option Nat) (x : Ins) : renL π (insC x) = insC x := renL_d _ _
theorem insC_in (π : Nat → Option Nat) (x : Ins) : inL π (insC x) = true := rfl
theorem pright_callK {s : List UInt8} (hs : s.length ≤ 140737488351232) {σ : PR Nat} {q : PSt} (h : PS s σ q) (rg : Int) {j : Nat} (hj : 2 ≤ j) {dst : Option Nat} {ops : List AOper} {K : St → Prop} {t : Fr} {m : Mem} {n : Nat} (hm0 : mget m 0 = some (parC q)) (hm1 : mget m 1 = some (lexQ s q)) (hm2 : mget m j = some (insC ⟨0, rg, 0, ⟨0, 0⟩, 0, ⟨0, 0⟩, 0⟩))
    (hk : ∀ x' q', PQ s (thn σ ((tRight rg).run s)) x' q' → runOps Tryz.prog ops ⟨putF t dst (.tup []), mset (mset (mset m 0 (parC q')) 1 (lexQ s q')) j (insC x'), n + 3⟩ K) : callK Tryz.prog 128 [.ptr 0 0, .ptr j 0] dst ops K t m n := by
  have e0 : pget [(0, 0), (1, 1), (2, j)] 1 = some 1 := rfl
  have ht : ∀ x, pget [(0, 0), (1, 1), (2, j)] x = if 0 = x then some 0 else if 1 = x then some 1 else if 2 = x then some j else none := fun x => rfl
  refine callK_gen [(0, 0), (1, 1), (2, j)] [.ptr 0 0, .ptr 2 0] [(0, parC q), (1, lexQ s q), (2, insC ⟨0, rg, 0, ⟨0, 0⟩, 0, ⟨0, 0⟩, 0⟩)] (nb := j + 1) (pright_calls hs h rg) ?_ (by simp [renL, AV.ren, pget]) rfl ?_ rfl ?_
  · simp [okRen]; omega
  · refine ⟨?_, ?_, ?_, trivial⟩
    · show mget m 0 = some (renL (pget _) (parC q)) ∧ _
      exact ⟨by rw [hm0, parC_ren _ e0], rfl⟩
    · show mget m 1 = some (renL (pget _) (lexQ s q)) ∧ _
      exact ⟨by rw [hm1, lexQ_ren], rfl⟩
    · show mget m j = some (renL (pget _) (insC _)) ∧ _
      exact ⟨by rw [hm2, insC_ren], rfl⟩
  · rintro r0 m' ⟨q', x', rfl, rfl, hq⟩
    have e1 : callMem [(0, 0), (1, 1), (2, j)] [(0, parC q), (1, lexQ s q), (2, insC ⟨0, rg, 0, ⟨0, 0⟩, 0, ⟨0, 0⟩, 0⟩)] [(0, parC q'), (1, lexQ s q'), (2, insC x')] n m = mset (mset (mset m 0 (parC q')) 1 (lexQ s q')) j (insC x') := by
      show mset (mset (mset m 0 (renL (renOf [(0, 0), (1, 1), (2, j)] _ _ n) (parC q'))) 1 (renL (renOf [(0, 0), (1, 1), (2, j)] _ _ n) (lexQ s q'))) j (renL (renOf [(0, 0), (1, 1), (2, j)] _ _ n) (insC x')) = _
      have hp : renOf [(0, 0), (1, 1), (2, j)] [(0, parC q), (1, lexQ s q), (2, insC ⟨0, rg, 0, ⟨0, 0⟩, 0, ⟨0, 0⟩, 0⟩)] [(0, parC q'), (1, lexQ s q'), (2, insC x')] n 1 = some 1 := rfl
      rw [parC_ren _ hp, lexQ_ren, insC_ren]
    rw [e1]
    exact hk x' q' hq
set_option maxHeartbeats 32000000 in
theorem pins_calls {s : List UInt8} (hs : s.length ≤ 140737488351232) {σ : PR Nat} {q : PSt} (h : PS s σ q) :
    ACalls Tryz.prog 90 [.ptr 0 0] [(0, parC q), (1, lexQ s q)] fun r m' => ∃ q', m' = [(0, parC q'), (1, lexQ s q')] ∧ ∃ x : Ins, r = .agg (insC x) ∧ PQ s (thn σ (tIns.run s)) x q' := by
  have hld : ldk Tryz.prog 55 = some (some 9) := by kernel_rfl
  refine acalls_of Tryz.func90 ac90_ok Tryz.ntmps90 Tryz.results90 rfl ?_
  unfold ac90
  refine bwp_seq fun K hK => bwp_region rfl ?_
  simp only [go_sem, ↓reduceIte]
  refine hK _ ?_; clear hK
  refine bwp_seq fun K hK => bwp_region rfl ?_
  simp only [go_sem, ↓reduceIte]
  refine hK _ ?_; clear hK
  refine bwp_seq fun K0 hK0 => ?_
  refine bwp_block ?_
  have fin : ∀ (t : Fr) (n : Nat) (q' : PSt) (x' : Ins), fget t 2 = .ptr 2 0 → fget t 3 = .ptr 3 0 → PQ s (thn σ (tIns.run s)) x' q' → 2 ≤ n → K0 ⟨t, [(0, parC q'), (1, lexQ s q'), (2, [.d (.int .i64 0), .d (.int .i64 0), .d (.int .i64 0), .d (.int .i64 0), .d (.int .i64 0), .d (.int .i64 0), .d (.int .i64 0), .d (.int .i64 0), .d (.int .i64 0)]), (3, insC x')], n⟩ := by
    intro t n q' x' h2 h3 hq hn
    refine hK0 _ ?_; clear hK0
    refine bwp_seq fun K hK => bwp_region (decide_eq_true hn) ?_
    simp only [go_sem, ↓reduceIte, h2, h3, insC, Ins.cells]
    refine hK _ ?_; clear hK
    refine bwp_ret ?_
    simp only [go_sem]
    refine aend_mem (.agg (insC x')) [(0, 0), (1, 1)] [(0, parC q'), (1, lexQ s q')] ?_ rfl rfl ?_ ⟨q', rfl, x', rfl, hq⟩
    · simp [resA, resVs, resV, fget, mget, mset, loadA, hld, h2, insC, Ins.cells]
    · simp [entM, pinv, mget, mset, renL, AV.ren, parC, lexQ, lexC, pget]
  refine bwp_seq fun K hK => bwp_region rfl ?_
  simp only [go_sem, ↓reduceIte]
  refine ptake_callK hs h wStore rfl rfl ?_
  intro q1 hy hn
  cases hb1 : tkB q wStore with
  | true =>
    have h1 := hy hb1
    simp only [go_sem, ↓reduceIte, mset]
    refine hK _ ?_; clear hK
    refine bwp_cond true (by simp [ev, fget]) (fun _ => ?_) (fun h => nomatch h)
    refine bwp_seq fun K hK => bwp_region rfl ?_
    simp only [go_sem, ↓reduceIte]
    refine ploc_callK hs h1 rfl rfl ?_
    intro l q2 h2
    simp only [go_sem, ↓reduceIte, mset]
    refine hK _ ?_; clear hK
    refine bwp_region rfl ?_
    simp only [go_sem, ↓reduceIte]
    refine popd_callK hs h2.ps rfl rfl ?_
    intro x q3 h3
    simp only [go_sem, ↓reduceIte, mset]
    refine fin _ _ q3 ⟨1, 0, l, x, 0, ⟨0, 0⟩, 0⟩ rfl rfl ?_ (by omega)
    exact PQ.take_yes h hb1 (PQ.bind h2 (PQ.bind h3 (PQ.ret h3.ps)))
  | false =>
    have h1 := hn hb1
    subst h1
    simp only [go_sem, ↓reduceIte, mset]
    refine hK _ ?_; clear hK
    refine bwp_cond false (by simp [ev, fget]) (fun h => nomatch h) (fun _ => ?_)
    refine bwp_seq fun K hK => bwp_region rfl ?_
    simp only [go_sem, ↓reduceIte]
    refine ptake_callK hs h wFence rfl rfl ?_
    intro q2 hy hn
    cases hb2 : tkB q1 wFence with
    | true =>
      have h2 := hy hb2
      simp only [go_sem, ↓reduceIte, mset]
      refine hK _ ?_; clear hK
      refine bwp_cond true (by simp [ev, fget]) (fun _ => ?_) (fun h => nomatch h)
      refine bwp_region rfl ?_
      simp only [go_sem, ↓reduceIte]
      refine fin _ _ q2 ⟨3, 0, 0, ⟨0, 0⟩, 0, ⟨0, 0⟩, 0⟩ rfl rfl ?_ (by omega)
      exact PQ.take_no h hb1 (PQ.take_yes h hb2 (PQ.ret h2))
    | false =>
      have h2 := hn hb2
      subst h2
      simp only [go_sem, ↓reduceIte, mset]
      refine hK _ ?_; clear hK
      refine bwp_cond false (by simp [ev, fget]) (fun h => nomatch h) (fun _ => ?_)
      refine bwp_seq fun K hK => bwp_region rfl ?_
      simp only [go_sem, ↓reduceIte]
      refine ptake_callK hs h wSkip rfl rfl ?_
      intro q3 hy hn
      cases hb3 : tkB q2 wSkip with
      | false =>
        have h3 := hn hb3
        subst h3
        simp only [go_sem, ↓reduceIte, mset]
        refine hK _ ?_; clear hK
        refine bwp_cond false (by simp [ev, fget]) (fun h => nomatch h) (fun _ => ?_)
        refine bwp_seq fun K hK => bwp_region rfl ?_
        simp only [go_sem, ↓reduceIte]
        refine preg_callK hs h rfl rfl ?_
        intro rg q4 h4
        simp only [go_sem, ↓reduceIte, mset]
        refine hK _ ?_; clear hK
        refine bwp_seq fun K hK => bwp_region rfl ?_
        simp only [go_sem, ↓reduceIte]
        refine pmust_callK hs h4.ps [61] rfl rfl ?_
        intro q5 h5
        simp only [go_sem, ↓reduceIte, mset]
        refine hK _ ?_; clear hK
        refine bwp_region rfl ?_
        simp only [go_sem, ↓reduceIte]
        refine pright_callK hs h5.ps rg (j := 3) (by decide) rfl rfl rfl ?_
        intro x q6 h6
        simp only [go_sem, ↓reduceIte, mset]
        refine fin _ _ q6 x rfl rfl ?_ (by omega)
        exact PQ.take_no h hb1 (PQ.take_no h hb2 (PQ.take_no h hb3 (PQ.bind h4 (PQ.bind h5 h6))))
      | true =>
        have h3 := hy hb3
        have kp := parse_pure (s := q3.tok.tx) (by have := h3.pos.2; omega)
        simp only [go_sem, ↓reduceIte, mset]
        refine hK _ ?_; clear hK
        refine bwp_cond true (by simp [ev, fget]) (fun _ => ?_) (fun h => nomatch h)
        refine bwp_seq fun K hK => bwp_region rfl ?_
        simp only [go_sem, ↓reduceIte]
        refine hK _ ?_; clear hK
        refine bwp_seq fun K1 hK1 => ?_
        refine bwp_seq fun K hK => bwp_region rfl ?_
        simp only [go_sem, ↓reduceIte, parC]
        repeat' (first
          | (refine gateK_split (fun hb => ?_) (fun hb => ?_) <;> simp only [go_sem, ↓reduceIte, hb])
          | (refine dGateK_split (fun hb => ?_) (fun hb => ?_) <;> simp only [go_sem, ↓reduceIte, hb])
          | (refine callK_pure (kp) rfl rfl ?_; simp only [go_sem, ↓reduceIte])
          | (refine dCallK_pure (kp) rfl rfl ?_; simp only [go_sem, ↓reduceIte])
          | (rw [if_pos (by (try simp only [List.length_append, List.length_cons, List.length_nil, List.length_map]); omega)]; simp only [go_sem, ↓reduceIte]))
        refine hK _ ?_; clear hK
        generalize hpn : (parseW q3.tok.tx).1 = pn
        generalize (parseW q3.tok.tx).2 = pb
        have rest : ∀ (t : Fr) (n : Nat) (q4 : PSt) (σ' : PR Nat), PS s σ' q4 → fget t 0 = .ptr 0 0 → fget t 2 = .ptr 2 0 → fget t 3 = .ptr 3 0 → 2 ≤ n →
            (∀ x' q', PQ s (thn σ' ((tNum.bind fun n => (tMust wIf).bind fun _ => tOpd.bind fun x => (tMust [61, 61]).bind fun _ => tOpd.bind fun y => PT.ret (⟨6, 0, 0, x, 0, y, n⟩ : Ins)).run s)) x' q' → PQ s (thn σ (tIns.run s)) x' q') →
            K1 ⟨t, [(0, parC q4), (1, lexQ s q4), (2, [.d (.int .i64 0), .d (.int .i64 0), .d (.int .i64 0), .d (.int .i64 0), .d (.int .i64 0), .d (.int .i64 0), .d (.int .i64 0), .d (.int .i64 0), .d (.int .i64 0)]), (3, insC ⟨6, 0, 0, ⟨0, 0⟩, 0, ⟨0, 0⟩, 0⟩)], n⟩ := by
          intro t n q4 σ' h4 g0 g2 g3 hn2 hgoal
          refine hK1 _ ?_; clear hK1
          refine bwp_seq fun K hK => bwp_region (decide_eq_true hn2) ?_
          simp only [go_sem, ↓reduceIte, g0, g3, insC, Ins.cells]
          refine pnum_callK hs h4 rfl rfl ?_
          intro N q5 h5
          simp only [go_sem, ↓reduceIte, mset, g0, g3]
          refine hK _ ?_; clear hK
          refine bwp_seq fun K hK => bwp_region (decide_eq_true (Nat.le_add_left 2 _)) ?_
          simp only [go_sem, ↓reduceIte, g0, g3]
          refine pmust_callK hs h5.ps wIf rfl rfl ?_
          intro q6 h6
          simp only [go_sem, ↓reduceIte, mset, g0, g3]
          refine hK _ ?_; clear hK
          refine bwp_seq fun K hK => bwp_region (decide_eq_true (Nat.le_add_left 2 _)) ?_
          simp only [go_sem, ↓reduceIte, g0, g3]
          refine popd_callK hs h6.ps rfl rfl ?_
          intro x q7 h7
          simp only [go_sem, ↓reduceIte, mset, g0, g3]
          refine hK _ ?_; clear hK
          refine bwp_seq fun K hK => bwp_region (decide_eq_true (Nat.le_add_left 2 _)) ?_
          simp only [go_sem, ↓reduceIte, g0, g3]
          refine pmust_callK hs h7.ps [61, 61] rfl rfl ?_
          intro q8 h8
          simp only [go_sem, ↓reduceIte, mset, g0, g3]
          refine hK _ ?_; clear hK
          refine bwp_region (decide_eq_true (Nat.le_add_left 2 _)) ?_
          simp only [go_sem, ↓reduceIte, g0, g3]
          refine popd_callK hs h8.ps rfl rfl ?_
          intro y q9 h9
          simp only [go_sem, ↓reduceIte, mset, g0, g3]
          refine fin _ _ q9 ⟨6, 0, 0, x, 0, y, N⟩ (by simp [fget, g2]) (by simp [fget, g3]) ?_ (by omega)
          refine hgoal _ _ ?_
          exact PQ.bind h5 (PQ.bind h6 (PQ.bind h7 (PQ.bind h8 (PQ.bind h9 (PQ.ret h9.ps)))))
        have up : ∀ {x' : Ins} {q' : PSt}, PQ s (thn (thn σ (eatW s)) ((PT.cur fun d y => if d = 2 ∧ (parseW y).1 < 0 then .bad 6 else
            tNum.bind fun n => (tMust wIf).bind fun _ => tOpd.bind fun x => (tMust [61, 61]).bind fun _ => tOpd.bind fun y => PT.ret (⟨6, 0, 0, x, 0, y, n⟩ : Ins)).run s)) x' q' → PQ s (thn σ (tIns.run s)) x' q' :=
          fun hq => PQ.take_no h hb1 (PQ.take_no h hb2 (PQ.take_yes h hb3 hq))
        by_cases hk : q3.tok.kd = 2
        · by_cases hneg : pn < 0
          · refine bwp_seq fun K hK => bwp_region rfl ?_
            simp only [go_sem, ↓reduceIte, parC, eq_true hk, eq_true hneg, decide_true]
            refine hK _ ?_; clear hK
            refine bwp_cond true (by simp [ev, fget]) (fun _ => ?_) (fun h => nomatch h)
            refine bwp_region rfl ?_
            simp only [go_sem, ↓reduceIte]
            refine pfail_callK s q3 6 rfl rfl ?_
            simp only [go_sem, ↓reduceIte, mset]
            refine rest _ _ (failF q3 6) _ (h3.fail (by decide) (α := Ins)) rfl rfl rfl (by omega) ?_
            intro x' q' hq
            refine up (PQ.cur h3 ?_)
            rw [if_pos ⟨hk, by rw [hpn]; exact hneg⟩]
            exact PQ.past_bad hq
          · refine bwp_seq fun K hK => bwp_region rfl ?_
            simp only [go_sem, ↓reduceIte, parC, eq_true hk, eq_false hneg, decide_true]
            refine hK _ ?_; clear hK
            refine bwp_cond false (by simp [ev, fget]) (fun h => nomatch h) (fun _ => ?_)
            refine bwp_skip ?_
            refine rest _ _ q3 _ h3 rfl rfl rfl (by omega) ?_
            intro x' q' hq
            refine up (PQ.cur h3 ?_)
            rw [if_neg (fun hh => hneg (by rw [← hpn]; exact hh.2))]
            exact hq
        · refine bwp_seq fun K hK => bwp_region rfl ?_
          simp only [go_sem, ↓reduceIte, parC, eq_false hk, decide_false]
          refine hK _ ?_; clear hK
          refine bwp_cond false (by simp [ev, fget]) (fun h => nomatch h) (fun _ => ?_)
          refine bwp_skip ?_
          refine rest _ _ q3 _ h3 rfl rfl rfl (by omega) ?_
          intro x' q' hq
          refine up (PQ.cur h3 ?_)
          rw [if_neg (fun hh => hk hh.1)]
          exact hq
theorem pins_callK {s : List UInt8} (hs : s.length ≤ 140737488351232) {σ : PR Nat} {q : PSt} (h : PS s σ q) {dst : Option Nat} {ops : List AOper} {K : St → Prop} {t : Fr} {m : Mem} {n : Nat} (hm0 : mget m 0 = some (parC q)) (hm1 : mget m 1 = some (lexQ s q))
    (hk : ∀ (x : Ins) q', PQ s (thn σ (tIns.run s)) x q' → runOps Tryz.prog ops ⟨putF t dst (.agg (insC x)), mset (mset m 0 (parC q')) 1 (lexQ s q'), n + 2⟩ K) : callK Tryz.prog 90 [.ptr 0 0] dst ops K t m n := by
  refine par_callK (rest := []) (Q := fun r q' => ∃ x : Ins, r = .agg (insC x) ∧ PQ s (thn σ (tIns.run s)) x q') (pins_calls hs h) rfl ?_ hm0 hm1 ?_
  · rintro _ _ ⟨x, rfl, _⟩; exact insC_in _ x
  · rintro _ q' ⟨x, rfl, h⟩; exact hk x q' h
end Go.Proofs.YtpfbljkfbjjlkaaGreatDoor

/- The parser's atoms, what locations begin with, threads. -/
namespace Go.Proofs.YtpfbljkfbjjlkaaGreatDoor
open Go Go.Jq
set_option maxRecDepth 100000
set_option linter.unusedSimpArgs false
theorem PQ.bind_stop {α β : Type} {s : List UInt8} {σ : PR Nat} {t : PT α} {f : α → PT β} {y : β} {q' : PSt} (h : PS s (posR (thn σ (t.run s))) q') (he : q'.code ≠ 0) : PQ s (thn σ ((t.bind f).run s)) y q' := by
  cases σ with
  | error e => exact h
  | ok a =>
    simp only [thn] at h ⊢
    rw [PT.run_bind]
    cases ht : t.run s a with
    | error e => rw [ht] at h; exact h
    | ok p =>
      rw [ht] at h
      exact absurd h.code he
def atC (x : Atom) : List AV := x.cells.map .d
theorem atC_in (π : Nat → Option Nat) (x : Atom) : inL π (atC x) = true := rfl
set_option maxHeartbeats 32000000 in
theorem patom_calls {s : List UInt8} (hs : s.length ≤ 140737488351232) {σ : PR Nat} {q : PSt} (h : PS s σ q) :
    ACalls Tryz.prog 91 [.ptr 0 0] [(0, parC q), (1, lexQ s q)] fun r m' => ∃ q', m' = [(0, parC q'), (1, lexQ s q')] ∧ ∃ x : Atom, r = .agg (atC x) ∧ PQ s (thn σ (tAtom.run s)) x q' := by
  have hld : ldk Tryz.prog 60 = some (some 4) := by kernel_rfl
  have kp := parse_pure (s := q.tok.tx) (by have := h.pos.2; omega)
  refine acalls_of Tryz.func91 ac91_ok Tryz.ntmps91 Tryz.results91 rfl ?_
  unfold ac91
  refine bwp_seq fun K hK => bwp_region rfl ?_
  simp only [go_sem, ↓reduceIte]
  refine hK _ ?_; clear hK
  refine bwp_seq fun K hK => bwp_region rfl ?_
  simp only [go_sem, ↓reduceIte]
  refine hK _ ?_; clear hK
  refine bwp_seq fun K0 hK0 => ?_
  have fin : ∀ (t : Fr) (n : Nat) (q1 : PSt) (x1 : Atom), fget t 0 = .ptr 0 0 → fget t 2 = .ptr 2 0 → fget t 3 = .ptr 3 0 → PQ s (thn σ (tWho.run s)) x1 q1 → 2 ≤ n → K0 ⟨t, [(0, parC q1), (1, lexQ s q1), (2, [.d (.int .i64 0), .d (.int .i64 0), .d (.int .i64 0), .d (.int .i64 0)]), (3, atC x1)], n⟩ := by
    intro t n q1 x1 g0 g2 g3 hq hn
    refine hK0 _ ?_; clear hK0
    refine bwp_seq fun K hK => bwp_region (decide_eq_true hn) ?_
    simp only [go_sem, ↓reduceIte, g0, g2, g3, atC, Atom.cells]
    refine pmust_callK hs hq.ps [61] rfl rfl ?_
    intro q2 h2
    simp only [go_sem, ↓reduceIte, mset, g0, g2, g3]
    refine hK _ ?_; clear hK
    refine bwp_seq fun K hK => bwp_region (decide_eq_true (Nat.le_add_left 2 _)) ?_
    simp only [go_sem, ↓reduceIte, g0, g2, g3]
    refine pnum_callK hs h2.ps rfl rfl ?_
    intro N q3 h3
    simp only [go_sem, ↓reduceIte, mset, g0, g2, g3]
    refine hK _ ?_; clear hK
    refine bwp_seq fun K hK => bwp_region (decide_eq_true (Nat.le_add_left 2 _)) ?_
    simp only [go_sem, ↓reduceIte, g0, g2, g3]
    refine hK _ ?_; clear hK
    refine bwp_ret ?_
    simp only [go_sem]
    refine aend_mem (.agg (atC { x1 with value := N })) [(0, 0), (1, 1)] [(0, parC q3), (1, lexQ s q3)] ?_ rfl rfl ?_ ⟨q3, rfl, { x1 with value := N }, rfl, ?_⟩
    · simp [resA, resVs, resV, fget, mget, mset, loadA, hld, g2, atC, Atom.cells]
    · simp [entM, pinv, mget, mset, renL, AV.ren, parC, lexQ, lexC, pget]
    · exact PQ.bind hq (PQ.bind h2 (PQ.bind h3 (PQ.ret h3.ps)))
  refine bwp_seq fun K hK => bwp_region rfl ?_
  simp only [go_sem, ↓reduceIte]
  refine pok_callK s q rfl rfl ?_
  by_cases hc : q.code = 0
  · by_cases h2 : q.tok.kd = 2
    · simp only [go_sem, ↓reduceIte, mset, eq_true hc, eq_true h2, parC, decide_true]
      refine hK _ ?_; clear hK
      refine bwp_cond true (by simp [ev, fget]) (fun _ => ?_) (fun h => nomatch h)
      refine bwp_seq fun K hK => bwp_region rfl ?_
      simp only [go_sem, ↓reduceIte]
      repeat' (first
        | (refine gateK_split (fun hb => ?_) (fun hb => ?_) <;> simp only [go_sem, ↓reduceIte, hb])
        | (refine dGateK_split (fun hb => ?_) (fun hb => ?_) <;> simp only [go_sem, ↓reduceIte, hb])
        | (refine callK_pure (kp) rfl rfl ?_; simp only [go_sem, ↓reduceIte])
        | (refine dCallK_pure (kp) rfl rfl ?_; simp only [go_sem, ↓reduceIte])
        | (rw [if_pos (by (try simp only [List.length_append, List.length_cons, List.length_nil, List.length_map]); omega)]; simp only [go_sem, ↓reduceIte]))
      refine hK _ ?_; clear hK
      generalize hpn : (parseW q.tok.tx).1 = pn at *
      generalize (parseW q.tok.tx).2 = pb at *
      by_cases hbad : pn < 0 ∨ 9 < pn
      · have hstop : PQ s (thn σ (tWho.run s)) ⟨0, 0, 0, 0⟩ (failF q 7) := by
          refine PQ.cur h ?_
          rw [if_pos h2, hpn, if_pos hbad]
          exact PQ.bad h (by decide) _
        by_cases n1 : pn < 0
        · refine bwp_seq fun K1 hK1 => ?_
          refine bwp_seq fun K hK => bwp_region rfl ?_
          simp only [go_sem, ↓reduceIte, eq_true n1, decide_true, decide_false]
          refine hK _ ?_; clear hK
          refine bwp_cond true (by simp [ev, fget]) (fun _ => ?_) (fun h => nomatch h)
          refine bwp_seq fun K hK => bwp_region rfl ?_
          simp only [go_sem, ↓reduceIte]
          refine pfail_callK s q 7 rfl rfl ?_
          simp only [go_sem, ↓reduceIte, mset]
          refine hK _ ?_; clear hK
          refine bwp_seq fun K hK => bwp_region rfl ?_
          simp only [go_sem, ↓reduceIte]
          refine hK _ ?_; clear hK
          refine bwp_ret ?_
          simp only [go_sem]
          refine aend_mem (.agg (atC ⟨0, 0, 0, 0⟩)) [(0, 0), (1, 1)] [(0, parC (failF q 7)), (1, lexQ s (failF q 7))] ?_ rfl rfl ?_ ⟨_, rfl, ⟨0, 0, 0, 0⟩, rfl, ?_⟩
          · simp [resA, resVs, resV, fget, mget, mset, loadA, hld, atC, Atom.cells]
          · simp [entM, pinv, mget, mset, renL, AV.ren, parC, lexQ, lexC, pget]
          · exact PQ.bind_stop hstop.ps (failF_code (by decide))
        · have n2 : 9 < pn := by omega
          refine bwp_seq fun K1 hK1 => ?_
          refine bwp_seq fun K hK => bwp_region rfl ?_
          simp only [go_sem, ↓reduceIte, eq_false n1, eq_true n2, decide_true, decide_false]
          refine hK _ ?_; clear hK
          refine bwp_cond true (by simp [ev, fget]) (fun _ => ?_) (fun h => nomatch h)
          refine bwp_seq fun K hK => bwp_region rfl ?_
          simp only [go_sem, ↓reduceIte]
          refine pfail_callK s q 7 rfl rfl ?_
          simp only [go_sem, ↓reduceIte, mset]
          refine hK _ ?_; clear hK
          refine bwp_seq fun K hK => bwp_region rfl ?_
          simp only [go_sem, ↓reduceIte]
          refine hK _ ?_; clear hK
          refine bwp_ret ?_
          simp only [go_sem]
          refine aend_mem (.agg (atC ⟨0, 0, 0, 0⟩)) [(0, 0), (1, 1)] [(0, parC (failF q 7)), (1, lexQ s (failF q 7))] ?_ rfl rfl ?_ ⟨_, rfl, ⟨0, 0, 0, 0⟩, rfl, ?_⟩
          · simp [resA, resVs, resV, fget, mget, mset, loadA, hld, atC, Atom.cells]
          · simp [entM, pinv, mget, mset, renL, AV.ren, parC, lexQ, lexC, pget]
          · exact PQ.bind_stop hstop.ps (failF_code (by decide))
      · have n1 : ¬ pn < 0 := fun h => hbad (.inl h)
        have n2 : ¬ 9 < pn := fun h => hbad (.inr h)
        refine bwp_seq fun K1 hK1 => ?_
        refine bwp_seq fun K hK => bwp_region rfl ?_
        simp only [go_sem, ↓reduceIte, eq_false n1, eq_false n2, decide_false]
        refine hK _ ?_; clear hK
        refine bwp_cond false (by simp [ev, fget]) (fun h => nomatch h) (fun _ => ?_)
        refine bwp_skip ?_
        refine hK1 _ ?_; clear hK1
        refine bwp_seq fun K hK => bwp_region rfl ?_
        simp only [go_sem, ↓reduceIte]
        refine hK _ ?_; clear hK
        refine bwp_seq fun K hK => bwp_region rfl ?_
        simp only [go_sem, ↓reduceIte]
        refine pnext_callK (q := q) hs h rfl rfl ?_
        intro q2 hq2
        simp only [go_sem, ↓reduceIte, mset]
        refine hK _ ?_; clear hK
        refine bwp_seq fun K hK => bwp_region rfl ?_
        simp only [go_sem, ↓reduceIte]
        refine pmust_callK hs hq2 [58] rfl rfl ?_
        intro q3 h3
        simp only [go_sem, ↓reduceIte, mset]
        refine hK _ ?_; clear hK
        refine bwp_region rfl ?_
        simp only [go_sem, ↓reduceIte]
        refine preg_callK hs h3.ps rfl rfl ?_
        intro rg q4 h4
        simp only [go_sem, ↓reduceIte, mset]
        refine fin _ _ q4 ⟨pn, rg, 0, 0⟩ rfl rfl rfl ?_ (by omega)
        refine PQ.cur h ?_
        rw [if_pos h2, hpn, if_neg hbad]
        exact PQ.eat (PQ.bind h3 (PQ.bind h4 (PQ.ret h4.ps)))
    · simp only [go_sem, ↓reduceIte, mset, eq_true hc, eq_false h2, parC, decide_true]
      refine hK _ ?_; clear hK
      refine bwp_cond false (by simp [ev, fget]) (fun h => nomatch h) (fun _ => ?_)
      refine bwp_region rfl ?_
      simp only [go_sem, ↓reduceIte]
      refine ploc_callK (q := q) hs h rfl rfl ?_
      intro l q2 hq2
      simp only [go_sem, ↓reduceIte, mset]
      refine fin _ _ q2 ⟨-1, 0, l, 0⟩ rfl rfl rfl ?_ (by omega)
      refine PQ.cur h ?_
      rw [if_neg h2]
      exact PQ.bind hq2 (PQ.ret hq2.ps)
  · simp only [go_sem, ↓reduceIte, mset, eq_false hc, parC, decide_false]
    refine hK _ ?_; clear hK
    refine bwp_cond false (by simp [ev, fget]) (fun h => nomatch h) (fun _ => ?_)
    refine bwp_region rfl ?_
    simp only [go_sem, ↓reduceIte]
    refine ploc_callK (q := q) hs h rfl rfl ?_
    intro l q2 hq2
    simp only [go_sem, ↓reduceIte, mset]
    refine fin _ _ q2 ⟨-1, 0, l, 0⟩ rfl rfl rfl ?_ (by omega)
    cases σ with
    | ok a => exact absurd h.code hc
    | error e => exact hq2
theorem patom_callK {s : List UInt8} (hs : s.length ≤ 140737488351232) {σ : PR Nat} {q : PSt} (h : PS s σ q) {dst : Option Nat} {ops : List AOper} {K : St → Prop} {t : Fr} {m : Mem} {n : Nat} (hm0 : mget m 0 = some (parC q)) (hm1 : mget m 1 = some (lexQ s q))
    (hk : ∀ (x : Atom) q', PQ s (thn σ (tAtom.run s)) x q' → runOps Tryz.prog ops ⟨putF t dst (.agg (atC x)), mset (mset m 0 (parC q')) 1 (lexQ s q'), n + 2⟩ K) : callK Tryz.prog 91 [.ptr 0 0] dst ops K t m n := by
  refine par_callK (rest := []) (Q := fun r q' => ∃ x : Atom, r = .agg (atC x) ∧ PQ s (thn σ (tAtom.run s)) x q') (patom_calls hs h) rfl ?_ hm0 hm1 ?_
  · rintro _ _ ⟨x, rfl, _⟩; exact atC_in _ x
  · rintro _ q' ⟨x, rfl, h⟩; exact hk x q' h
end Go.Proofs.YtpfbljkfbjjlkaaGreatDoor

/- The parser's loops: threads' instructions, what locations begin with. -/
namespace Go.Proofs.YtpfbljkfbjjlkaaGreatDoor
open Go Go.Jq
set_option maxRecDepth 100000
set_option linter.unusedSimpArgs false
def PT.Prog {α : Type} (t : PT α) : Prop := ∀ (s : List UInt8) (a : Nat) (x : α) (b : Nat), a ≤ s.length → (nextW s a).2.2 = 0 → t.run s a = .ok (x, b) → a < b
theorem eat_prog {α : Type} {s : List UInt8} {k : PT α} {a b : Nat} {x : α} (ha : a ≤ s.length) (h0 : (nextW s a).2.2 = 0) (h4 : (curT s a).kd ≠ 4) (h : (PT.eat k).run s a = .ok (x, b)) : a < b := by
  simp only [PT.run] at h
  split at h
  · rename_i e he
    obtain ⟨rfl, _⟩ := eatW_ok he
    have h1 := nextW_to ha
    have h2 := h1.2.2 h0 h4
    have h3 := k.run_le h1.2.1 h
    omega
  · cases h
theorem prog_bind {α β : Type} {t : PT α} {f : α → PT β} (h : t.Prog) : (t.bind f).Prog := by
  intro s a y b ha h0 hr
  rw [PT.run_bind] at hr
  cases ht : t.run s a with
  | error e => rw [ht] at hr; cases hr
  | ok p =>
    obtain ⟨x, c⟩ := p
    rw [ht] at hr
    have h1 := h s a x c ha h0 ht
    have h2 := t.run_le ha ht
    have h3 := (f x).run_le h2.2 hr
    omega
theorem isK_kd {d : Int} {y x : List UInt8} (h : isK d y x = true) : d ≠ 4 := by
  rintro rfl
  simp [isK] at h
theorem prog_take {α : Type} {x : List UInt8} {yes no : PT α} (h : no.Prog) : (tTake x yes no).Prog := by
  intro s a y b ha h0 hr
  unfold tTake at hr
  simp only [PT.run] at hr
  by_cases hk : isK (curT s a).kd (curT s a).tx x = true
  · rw [if_pos hk] at hr
    exact eat_prog ha h0 (isK_kd hk) hr
  · rw [if_neg hk] at hr
    exact h s a y b ha h0 hr
theorem prog_named (f : List UInt8 → Option Int) : (tNamed f).Prog := by
  intro s a y b ha h0 hr
  unfold tNamed at hr
  simp only [PT.run] at hr
  by_cases hk : (curT s a).kd = 1
  · rw [if_pos hk] at hr
    cases hf : f (curT s a).tx with
    | none => rw [hf] at hr; cases hr
    | some n => rw [hf] at hr; exact eat_prog ha h0 (by rw [hk]; decide) hr
  · rw [if_neg hk] at hr
    cases hr
theorem prog_init : tInit.Prog := prog_bind (prog_named _)
theorem prog_insE : tInsE.Prog := prog_bind (prog_take (prog_take (prog_take (prog_bind (prog_named _)))))
theorem prog_atom : tAtom.Prog := by
  refine prog_bind ?_
  intro s a y b ha h0 hr
  unfold tWho at hr
  simp only [PT.run] at hr
  by_cases hk : (curT s a).kd = 2
  · rw [if_pos hk] at hr
    split at hr
    · cases hr
    · exact eat_prog ha h0 (by rw [hk]; decide) hr
  · rw [if_neg hk] at hr
    exact prog_bind (prog_named _) s a y b ha h0 hr
def slD {α : Type} (enc : α → List DV) (l : List α) : DV := .sl l.length (l.flatMap enc)
structure MI {α : Type} (s : List UInt8) (one : PT α) (σ0 : PR Nat) (f0 : Nat) (acc : List α) (q : PSt) (σ : PR Nat) (f : Nat) : Prop where
  ps : PS s σ q
  to : ∀ l qf, PQ s (thn σ ((tMany one f).run s)) l qf → PQ s (thn σ0 ((tMany one f0).run s)) (acc ++ l) qf
  fuel : ∀ a, σ = .ok a → s.length - a < f
  len : acc.length + f ≤ f0 ∨ (∃ e, σ = .error e) ∧ acc.length ≤ f0
theorem thn_ok {β : Type} {σ : PR Nat} {f : Nat → PR β} {r : β} (h : thn σ f = .ok r) : ∃ a, σ = .ok a ∧ f a = .ok r := by
  cases σ with
  | error e => cases h
  | ok a => exact ⟨a, rfl, h⟩
theorem posR_ok {α : Type} {τ : PR (α × Nat)} {b : Nat} (h : posR τ = .ok b) : ∃ x, τ = .ok (x, b) := by
  cases τ with
  | error e => cases h
  | ok p => exact ⟨p.1, by cases h; rfl⟩
theorem MI.next {α : Type} {s : List UInt8} {one : PT α} (hp : one.Prog) {σ0 : PR Nat} {f0 : Nat} {acc : List α} {q : PSt} {a f : Nat} (h : MI s one σ0 f0 acc q (.ok a) f) (hb : tkB q [125] = false) {x : α} {q' : PSt} (hq : PQ s (one.run s a) x q') :
    ∃ f', f = f' + 1 ∧ MI s one σ0 f0 (acc ++ [x]) q' (posR (one.run s a)) f' := by
  have hf := h.fuel a rfl
  obtain ⟨f', rfl⟩ : ∃ f', f = f' + 1 := ⟨f - 1, by omega⟩
  refine ⟨f', rfl, ⟨hq.ps, fun l qf hl => ?_, fun b hb' => ?_, ?_⟩⟩
  · have : PQ s (thn (.ok a) ((tMany one (f' + 1)).run s)) (x :: l) qf := by
      refine PQ.take_no h.ps hb ?_
      refine PQ.bind (σ := .ok a) hq (PQ.bind hl ?_)
      exact PQ.ret hl.ps
    have := h.to _ _ this
    simpa using this
  · obtain ⟨y, hy⟩ := posR_ok hb'
    have h1 := hp s a y b h.ps.1 h.ps.2.1 hy
    have h2 := one.run_le h.ps.1 hy
    omega
  · rcases h.len with hl | ⟨⟨e, he⟩, _⟩
    · left
      simp only [List.length_append, List.length_cons, List.length_nil]
      omega
    · cases he
theorem MI.done {α : Type} {s : List UInt8} {one : PT α} {σ0 : PR Nat} {f0 : Nat} {acc : List α} {q : PSt} {a f : Nat} (h : MI s one σ0 f0 acc q (.ok a) f) (hb : tkB q [125] = true) {q' : PSt} (hq : PS s (eatW s a) q') :
    PQ s (thn σ0 ((tMany one f0).run s)) acc q' := by
  have hf := h.fuel a rfl
  obtain ⟨f', rfl⟩ : ∃ f', f = f' + 1 := ⟨f - 1, by omega⟩
  have : PQ s (thn (.ok a) ((tMany one (f' + 1)).run s)) [] q' := PQ.take_yes h.ps hb (PQ.ret hq)
  have := h.to _ _ this
  simpa using this
theorem MI.err {α : Type} {s : List UInt8} {one : PT α} {σ0 : PR Nat} {f0 : Nat} {acc : List α} {q : PSt} {e : PE} {f : Nat} (h : MI s one σ0 f0 acc q (.error e) f) : PQ s (thn σ0 ((tMany one f0).run s)) acc q := by
  have := h.to [] q h.ps
  simpa using this
theorem MI.start {α : Type} {s : List UInt8} {one : PT α} {σ : PR Nat} {q : PSt} (hs : s.length ≤ 4000) (h : PS s σ q) : MI s one σ fuelP [] q σ fuelP :=
  ⟨h, fun l qf hl => hl, fun a _ => by unfold fuelP; omega, .inl (by simp)⟩
theorem MI.short {α : Type} {s : List UInt8} {one : PT α} {σ0 σ : PR Nat} {acc : List α} {q : PSt} {f : Nat} (h : MI s one σ0 fuelP acc q σ f) : acc.length ≤ 4001 := by
  rcases h.len with h | h
  · unfold fuelP at h; omega
  · exact h.2
def thS (s : List UInt8) (acc : List Ins) (q : PSt) : St := ⟨[(3, .sl 2 9 0 acc.length), (0, .ptr 0 0)], [(0, parC q), (1, lexQ s q), (2, (acc.flatMap Ins.cells).map .d)], 3⟩
theorem ins_flat (l : List Ins) : (l.flatMap Ins.cells).length = l.length * 9 := by
  induction l with
  | nil => rfl
  | cons x l ih => simp only [List.flatMap_cons, List.length_append, ins_len, List.length_cons, ih]; omega
set_option maxHeartbeats 16000000 in
theorem pth_loop {s : List UInt8} (hs : s.length ≤ 4000) {σ0 : PR Nat} {q0 : PSt} (h0 : PS s σ0 q0) {Q : Exit → St → Prop}
    (hQ : ∀ acc q', acc.length ≤ 4001 → PQ s (thn σ0 ((tMany tInsE fuelP).run s)) acc q' → Q (.exit 0) (thS s acc q')) :
    BWP Tryz.prog 2 21 (.loop ac34L0) (thS s [] q0) Q := by
  have hs' : s.length ≤ 140737488351232 := by omega
  refine bwp_fam (ι := { p : List Ins × PSt × PR Nat × Nat // MI s tInsE σ0 fuelP p.1 p.2.1 p.2.2.1 p.2.2.2 }) (fun p => thS s p.1.1 p.1.2.1) (fun p => if p.1.2.1.code = 0 then p.1.2.2.2 + 1 else 0) ⟨([], q0, σ0, fuelP), MI.start hs h0⟩ ?_
  rintro ⟨⟨acc, q, σ, f⟩, hI⟩
  simp only at hI ⊢
  unfold ac34L0 thS
  have hshort := hI.short
  have hfl : ((acc.flatMap Ins.cells).map AV.d).length = acc.length * 9 := by rw [List.length_map, ins_flat]
  have hb1 : (acc.length + 1) * 72 ≤ 140737488351232 := by omega
  refine bwp_seq fun K1 hK1 => ?_
  refine bwp_seq fun K hK => bwp_region rfl ?_
  simp only [go_sem, ↓reduceIte]
  refine pok_callK s q rfl rfl ?_
  by_cases hc : q.code = 0
  · obtain ⟨a, rfl⟩ : ∃ a, σ = .ok a := by
      cases σ with
      | ok a => exact ⟨a, rfl⟩
      | error e => exact absurd hc hI.ps.codeE
    simp only [go_sem, ↓reduceIte, mset, eq_true hc, decide_true]
    refine ptake_callK hs' hI.ps [125] rfl rfl ?_
    intro q1 hy hn
    cases hb : tkB q [125] with
    | true =>
      simp only [go_sem, ↓reduceIte, mset]
      refine hK _ ?_; clear hK
      refine bwp_cond false (by simp [ev, fget]) (fun h => nomatch h) (fun _ => ?_)
      refine bwp_leads (S' := thS s acc q1) (Leads.ent [(0, 0), (1, 1), (2, 2)] ⟨by simp [entT, fget, AV.ren, renL, pget, thS, parC, lexQ, lexC], by simp [entM, pinv, mget, mset, renL, AV.ren, pget, renL_append, -List.map_map, thS, parC, lexQ, lexC], rfl, rfl⟩) ?_
      exact bwp_exit (hQ acc q1 hshort (hI.done hb (hy hb)))
    | false =>
      have hq1 := hn hb
      subst hq1
      simp only [go_sem, ↓reduceIte, mset]
      refine hK _ ?_; clear hK
      refine bwp_cond true (by simp [ev, fget]) (fun _ => ?_) (fun h => nomatch h)
      refine bwp_skip ?_
      refine hK1 _ ?_; clear hK1
      refine bwp_block ?_
      refine bwp_seq fun K hK => bwp_region rfl ?_
      simp only [go_sem, ↓reduceIte]
      refine pins_callK (q := q1) hs' hI.ps rfl rfl ?_
      intro x q2 h2
      simp only [go_sem, ↓reduceIte, mset, insC, Ins.cells, hfl, hb1, List.length_append, List.length_map, List.length_cons, List.length_nil]
      refine hK _ ?_; clear hK
      refine bwp_region rfl ?_
      simp only [go_sem, ↓reduceIte]
      refine pmust_callK hs' h2.ps [59] rfl rfl ?_
      intro q3 h3
      simp only [go_sem, ↓reduceIte, mset]
      obtain ⟨f', rfl, hN⟩ := hI.next prog_insE hb (PQ.bind (σ := .ok a) h2 (PQ.bind h3 (PQ.ret h3.ps)))
      refine ⟨⟨(acc ++ [x], q3, _, f'), hN⟩, ?_, ?_⟩
      · simp only [hc, if_true]
        split <;> omega
      · exact Leads.ent [(0, 0), (1, 1), (10, 2)] ⟨by simp [thS, entT, fget, AV.ren, renL, pget], by simp [thS, entM, pinv, mget, mset, renL, AV.ren, pget, renL_append, -List.map_map, parC, lexQ, lexC, Ins.cells], rfl, rfl⟩
  · obtain ⟨e, rfl⟩ : ∃ e, σ = .error e := by
      cases σ with
      | ok a => exact absurd hI.ps.code hc
      | error e => exact ⟨e, rfl⟩
    simp only [go_sem, ↓reduceIte, mset, eq_false hc, decide_false]
    refine hK _ ?_; clear hK
    refine bwp_cond false (by simp [ev, fget]) (fun h => nomatch h) (fun _ => ?_)
    refine bwp_leads (S' := thS s acc q) (Leads.ent [(0, 0), (1, 1), (2, 2)] ⟨by simp [entT, fget, AV.ren, renL, pget, thS, parC, lexQ, lexC], by simp [entM, pinv, mget, mset, renL, AV.ren, pget, renL_append, -List.map_map, thS, parC, lexQ, lexC], rfl, rfl⟩) ?_
    exact bwp_exit (hQ acc q hshort hI.err)
theorem ins_take (l : List Ins) : (l.flatMap Ins.cells).take (l.length * 9) = l.flatMap Ins.cells := List.take_of_length_le (by rw [ins_flat]; exact Nat.le_refl _)
set_option maxHeartbeats 16000000 in
theorem pthread_calls {s : List UInt8} (hs : s.length ≤ 4000) {σ : PR Nat} {q : PSt} (h : PS s σ q) :
    ACalls Tryz.prog 34 [.ptr 0 0] [(0, parC q), (1, lexQ s q)] fun r m' => ∃ q', m' = [(0, parC q'), (1, lexQ s q')] ∧ ∃ l : List Ins, l.length ≤ 4001 ∧ r = .d (slD Ins.cells l) ∧ PQ s (thn σ (tThread.run s)) l q' := by
  have hs' : s.length ≤ 140737488351232 := by omega
  refine acalls_of Tryz.func34 ac34_ok Tryz.ntmps34 Tryz.results34 rfl ?_
  unfold ac34
  refine bwp_seq fun K hK => bwp_region rfl ?_
  simp only [go_sem, ↓reduceIte]
  refine hK _ ?_; clear hK
  refine bwp_seq fun K hK => bwp_region rfl ?_
  simp only [go_sem, ↓reduceIte]
  refine hK _ ?_; clear hK
  refine bwp_seq fun K hK => bwp_region rfl ?_
  simp only [go_sem, ↓reduceIte]
  refine pmust_callK hs' h [123] rfl rfl ?_
  intro q1 h1
  simp only [go_sem, ↓reduceIte, mset]
  refine hK _ ?_; clear hK
  refine bwp_seq fun K1 hK1 => ?_
  refine bwp_block ?_
  refine bwp_leads (S' := ⟨[(3, .d .nsl), (0, .ptr 0 0)], [(0, parC q1), (1, lexQ s q1)], 2⟩) (Leads.ent [(0, 0), (1, 1)] ⟨by simp [entT, fget, AV.ren, renL, pget, parC, lexQ, lexC], by simp [entM, pinv, mget, mset, renL, AV.ren, pget, renL_append, -List.map_map, parC, lexQ, lexC], rfl, rfl⟩) ?_
  refine bwp_leads (Leads.nil 3 9 rfl rfl) ?_
  refine bwp_leads (S' := thS s [] q1) (Leads.ent [(0, 0), (1, 1), (2, 2)] ⟨by simp [entT, fget, AV.ren, renL, pget, thS, parC, lexQ, lexC], by simp [entM, pinv, mget, mset, renL, AV.ren, pget, renL_append, -List.map_map, thS, parC, lexQ, lexC], rfl, rfl⟩) ?_
  refine pth_loop hs h1.ps ?_
  intro acc q2 hlen h2
  unfold thS
  simp only [go_sem, ↓reduceIte]
  refine hK1 _ ?_; clear hK1
  refine bwp_seq fun K hK => bwp_region rfl ?_
  simp only [go_sem, ↓reduceIte]
  refine hK _ ?_; clear hK
  have htk := ins_take acc
  generalize hds : acc.flatMap Ins.cells = ds at htk
  refine bwp_leads (Leads.frz (S' := ⟨[(2, .d (.sl acc.length ds)), (0, .ptr 0 0)], [(0, parC q2), (1, lexQ s q2)], 2⟩) [(0, 0), (1, 1)] [(2, ds)] ⟨?_, ?_, rfl, rfl, ?_⟩) ?_
  · simp [frzT, fget, AV.cv, cvL, zget, pget, htk]
  · simp [frzM, pinv, zget, mget, cvL, AV.cv, parC, lexQ, lexC, pget]
  · simp [zokFrom, mget, cvL_d]
  refine bwp_ret ?_
  simp only [go_sem]
  refine aend_mem (.d (slD Ins.cells acc)) [(0, 0), (1, 1)] [(0, parC q2), (1, lexQ s q2)] ?_ rfl rfl ?_ ⟨q2, rfl, acc, hlen, rfl, PQ.bind h1 h2⟩
  · simp [resA, resVs, resV, fget, slD, hds]
  · simp [entM, pinv, mget, mset, renL, AV.ren, parC, lexQ, lexC, pget]
def inS (s : List UInt8) (acc : List Init) (q : PSt) : St := ⟨[(3, .sl 2 2 0 acc.length), (0, .ptr 0 0)], [(0, parC q), (1, lexQ s q), (2, (acc.flatMap Init.cells).map .d)], 3⟩
theorem init_flat (l : List Init) : (l.flatMap Init.cells).length = l.length * 2 := by
  induction l with
  | nil => rfl
  | cons x l ih => simp only [List.flatMap_cons, List.length_append, init_len, List.length_cons, ih]; omega
theorem init_take (l : List Init) : (l.flatMap Init.cells).take (l.length * 2) = l.flatMap Init.cells := List.take_of_length_le (by rw [init_flat]; exact Nat.le_refl _)
set_option maxHeartbeats 16000000 in
theorem pin_loop {s : List UInt8} (hs : s.length ≤ 4000) {σ0 : PR Nat} {q0 : PSt} (h0 : PS s σ0 q0) {Q : Exit → St → Prop}
    (hQ : ∀ acc q', acc.length ≤ 4001 → PQ s (thn σ0 ((tMany tInit fuelP).run s)) acc q' → Q (.exit 0) (inS s acc q')) :
    BWP Tryz.prog 2 29 (.loop ac33L0) (inS s [] q0) Q := by
  have hs' : s.length ≤ 140737488351232 := by omega
  refine bwp_fam (ι := { p : List Init × PSt × PR Nat × Nat // MI s tInit σ0 fuelP p.1 p.2.1 p.2.2.1 p.2.2.2 }) (fun p => inS s p.1.1 p.1.2.1) (fun p => if p.1.2.1.code = 0 then p.1.2.2.2 + 1 else 0) ⟨([], q0, σ0, fuelP), MI.start hs h0⟩ ?_
  rintro ⟨⟨acc, q, σ, f⟩, hI⟩
  simp only at hI ⊢
  unfold ac33L0 inS
  have hshort := hI.short
  have hfl : ((acc.flatMap Init.cells).map AV.d).length = acc.length * 2 := by rw [List.length_map, init_flat]
  have hb1 : (acc.length + 1) * 16 ≤ 140737488351232 := by omega
  refine bwp_seq fun K1 hK1 => ?_
  refine bwp_seq fun K hK => bwp_region rfl ?_
  simp only [go_sem, ↓reduceIte]
  refine pok_callK s q rfl rfl ?_
  by_cases hc : q.code = 0
  · obtain ⟨a, rfl⟩ : ∃ a, σ = .ok a := by
      cases σ with
      | ok a => exact ⟨a, rfl⟩
      | error e => exact absurd hc hI.ps.codeE
    simp only [go_sem, ↓reduceIte, mset, eq_true hc, decide_true]
    refine ptake_callK hs' hI.ps [125] rfl rfl ?_
    intro q1 hy hn
    cases hb : tkB q [125] with
    | true =>
      simp only [go_sem, ↓reduceIte, mset]
      refine hK _ ?_; clear hK
      refine bwp_cond false (by simp [ev, fget]) (fun h => nomatch h) (fun _ => ?_)
      refine bwp_leads (S' := inS s acc q1) (Leads.ent [(0, 0), (1, 1), (2, 2)] ⟨by simp [entT, fget, AV.ren, renL, pget, inS, parC, lexQ, lexC], by simp [entM, pinv, mget, mset, renL, AV.ren, pget, renL_append, -List.map_map, inS, parC, lexQ, lexC], rfl, rfl⟩) ?_
      exact bwp_exit (hQ acc q1 hshort (hI.done hb (hy hb)))
    | false =>
      have hq1 := hn hb
      subst hq1
      simp only [go_sem, ↓reduceIte, mset]
      refine hK _ ?_; clear hK
      refine bwp_cond true (by simp [ev, fget]) (fun _ => ?_) (fun h => nomatch h)
      refine bwp_skip ?_
      refine hK1 _ ?_; clear hK1
      refine bwp_block ?_
      refine bwp_seq fun K hK => bwp_region rfl ?_
      simp only [go_sem, ↓reduceIte]
      refine ploc_callK (q := q1) hs' hI.ps rfl rfl ?_
      intro l q2 h2
      simp only [go_sem, ↓reduceIte, mset]
      refine hK _ ?_; clear hK
      refine bwp_seq fun K hK => bwp_region rfl ?_
      simp only [go_sem, ↓reduceIte]
      refine pmust_callK hs' h2.ps [61] rfl rfl ?_
      intro q3 h3
      simp only [go_sem, ↓reduceIte, mset]
      refine hK _ ?_; clear hK
      refine bwp_seq fun K hK => bwp_region rfl ?_
      simp only [go_sem, ↓reduceIte]
      refine pnum_callK hs' h3.ps rfl rfl ?_
      intro v q4 h4
      simp only [go_sem, ↓reduceIte, mset]
      refine hK _ ?_; clear hK
      refine bwp_seq fun K hK => bwp_region rfl ?_
      simp only [go_sem, ↓reduceIte]
      refine pmust_callK hs' h4.ps [59] rfl rfl ?_
      intro q5 h5
      simp only [go_sem, ↓reduceIte, mset]
      refine hK _ ?_; clear hK
      refine bwp_region rfl ?_
      simp only [go_sem, ↓reduceIte, hfl, hb1, List.length_append, List.length_map, List.length_cons, List.length_nil]
      obtain ⟨f', rfl, hN⟩ := hI.next prog_init hb (PQ.bind (σ := .ok a) h2 (PQ.bind h3 (PQ.bind h4 (PQ.bind h5 (PQ.ret h5.ps)))))
      refine ⟨⟨(acc ++ [⟨l, v⟩], q5, _, f'), hN⟩, ?_, ?_⟩
      · simp only [hc, if_true]
        split <;> omega
      · exact Leads.ent [(0, 0), (1, 1), (17, 2)] ⟨by simp [inS, entT, fget, AV.ren, renL, pget], by simp [inS, entM, pinv, mget, mset, renL, AV.ren, pget, renL_append, -List.map_map, parC, lexQ, lexC, Init.cells], rfl, rfl⟩
  · obtain ⟨e, rfl⟩ : ∃ e, σ = .error e := by
      cases σ with
      | ok a => exact absurd hI.ps.code hc
      | error e => exact ⟨e, rfl⟩
    simp only [go_sem, ↓reduceIte, mset, eq_false hc, decide_false]
    refine hK _ ?_; clear hK
    refine bwp_cond false (by simp [ev, fget]) (fun h => nomatch h) (fun _ => ?_)
    refine bwp_leads (S' := inS s acc q) (Leads.ent [(0, 0), (1, 1), (2, 2)] ⟨by simp [entT, fget, AV.ren, renL, pget, inS, parC, lexQ, lexC], by simp [entM, pinv, mget, mset, renL, AV.ren, pget, renL_append, -List.map_map, inS, parC, lexQ, lexC], rfl, rfl⟩) ?_
    exact bwp_exit (hQ acc q hshort hI.err)
set_option maxHeartbeats 16000000 in
theorem pinit_calls {s : List UInt8} (hs : s.length ≤ 4000) {σ : PR Nat} {q : PSt} (h : PS s σ q) :
    ACalls Tryz.prog 33 [.ptr 0 0] [(0, parC q), (1, lexQ s q)] fun r m' => ∃ q', m' = [(0, parC q'), (1, lexQ s q')] ∧ ∃ l : List Init, l.length ≤ 4001 ∧ r = .d (slD Init.cells l) ∧ PQ s (thn σ (tInits.run s)) l q' := by
  have hs' : s.length ≤ 140737488351232 := by omega
  refine acalls_of Tryz.func33 ac33_ok Tryz.ntmps33 Tryz.results33 rfl ?_
  unfold ac33
  refine bwp_seq fun K hK => bwp_region rfl ?_
  simp only [go_sem, ↓reduceIte]
  refine hK _ ?_; clear hK
  refine bwp_seq fun K hK => bwp_region rfl ?_
  simp only [go_sem, ↓reduceIte]
  refine hK _ ?_; clear hK
  refine bwp_seq fun K hK => bwp_region rfl ?_
  simp only [go_sem, ↓reduceIte]
  refine pmust_callK hs' h [123] rfl rfl ?_
  intro q1 h1
  simp only [go_sem, ↓reduceIte, mset]
  refine hK _ ?_; clear hK
  refine bwp_seq fun K1 hK1 => ?_
  refine bwp_block ?_
  refine bwp_leads (S' := ⟨[(3, .d .nsl), (0, .ptr 0 0)], [(0, parC q1), (1, lexQ s q1)], 2⟩) (Leads.ent [(0, 0), (1, 1)] ⟨by simp [entT, fget, AV.ren, renL, pget, parC, lexQ, lexC], by simp [entM, pinv, mget, mset, renL, AV.ren, pget, renL_append, -List.map_map, parC, lexQ, lexC], rfl, rfl⟩) ?_
  refine bwp_leads (Leads.nil 3 2 rfl rfl) ?_
  refine bwp_leads (S' := inS s [] q1) (Leads.ent [(0, 0), (1, 1), (2, 2)] ⟨by simp [entT, fget, AV.ren, renL, pget, inS, parC, lexQ, lexC], by simp [entM, pinv, mget, mset, renL, AV.ren, pget, renL_append, -List.map_map, inS, parC, lexQ, lexC], rfl, rfl⟩) ?_
  refine pin_loop hs h1.ps ?_
  intro acc q2 hlen h2
  unfold inS
  simp only [go_sem, ↓reduceIte]
  refine hK1 _ ?_; clear hK1
  refine bwp_seq fun K hK => bwp_region rfl ?_
  simp only [go_sem, ↓reduceIte]
  refine hK _ ?_; clear hK
  have htk := init_take acc
  generalize hds : acc.flatMap Init.cells = ds at htk
  refine bwp_leads (Leads.frz (S' := ⟨[(2, .d (.sl acc.length ds)), (0, .ptr 0 0)], [(0, parC q2), (1, lexQ s q2)], 2⟩) [(0, 0), (1, 1)] [(2, ds)] ⟨?_, ?_, rfl, rfl, ?_⟩) ?_
  · simp [frzT, fget, AV.cv, cvL, zget, pget, htk]
  · simp [frzM, pinv, zget, mget, cvL, AV.cv, parC, lexQ, lexC, pget]
  · simp [zokFrom, mget, cvL_d]
  refine bwp_ret ?_
  simp only [go_sem]
  refine aend_mem (.d (slD Init.cells acc)) [(0, 0), (1, 1)] [(0, parC q2), (1, lexQ s q2)] ?_ rfl rfl ?_ ⟨q2, rfl, acc, hlen, rfl, PQ.bind h1 h2⟩
  · simp [resA, resVs, resV, fget, slD, hds]
  · simp [entM, pinv, mget, mset, renL, AV.ren, parC, lexQ, lexC, pget]
theorem pthread_callK {s : List UInt8} (hs : s.length ≤ 4000) {σ : PR Nat} {q : PSt} (h : PS s σ q) {dst : Option Nat} {ops : List AOper} {K : St → Prop} {t : Fr} {m : Mem} {n : Nat} (hm0 : mget m 0 = some (parC q)) (hm1 : mget m 1 = some (lexQ s q))
    (hk : ∀ (l : List Ins) q', l.length ≤ 4001 → PQ s (thn σ (tThread.run s)) l q' → runOps Tryz.prog ops ⟨putF t dst (.d (slD Ins.cells l)), mset (mset m 0 (parC q')) 1 (lexQ s q'), n + 2⟩ K) : callK Tryz.prog 34 [.ptr 0 0] dst ops K t m n := by
  refine par_callK (rest := []) (Q := fun r q' => ∃ l : List Ins, l.length ≤ 4001 ∧ r = .d (slD Ins.cells l) ∧ PQ s (thn σ (tThread.run s)) l q') (pthread_calls hs h) rfl ?_ hm0 hm1 ?_
  · rintro _ _ ⟨_, _, rfl, _⟩; rfl
  · rintro _ q' ⟨l, h1, rfl, h⟩; exact hk l q' h1 h
theorem pinit_callK {s : List UInt8} (hs : s.length ≤ 4000) {σ : PR Nat} {q : PSt} (h : PS s σ q) {dst : Option Nat} {ops : List AOper} {K : St → Prop} {t : Fr} {m : Mem} {n : Nat} (hm0 : mget m 0 = some (parC q)) (hm1 : mget m 1 = some (lexQ s q))
    (hk : ∀ (l : List Init) q', l.length ≤ 4001 → PQ s (thn σ (tInits.run s)) l q' → runOps Tryz.prog ops ⟨putF t dst (.d (slD Init.cells l)), mset (mset m 0 (parC q')) 1 (lexQ s q'), n + 2⟩ K) : callK Tryz.prog 33 [.ptr 0 0] dst ops K t m n := by
  refine par_callK (rest := []) (Q := fun r q' => ∃ l : List Init, l.length ≤ 4001 ∧ r = .d (slD Init.cells l) ∧ PQ s (thn σ (tInits.run s)) l q') (pinit_calls hs h) rfl ?_ hm0 hm1 ?_
  · rintro _ _ ⟨_, _, rfl, _⟩; rfl
  · rintro _ q' ⟨l, h1, rfl, h⟩; exact hk l q' h1 h
end Go.Proofs.YtpfbljkfbjjlkaaGreatDoor

/- The parser's conditions. -/
namespace Go.Proofs.YtpfbljkfbjjlkaaGreatDoor
open Go Go.Jq
set_option maxRecDepth 100000
set_option linter.unusedSimpArgs false
theorem atom_flat (l : List Atom) : (l.flatMap Atom.cells).length = l.length * 4 := by
  induction l with
  | nil => rfl
  | cons x l ih => simp only [List.flatMap_cons, List.length_append, atom_len, List.length_cons, ih]; omega
theorem atom_take (l : List Atom) : (l.flatMap Atom.cells).take (l.length * 4) = l.flatMap Atom.cells := List.take_of_length_le (by rw [atom_flat]; exact Nat.le_refl _)
structure RI (s : List UInt8) (σ0 : PR Nat) (f0 : Nat) (acc : List Atom) (q : PSt) (σ : PR Nat) (f : Nat) : Prop where
  ps : PS s σ q
  to : ∀ l qf, PQ s (thn σ ((tRow f).run s)) l qf → PQ s (thn σ0 ((tRow f0).run s)) (acc ++ l) qf
  fuel : ∀ a, σ = .ok a → s.length - a < f
  len : acc.length + f ≤ f0 ∨ (∃ e, σ = .error e) ∧ acc.length ≤ f0
theorem tkB_ok {s : List UInt8} {σ : PR Nat} {q : PSt} {x : List UInt8} (h : PS s σ q) (hb : tkB q x = true) : ∃ a, σ = .ok a ∧ (curT s a).kd ≠ 4 := by
  cases σ with
  | error e =>
    exfalso
    unfold tkB at hb
    simp only [Bool.and_eq_true, decide_eq_true_eq] at hb
    exact h.codeE hb.1
  | ok a =>
    refine ⟨a, rfl, ?_⟩
    unfold tkB at hb
    simp only [Bool.and_eq_true, decide_eq_true_eq] at hb
    rw [← h.2.2.1]
    exact isK_kd hb.2
theorem eatW_lt {s : List UInt8} {a b : Nat} (ha : a ≤ s.length) (h0 : (nextW s a).2.2 = 0) (h4 : (curT s a).kd ≠ 4) (h : eatW s a = .ok b) : a < b ∧ b ≤ s.length := by
  obtain ⟨rfl, _⟩ := eatW_ok h
  have h1 := nextW_to ha
  exact ⟨h1.2.2 h0 h4, h1.2.1⟩
theorem RI.next {s : List UInt8} {σ0 : PR Nat} {f0 : Nat} {acc : List Atom} {q : PSt} {σ : PR Nat} {f : Nat} (h : RI s σ0 f0 acc q σ f) (hb : tkB q [38] = true) {x : Atom} {q' : PSt} (hq : PQ s (thn (thn σ (eatW s)) (tAtom.run s)) x q') :
    ∃ f', f = f' + 1 ∧ RI s σ0 f0 (acc ++ [x]) q' (posR (thn (thn σ (eatW s)) (tAtom.run s))) f' := by
  obtain ⟨a, rfl, h4⟩ := tkB_ok h.ps hb
  have hf := h.fuel a rfl
  obtain ⟨f', rfl⟩ : ∃ f', f = f' + 1 := ⟨f - 1, by omega⟩
  refine ⟨f', rfl, ⟨hq.ps, fun l qf hl => ?_, fun b hb' => ?_, ?_⟩⟩
  · have : PQ s (thn (.ok a) ((tRow (f' + 1)).run s)) (x :: l) qf := PQ.take_yes h.ps hb (PQ.bind hq (PQ.bind hl (PQ.ret hl.ps)))
    have := h.to _ _ this
    simpa using this
  · obtain ⟨y, hy⟩ := posR_ok hb'
    obtain ⟨c, hc, hy'⟩ := thn_ok hy
    have h1 := eatW_lt h.ps.1 h.ps.2.1 h4 hc
    have h2 := tAtom.run_le h1.2 hy'
    omega
  · rcases h.len with hl | ⟨⟨e, he⟩, _⟩
    · left
      simp only [List.length_append, List.length_cons, List.length_nil]
      omega
    · cases he
theorem RI.done {s : List UInt8} {σ0 : PR Nat} {f0 : Nat} {acc : List Atom} {q : PSt} {σ : PR Nat} {f : Nat} (h : RI s σ0 f0 acc q σ f) (hb : tkB q [38] = false) : PQ s (thn σ0 ((tRow f0).run s)) acc q := by
  have : PQ s (thn σ ((tRow f).run s)) [] q := by
    cases σ with
    | error e => exact h.ps
    | ok a =>
      have hf := h.fuel a rfl
      obtain ⟨f', rfl⟩ : ∃ f', f = f' + 1 := ⟨f - 1, by omega⟩
      exact PQ.take_no h.ps hb (PQ.ret h.ps)
  have := h.to _ _ this
  simpa using this
theorem RI.start {s : List UInt8} {σ : PR Nat} {q : PSt} (hs : s.length ≤ 4000) (h : PS s σ q) : RI s σ fuelP [] q σ fuelP :=
  ⟨h, fun l qf hl => hl, fun a _ => by unfold fuelP; omega, .inl (by simp)⟩
theorem RI.short {s : List UInt8} {σ0 σ : PR Nat} {acc : List Atom} {q : PSt} {f : Nat} (h : RI s σ0 fuelP acc q σ f) : acc.length ≤ 4001 := by
  rcases h.len with h | h
  · unfold fuelP at h; omega
  · exact h.2
def rowsC (accs : List (List Atom)) : List DV := accs.map (slD Atom.cells)
def icS (s : List UInt8) (kind : Int) (accs : List (List Atom)) (row : List Atom) (q : PSt) : St :=
  ⟨[(6, .sl 5 4 0 row.length), (4, .ptr 2 0), (5, .ptr 3 0), (0, .ptr 0 0)], [(0, parC q), (1, lexQ s q), (2, [.d (.int .i64 0), .d .nsl]), (3, [.d (.int .i64 kind), .sl 4 1 0 accs.length]), (4, (rowsC accs).map .d), (5, (row.flatMap Atom.cells).map .d)], 6⟩
set_option maxHeartbeats 16000000 in
theorem pco_loop0 {s : List UInt8} (hs : s.length ≤ 4000) {kind : Int} {accs : List (List Atom)} {x0 : Atom} {σ0 : PR Nat} {q0 : PSt} (h0 : PS s σ0 q0) {Q : Exit → St → Prop}
    (hQ : ∀ acc q', acc.length ≤ 4001 → PQ s (thn σ0 ((tRow fuelP).run s)) acc q' → Q (.exit 2) (icS s kind accs (x0 :: acc) q')) :
    BWP Tryz.prog 2 31 (.loop ac35L0) (icS s kind accs [x0] q0) Q := by
  have hs' : s.length ≤ 140737488351232 := by omega
  refine bwp_fam (ι := { p : List Atom × PSt × PR Nat × Nat // RI s σ0 fuelP p.1 p.2.1 p.2.2.1 p.2.2.2 }) (fun p => icS s kind accs (x0 :: p.1.1) p.1.2.1) (fun p => if p.1.2.1.code = 0 then p.1.2.2.2 + 1 else 0) ⟨([], q0, σ0, fuelP), RI.start hs h0⟩ ?_
  rintro ⟨⟨acc, q, σ, f⟩, hI⟩
  simp only at hI ⊢
  unfold ac35L0 icS
  have hshort := hI.short
  have hfl : (((x0 :: acc).flatMap Atom.cells).map AV.d).length = (acc.length + 1) * 4 := by rw [List.length_map, atom_flat, List.length_cons]
  have hll : (x0 :: acc).length = acc.length + 1 := List.length_cons
  have hb1 : (acc.length + 1 + 1) * 32 ≤ 140737488351232 := by omega
  generalize hrow : (x0 :: acc).flatMap Atom.cells = row at *
  generalize hcs : (rowsC accs).map AV.d = cs
  have hcr : ∀ π, renL π cs = cs := fun π => by rw [← hcs]; exact renL_d _ _
  refine bwp_seq fun K1 hK1 => ?_
  refine bwp_seq fun K hK => bwp_region rfl ?_
  simp only [go_sem, ↓reduceIte]
  refine ptake_callK hs' hI.ps [38] rfl rfl ?_
  intro q1 hy hn
  cases hb : tkB q [38] with
  | false =>
    have hq1 := hn hb
    subst hq1
    simp only [go_sem, ↓reduceIte, mset]
    refine hK _ ?_; clear hK
    refine bwp_cond false (by simp [ev, fget]) (fun h => nomatch h) (fun _ => ?_)
    refine bwp_leads (S' := icS s kind accs (x0 :: acc) q1) (Leads.ent [(0, 0), (1, 1), (2, 2), (3, 3), (4, 4), (5, 5)] ⟨by simp [icS, entT, fget, AV.ren, renL, pget], ?_, rfl, rfl⟩) ?_
    · rw [← hrow, ← hcs]
      simp [icS, entM, pinv, mget, mset, renL, AV.ren, pget, renL_append, -List.map_map, parC, lexQ, lexC]
    exact bwp_exit (hQ acc q1 hshort (hI.done hb))
  | true =>
    have h1 := hy hb
    simp only [go_sem, ↓reduceIte, mset]
    refine hK _ ?_; clear hK
    refine bwp_cond true (by simp [ev, fget]) (fun _ => ?_) (fun h => nomatch h)
    refine bwp_skip ?_
    refine hK1 _ ?_; clear hK1
    refine bwp_block ?_
    refine bwp_region rfl ?_
    simp only [go_sem, ↓reduceIte]
    refine patom_callK hs' h1 rfl rfl ?_
    intro x q2 h2
    simp only [go_sem, ↓reduceIte, mset, atC, Atom.cells, hfl, hb1, List.length_append, List.length_map, List.length_cons, List.length_nil]
    obtain ⟨f', rfl, hN⟩ := hI.next hb h2
    have hrow' : (x0 :: (acc ++ [x])).flatMap Atom.cells = row ++ Atom.cells x := by rw [← hrow]; simp
    have hc : q.code = 0 := by
      obtain ⟨a, ha, _⟩ := tkB_ok hI.ps hb
      have := hI.ps
      rw [ha] at this
      exact this.code
    refine ⟨⟨(acc ++ [x], q2, _, f'), hN⟩, ?_, ?_⟩
    · simp only [hc, if_true]
      split <;> omega
    · refine Leads.ent [(0, 0), (1, 1), (2, 2), (3, 3), (4, 4), (11, 5)] ⟨by simp [entT, fget, AV.ren, renL, pget], ?_, rfl, rfl⟩
      simp only [hrow']
      simp [entM, pinv, mget, mset, renL, AV.ren, pget, renL_append, -List.map_map, parC, lexQ, lexC, hcr, Atom.cells]
structure OI (s : List UInt8) (σ0 : PR Nat) (f0 : Nat) (acc : List (List Atom)) (q : PSt) (σ : PR Nat) (f : Nat) : Prop where
  ps : PS s σ q
  to : ∀ l qf, PQ s (thn σ ((tRows f).run s)) l qf → PQ s (thn σ0 ((tRows f0).run s)) (acc ++ l) qf
  fuel : ∀ a, σ = .ok a → s.length - a < f
  len : acc.length + f ≤ f0 ∨ (∃ e, σ = .error e) ∧ acc.length ≤ f0
  rows : ∀ l ∈ acc, l.length ≤ 4002
theorem OI.start {s : List UInt8} {σ : PR Nat} {q : PSt} (hs : s.length ≤ 4000) (h : PS s σ q) : OI s σ fuelP [] q σ fuelP :=
  ⟨h, fun l qf hl => hl, fun a _ => by unfold fuelP; omega, .inl (by simp), fun l hl => by cases hl⟩
theorem OI.short {s : List UInt8} {σ0 σ : PR Nat} {acc : List (List Atom)} {q : PSt} {f : Nat} (h : OI s σ0 fuelP acc q σ f) : acc.length ≤ 4001 := by
  rcases h.len with h | h
  · unfold fuelP at h; omega
  · exact h.2
theorem OI.next {s : List UInt8} {σ0 : PR Nat} {f0 : Nat} {acc : List (List Atom)} {q : PSt} {σ : PR Nat} {f : Nat} (h : OI s σ0 f0 acc q σ f) {x : Atom} {l : List Atom} {q1 q2 q3 : PSt} (h1 : PQ s (thn σ (tAtom.run s)) x q1)
    (h2 : PQ s (thn (posR (thn σ (tAtom.run s))) ((tRow fuelP).run s)) l q2) (hl : l.length ≤ 4001) (hb : tkB q2 [124] = true) (h3 : PS s (thn (posR (thn (posR (thn σ (tAtom.run s))) ((tRow fuelP).run s))) (eatW s)) q3) :
    ∃ f', f = f' + 1 ∧ OI s σ0 f0 (acc ++ [x :: l]) q3 (thn (posR (thn (posR (thn σ (tAtom.run s))) ((tRow fuelP).run s))) (eatW s)) f' ∧ q.code = 0 := by
  obtain ⟨c, hc, h4⟩ := tkB_ok h2.ps hb
  obtain ⟨l', hl'⟩ := posR_ok hc
  obtain ⟨b, hb', hrow⟩ := thn_ok hl'
  obtain ⟨x', hx'⟩ := posR_ok hb'
  obtain ⟨a, rfl, hat⟩ := thn_ok hx'
  have hf := h.fuel a rfl
  obtain ⟨f', rfl⟩ : ∃ f', f = f' + 1 := ⟨f - 1, by omega⟩
  have p1 := prog_atom s a x' b h.ps.1 h.ps.2.1 hat
  have p2 := tAtom.run_le h.ps.1 hat
  have p3 := (tRow fuelP).run_le p2.2 hrow
  refine ⟨f', rfl, ⟨h3, fun r qf hr => ?_, fun d hd => ?_, ?_, fun l0 hl0 => ?_⟩, h.ps.code⟩
  · have : PQ s (thn (.ok a) ((tRows (f' + 1)).run s)) ((x :: l) :: r) qf := PQ.bind h1 (PQ.bind h2 (PQ.take_yes h2.ps hb (PQ.bind hr (PQ.ret hr.ps))))
    have := h.to _ _ this
    simpa using this
  · rw [hc] at hd
    have hps := h2.ps
    rw [hc] at hps
    have := eatW_lt hps.1 hps.2.1 h4 hd
    omega
  · rcases h.len with hl | ⟨⟨e, he⟩, _⟩
    · left
      simp only [List.length_append, List.length_cons, List.length_nil]
      omega
    · cases he
  · rcases List.mem_append.1 hl0 with h' | h'
    · exact h.rows l0 h'
    · simp only [List.mem_cons, List.not_mem_nil, or_false] at h'
      subst h'
      simp only [List.length_cons]
      omega
theorem OI.done {s : List UInt8} {σ0 : PR Nat} {f0 : Nat} {acc : List (List Atom)} {q : PSt} {σ : PR Nat} {f : Nat} (h : OI s σ0 f0 acc q σ f) {x : Atom} {l : List Atom} {q1 q2 : PSt} (h1 : PQ s (thn σ (tAtom.run s)) x q1)
    (h2 : PQ s (thn (posR (thn σ (tAtom.run s))) ((tRow fuelP).run s)) l q2) (hb : tkB q2 [124] = false) : PQ s (thn σ0 ((tRows f0).run s)) (acc ++ [x :: l]) q2 := by
  refine h.to _ _ ?_
  cases σ with
  | error e => exact h2.ps
  | ok a =>
    have hf := h.fuel a rfl
    obtain ⟨f', rfl⟩ : ∃ f', f = f' + 1 := ⟨f - 1, by omega⟩
    exact PQ.bind h1 (PQ.bind h2 (PQ.take_no h2.ps hb (PQ.ret h2.ps)))
def ocS (s : List UInt8) (kind : Int) (accs : List (List Atom)) (q : PSt) : St :=
  ⟨[(4, .ptr 2 0), (5, .ptr 3 0), (0, .ptr 0 0)], [(0, parC q), (1, lexQ s q), (2, [.d (.int .i64 0), .d .nsl]), (3, [.d (.int .i64 kind), .sl 4 1 0 accs.length]), (4, (rowsC accs).map .d)], 5⟩
theorem rowsC_len (accs : List (List Atom)) : (rowsC accs).length = accs.length := by simp [rowsC]
theorem rowsC_snoc (accs : List (List Atom)) (l : List Atom) : rowsC (accs ++ [l]) = rowsC accs ++ [slD Atom.cells l] := by simp [rowsC]
def rowsD (rows : List (List Atom)) : DV := .sl rows.length (rowsC rows)
set_option maxHeartbeats 32000000 in
theorem pco_loop1 {s : List UInt8} (hs : s.length ≤ 4000) {kind : Int} {σ0 : PR Nat} {q0 : PSt} (h0 : PS s σ0 q0) {Q : Exit → St → Prop}
    (hR : ∀ (rows : List (List Atom)) q', rows.length ≤ 4002 → (∀ l ∈ rows, l.length ≤ 4002) → PQ s (thn σ0 ((tAsk kind).run s)) (kind, rows) q' →
      Q .ret ⟨[(4, .ptr 2 0)], [(0, parC q'), (1, lexQ s q'), (2, [.d (.int .i64 kind), .d (rowsD rows)])], 3⟩) :
    BWP Tryz.prog 2 31 (.loop ac35L1) (ocS s kind [] q0) Q := by
  have hs' : s.length ≤ 140737488351232 := by omega
  refine bwp_fam (ι := { p : List (List Atom) × PSt × PR Nat × Nat // OI s σ0 fuelP p.1 p.2.1 p.2.2.1 p.2.2.2 }) (fun p => ocS s kind p.1.1 p.1.2.1) (fun p => if p.1.2.1.code = 0 then p.1.2.2.2 + 1 else 0) ⟨([], q0, σ0, fuelP), OI.start hs h0⟩ ?_
  rintro ⟨⟨accs, q, σ, f⟩, hI⟩
  simp only at hI ⊢
  unfold ac35L1 ocS
  have hshort := hI.short
  refine bwp_block ?_
  refine bwp_seq fun K hK => bwp_region rfl ?_
  simp only [go_sem, ↓reduceIte]
  refine patom_callK hs' hI.ps rfl rfl ?_
  intro x q1 h1
  simp only [go_sem, ↓reduceIte, mset, atC, Atom.cells]
  refine hK _ ?_; clear hK
  refine bwp_seq fun K1 hK1 => ?_
  refine bwp_block ?_
  have hcr : ∀ π, renL π ((rowsC accs).map AV.d) = (rowsC accs).map .d := fun π => renL_d _ _
  have hcl : ((rowsC accs).map AV.d).length = accs.length := by rw [List.length_map, rowsC_len]
  have hb1 : (accs.length + 1) * 24 ≤ 140737488351232 := by omega
  refine bwp_leads (S' := icS s kind accs [x] q1) (Leads.ent [(0, 0), (1, 1), (2, 2), (3, 3), (4, 4), (7, 5)] ⟨by simp [icS, entT, fget, AV.ren, renL, pget], ?_, rfl, rfl⟩) ?_
  · simp [icS, entM, pinv, mget, mset, renL, AV.ren, pget, renL_append, -List.map_map, parC, lexQ, lexC, Atom.cells]
  refine pco_loop0 hs h1.ps ?_
  intro acc q2 hlen h2
  unfold icS
  simp only [go_sem, ↓reduceIte]
  refine hK1 _ ?_; clear hK1
  have htk := atom_take (x :: acc)
  have hll : (x :: acc).length = acc.length + 1 := List.length_cons
  have hsn := rowsC_snoc accs (x :: acc)
  have hsd : slD Atom.cells (x :: acc) = .sl (acc.length + 1) ((x :: acc).flatMap Atom.cells) := by simp only [slD, hll]
  rw [hll] at htk
  generalize hds : (x :: acc).flatMap Atom.cells = ds at htk hsd
  refine bwp_leads (Leads.frz (S' := ⟨[(6, .d (.sl (acc.length + 1) ds)), (4, .ptr 2 0), (5, .ptr 3 0), (0, .ptr 0 0)], [(0, parC q2), (1, lexQ s q2), (2, [.d (.int .i64 0), .d .nsl]), (3, [.d (.int .i64 kind), .sl 4 1 0 accs.length]), (4, (rowsC accs).map .d)], 5⟩) [(0, 0), (1, 1), (2, 2), (3, 3), (4, 4)] [(5, ds)] ⟨?_, ?_, rfl, rfl, ?_⟩) ?_
  · simp [frzT, fget, AV.cv, cvL, zget, pget, htk]
  · simp [frzM, pinv, zget, mget, cvL, AV.cv, parC, lexQ, lexC, pget, cvL_d, -List.map_map]
  · simp [zokFrom, mget, cvL_d]
  generalize hcs : (rowsC accs).map AV.d = cs at *
  refine bwp_seq fun K hK => bwp_region rfl ?_
  simp only [go_sem, ↓reduceIte, hcl, hb1, List.length_append, List.length_map, List.length_cons, List.length_nil]
  refine hK _ ?_; clear hK
  refine bwp_seq fun K hK => bwp_region rfl ?_
  simp only [go_sem, ↓reduceIte]
  refine ptake_callK hs' h2.ps [124] rfl rfl ?_
  intro q3 hy hn
  cases hb : tkB q2 [124] with
  | true =>
    have h3 := hy hb
    obtain ⟨f', rfl, hN, hc⟩ := hI.next h1 h2 hlen hb h3
    simp only [go_sem, ↓reduceIte, mset]
    refine hK _ ?_; clear hK
    refine bwp_cond false (by simp [ev, fget]) (fun h => nomatch h) (fun _ => ?_)
    refine bwp_skip ?_
    simp only [go_sem, ↓reduceIte]
    refine ⟨⟨(accs ++ [x :: acc], q3, _, f'), hN⟩, ?_, ?_⟩
    · simp only [hc, if_true]
      split <;> omega
    · refine Leads.ent [(0, 0), (1, 1), (2, 2), (3, 3), (6, 4)] ⟨by simp [entT, fget, AV.ren, renL, pget], ?_, rfl, rfl⟩
      simp only [hsn, List.map_append, hcs]
      simp [entM, pinv, mget, mset, renL, AV.ren, pget, renL_append, -List.map_map, parC, lexQ, lexC, hcr, hsd]
  | false =>
    have hq := hn hb
    subst hq
    have h4 := hI.done h1 h2 hb
    simp only [go_sem, ↓reduceIte, mset]
    refine hK _ ?_; clear hK
    refine bwp_cond true (by simp [ev, fget]) (fun _ => ?_) (fun h => nomatch h)
    refine bwp_seq fun K hK => bwp_region rfl ?_
    simp only [go_sem, ↓reduceIte]
    refine pmust_callK hs' h4.ps [59] rfl rfl ?_
    intro q4 h5
    simp only [go_sem, ↓reduceIte, mset]
    refine hK _ ?_; clear hK
    refine bwp_seq fun K hK => bwp_region rfl ?_
    simp only [go_sem, ↓reduceIte]
    refine hK _ ?_; clear hK
    have hrl : (rowsC (accs ++ [x :: acc])).length = accs.length + 1 := by rw [rowsC_len]; simp
    have hrt : (rowsC (accs ++ [x :: acc])).take (accs.length + 1) = rowsC (accs ++ [x :: acc]) := List.take_of_length_le (by omega)
    have hrd : rowsD (accs ++ [x :: acc]) = .sl (accs.length + 1) (rowsC (accs ++ [x :: acc])) := by simp [rowsD]
    have hlast := hR (accs ++ [x :: acc]) q4 (by simp; omega) (fun l hl => by
      rcases List.mem_append.1 hl with h' | h'
      · exact hI.rows l h'
      · simp only [List.mem_cons, List.not_mem_nil, or_false] at h'
        subst h'
        simp only [List.length_cons]
        omega) (PQ.bind h4 (PQ.bind h5 (PQ.ret h5.ps)))
    rw [hrd] at hlast
    refine bwp_leads (S' := ⟨[(4, .ptr 2 0)], [(0, parC q4), (1, lexQ s q4), (2, [.d (.int .i64 kind), .sl 4 1 0 (accs.length + 1)]), (4, (rowsC (accs ++ [x :: acc])).map .d)], 5⟩) (Leads.ent [(0, 0), (1, 1), (2, 2), (6, 4)] ⟨by simp [entT, fget, AV.ren, renL, pget], ?_, rfl, rfl⟩) ?_
    · rw [hsn, List.map_append, hcs]
      simp [entM, pinv, mget, mset, renL, AV.ren, pget, renL_append, -List.map_map, parC, lexQ, lexC, hcr, hsd]
    generalize rowsC (accs ++ [x :: acc]) = rs at *
    refine bwp_leads (Leads.frz (S' := ⟨[(4, .ptr 2 0)], [(0, parC q4), (1, lexQ s q4), (2, [.d (.int .i64 kind), .d (.sl (accs.length + 1) rs)])], 3⟩) [(0, 0), (1, 1), (2, 2)] [(4, rs)] ⟨?_, ?_, rfl, rfl, ?_⟩) ?_
    · simp [frzT, fget, AV.cv, cvL, zget, pget]
    · simp [frzM, pinv, zget, mget, cvL, AV.cv, parC, lexQ, lexC, pget, hrt]
    · simp [zokFrom, mget, cvL_d]
    refine bwp_ret ?_
    simp only [go_sem, ↓reduceIte]
    exact hlast
set_option maxHeartbeats 16000000 in
theorem pcond_calls {s : List UInt8} (hs : s.length ≤ 4000) {σ : PR Nat} {q : PSt} (h : PS s σ q) (kind : Int) :
    ACalls Tryz.prog 35 [.ptr 0 0, .d (.int .i64 kind)] [(0, parC q), (1, lexQ s q)] fun r m' => ∃ q', m' = [(0, parC q'), (1, lexQ s q')] ∧ ∃ rows : List (List Atom), (rows.length ≤ 4002 ∧ ∀ l ∈ rows, l.length ≤ 4002) ∧ r = .agg [.d (.int .i64 kind), .d (rowsD rows)] ∧ PQ s (thn σ ((tAsk kind).run s)) (kind, rows) q' := by
  have hld : ldk Tryz.prog 28 = some (some 2) := by kernel_rfl
  refine acalls_of Tryz.func35 ac35_ok Tryz.ntmps35 Tryz.results35 rfl ?_
  unfold ac35
  refine bwp_seq fun K hK => bwp_region rfl ?_
  simp only [go_sem, ↓reduceIte]
  refine hK _ ?_; clear hK
  refine bwp_seq fun K hK => bwp_region rfl ?_
  simp only [go_sem, ↓reduceIte]
  refine hK _ ?_; clear hK
  refine bwp_block ?_
  refine bwp_leads (S' := ⟨[(4, .ptr 2 0), (5, .ptr 3 0), (0, .ptr 0 0)], [(0, parC q), (1, lexQ s q), (2, [.d (.int .i64 0), .d .nsl]), (3, [.d (.int .i64 kind), .d .nsl])], 4⟩) (Leads.ent [(0, 0), (1, 1), (2, 2), (3, 3)] ⟨by simp [entT, fget, AV.ren, renL, pget, parC, lexQ, lexC], by simp [entM, pinv, mget, mset, renL, AV.ren, pget, renL_append, -List.map_map, parC, lexQ, lexC], rfl, rfl⟩) ?_
  refine bwp_leads (Leads.nilCell 3 1 1 rfl rfl rfl rfl) ?_
  refine bwp_leads (S' := ocS s kind [] q) (Leads.ent [(0, 0), (1, 1), (2, 2), (3, 3), (4, 4)] ⟨by simp [entT, fget, AV.ren, renL, pget, ocS, parC, lexQ, lexC, rowsC], by simp [entM, pinv, mget, mset, renL, AV.ren, pget, renL_append, -List.map_map, ocS, parC, lexQ, lexC, rowsC], rfl, rfl⟩) ?_
  refine pco_loop1 hs h ?_
  intro rows q' h1 h2 h3
  simp only [go_sem, ↓reduceIte]
  refine aend_mem (.agg [.d (.int .i64 kind), .d (rowsD rows)]) [(0, 0), (1, 1)] [(0, parC q'), (1, lexQ s q')] ?_ rfl rfl ?_ ⟨q', rfl, rows, ⟨h1, h2⟩, rfl, h3⟩
  · simp [resA, resVs, resV, fget, mget, mset, loadA, hld]
  · simp [entM, pinv, mget, mset, renL, AV.ren, parC, lexQ, lexC, pget]
end Go.Proofs.YtpfbljkfbjjlkaaGreatDoor

/- The document's reader, gone through: its small methods. -/
namespace Go.Proofs.YtpfbljkfbjjlkaaGreatDoor
open Go Go.Jq
set_option maxRecDepth 100000
set_option linter.unusedSimpArgs false
structure RSt where
  pos : Nat
  tok : Tok
  to : Nat
  code : Int
  eat : Nat
end Go.Proofs.YtpfbljkfbjjlkaaGreatDoor

/- The abstract layer: a region that draws its order, gone through in every order. -/
namespace Go.Jq
open Go
def stepG (P : Program) (o : AOper) (S : St) (K : St → Prop) : Prop :=
  match o.guard with
  | none => stepOp P o S K
  | some (g, want) => match fget S.t g with
    | .d (.bool b) => if b = want then stepOp P o S K else K ⟨putF S.t o.dst (.tup []), S.m, S.n⟩
    | .tup _ => K ⟨putF S.t o.dst (.tup []), S.m, S.n⟩
    | _ => False
def readyM (ms : List Nat) (L : Nat) : List Nat := (List.range ms.length).filter fun i => !L.testBit i && (ms.getD i 0 &&& L == ms.getD i 0)
def runAny (P : Program) (al : List AOper) (ms : List Nat) (K : St → Prop) : Nat → Nat → St → Prop
  | 0, L, S => readyM ms L = [] ∧ K S
  | f + 1, L, S => (readyM ms L = [] → K S) ∧ ∀ i ∈ readyM ms L, match al[i]? with
    | some ao => stepG P ao S (runAny P al ms K f (L ||| 2 ^ i))
    | none => False
theorem mask_bit (i : Nat) : ∀ (l : List Edge) (s : Nat), (s.testBit i = true ∨ ∃ e ∈ l, Region.binds .any e = true ∧ e.on = i) → (l.foldl (fun s e => if Region.binds .any e then s ||| 2 ^ e.on else s) s).testBit i = true
  | [], s, h => by
    rcases h with h | ⟨e, he, _⟩
    · exact h
    · cases he
  | e :: l, s, h => by
    simp only [List.foldl_cons]
    refine mask_bit i l _ ?_
    rcases h with h | ⟨e', he', h1, h2⟩
    · left
      split
      · rw [Nat.testBit_or, h]; rfl
      · exact h
    · rcases List.mem_cons.1 he' with rfl | he'
      · left
        rw [if_pos h1, Nat.testBit_or, h2, Nat.testBit_two_pow_self, Bool.or_true]
      · exact .inr ⟨e', he', h1, h2⟩
theorem and_eq_iff (m L : Nat) : (m &&& L == m) = true ↔ ∀ b, m.testBit b = true → L.testBit b = true := by
  rw [beq_iff_eq]
  constructor
  · intro h b hb
    rw [← h, Nat.testBit_and, Bool.and_eq_true] at hb
    exact hb.2
  · intro h
    apply Nat.eq_of_testBit_eq
    intro b
    rw [Nat.testBit_and]
    cases hb : m.testBit b with
    | false => rfl
    | true => rw [h b hb]; rfl
section
variable {P : Program} {k : Nat} {ops : Array Oper}
theorem ready_iff {listed : Array Bool} {L : Nat} (hsz : listed.size = ops.size) (hL : ∀ i, L.testBit i = listed.getD i false) (i : Nat) : i ∈ readyM (masksOf ops) L ↔ i ∈ Region.ready .any ops listed := by
  rw [mem_ready]
  unfold readyM
  rw [List.mem_filter, List.mem_range, Bool.and_eq_true, Bool.not_eq_true', and_eq_iff]
  have hlen : (masksOf ops).length = ops.size := by simp [masksOf]
  rw [hlen]
  constructor
  · rintro ⟨h1, h2, h3⟩
    have hi : i < listed.size := by omega
    refine ⟨?_, ops[i], by simp [h1], fun e he hb => ?_⟩
    · have := hL i
      rw [h2] at this
      simp [hi] at this ⊢
      exact this
    · rw [← hL]
      refine h3 _ ?_
      have : (masksOf ops).getD i 0 = (ops[i]).after.toList.foldl (fun s e => if Region.binds .any e then s ||| 2 ^ e.on else s) 0 := by
        simp [masksOf, h1]
      rw [this]
      exact mask_bit _ _ _ (.inr ⟨e, by simpa using he, hb, rfl⟩)
  · rintro ⟨h1, o, ho, h3⟩
    have hi : i < ops.size := (Array.getElem?_eq_some_iff.1 ho).1
    have hi' : i < listed.size := by omega
    refine ⟨hi, ?_, fun b hb => ?_⟩
    · rw [hL]
      simp [hi'] at h1 ⊢
      exact h1
    · have : (masksOf ops).getD i 0 = o.after.toList.foldl (fun s e => if Region.binds .any e then s ||| 2 ^ e.on else s) 0 := by
        have e : ops[i] = o := (Array.getElem?_eq_some_iff.1 ho).2
        simp [masksOf, hi, e]
      rw [this] at hb
      rcases mask_spec b _ _ hb with h | ⟨e, he, h4, h5⟩
      · simp at h
      · rw [hL, ← h5]
        exact h3 e (by simpa using he) h4
theorem ready_nil {listed : Array Bool} {L : Nat} (hsz : listed.size = ops.size) (hL : ∀ i, L.testBit i = listed.getD i false) : Region.ready .any ops listed = [] → readyM (masksOf ops) L = [] := by
  intro h
  rw [List.eq_nil_iff_forall_not_mem]
  intro i hi
  rw [ready_iff hsz hL, h] at hi
  cases hi
theorem runAny_sound {E : Env} {al : List AOper} {Q : Exit → Act → World → Prop} {K : St → Prop} (hc : cOpers P ops k ops.toList = some al) (hK : ∀ S' a' w', K S' → Conc E k S' a' w' → Q .normal a' w') :
    ∀ (fuel L : Nat) (listed : Array Bool) (S : St) (a : Act) (w : World), listed.size = ops.size → (∀ i, L.testBit i = listed.getD i false) → E.n ≤ S.n → Conc E k S a w → runAny P al (masksOf ops) K fuel L S →
      wpAny P .any ops Q fuel listed a w
  | 0, L, listed, S, a, w, hsz, hL, _, hcc, h => ⟨by
      rw [List.eq_nil_iff_forall_not_mem]
      intro i hi
      rw [← ready_iff hsz hL, h.1] at hi
      exact absurd hi (List.not_mem_nil), hK _ _ _ h.2 hcc⟩
  | fuel + 1, L, listed, S, a, w, hsz, hL, hn, hcc, h => by
    refine ⟨fun h0 => hK _ _ _ (h.1 (ready_nil hsz hL h0)) hcc, fun i hi => ?_⟩
    have h1 := h.2 i ((ready_iff hsz hL i).2 hi)
    obtain ⟨_, o, ho, _⟩ := mem_ready.1 hi
    have hco : ∃ ao, al[i]? = some ao ∧ cOper P ops k o = some ao := by
      have key : ∀ (l : List Oper) (al : List AOper), cOpers P ops k l = some al → ∀ (i : Nat) (o : Oper), l[i]? = some o → ∃ ao, al[i]? = some ao ∧ cOper P ops k o = some ao := by
        intro l
        induction l with
        | nil => intro al _ i o ho; simp at ho
        | cons x l ih =>
          intro al hc i o ho
          simp only [cOpers] at hc
          split at hc
          · rename_i ao r' e1 e2
            cases hc
            cases i with
            | zero => simp at ho; subst ho; exact ⟨ao, rfl, e1⟩
            | succ i => exact ih r' e2 i o (by simpa using ho)
          · cases hc
      exact key _ _ hc i o (by rw [Array.getElem?_toList]; exact ho)
    obtain ⟨ao, hao, hco⟩ := hco
    rw [hao] at h1
    simp only at h1
    have hsz' : (listed.setIfInBounds i true).size = ops.size := by simp [hsz]
    have hi' : i < listed.size := by rw [hsz]; exact (Array.getElem?_eq_some_iff.1 ho).1
    have hL' : ∀ j, (L ||| 2 ^ i).testBit j = (listed.setIfInBounds i true).getD j false := by
      intro j
      rw [Nat.testBit_or, Nat.testBit_two_pow]
      by_cases hij : i = j
      · subst hij
        simp [hi']
      · rw [getD_set_ne false hij, ← hL j]
        simp [hij]
    have next : ∀ S' a' w', runAny P al (masksOf ops) K fuel (L ||| 2 ^ i) S' → Conc E k S' a' w' → S.n ≤ S'.n → wpAny P .any ops Q fuel (listed.setIfInBounds i true) a' w' :=
      fun S' a' w' hs hc' hle => runAny_sound hc hK fuel _ _ S' a' w' hsz' hL' (Nat.le_trans hn hle) hc' hs
    obtain ⟨hg, hd, hdk⟩ := cOper_guard hco
    unfold wpOp
    simp only [ho]
    unfold stepG at h1
    split at h1
    · rename_i hgn
      rw [hgn] at hg
      rw [if_pos (guard_none hg _)]
      exact .inl (wp_step hco hn next hcc h1)
    · rename_i g want hgs
      rw [hgs] at hg
      split at h1
      · rename_i b hb
        obtain ⟨c, hcr, hp⟩ := id hcc
        have hw := guard_wanted hg hcr.fr hb
        split at h1
        · rename_i hbw
          rw [hw, if_pos (by simpa using hbw)]
          exact .inl (wp_step hco hn next hcc h1)
        · rename_i hbw
          rw [hw, if_neg (by simpa using hbw)]
          refine next ⟨putF S.t ao.dst (.tup []), S.m, S.n⟩ _ _ h1 ?_ (Nat.le_refl _)
          rw [hd]
          exact conc_put hcr hp hn hdk (.inl (rel_undef _ _)) hcr.mr (Step.refl _ _ _) (fun _ h => .inl h) (fun _ _ => rfl) (fun _ _ h => h) hcr.free rfl
      · rename_i cs hb
        obtain ⟨c, hcr, hp⟩ := hcc
        have hw := guard_tup hg hcr.fr hb
        rw [hw, if_neg (by simp)]
        refine next ⟨putF S.t ao.dst (.tup []), S.m, S.n⟩ _ _ h1 ?_ (Nat.le_refl _)
        rw [hd]
        exact conc_put hcr hp hn hdk (.inl (rel_undef _ _)) hcr.mr (Step.refl _ _ _) (fun _ h => .inl h) (fun _ _ => rfl) (fun _ _ h => h) hcr.free rfl
      · exact h1.elim
theorem awp_region_any {n0 : Nat} {S : St} {Q : Exit → St → Prop} {id : Nat} {al : List AOper} (hm : P.follows .mixedOrders = true) (hc : cOpers P ops k ops.toList = some al) (hn : n0 ≤ S.n)
    (h : runAny P al (masksOf ops) (fun S' => Q .normal S') (masksOf ops).length 0 S) : AWP P n0 k (.region id ops true) S Q := by
  intro E hE a w hcc
  refine wp_region_any hm ?_
  have hconc : Conc E k S a { w with drawn := w.drawn + 1 } := conc_drew hcc rfl rfl rfl rfl
  have hlen : (masksOf ops).length = ops.size := by simp [masksOf]
  rw [hlen] at h
  refine runAny_sound hc (K := fun S' => Q .normal S') (fun S' a' w' h1 h2 => ⟨S', h1, h2⟩) ops.size 0 _ S a _ (by simp) (fun i => ?_) (hE ▸ hn) hconc h
  rw [Nat.zero_testBit, Array.getD_eq_getD_getElem?]
  by_cases hi : i < ops.size
  · simp [hi]
  · rw [Array.getElem?_eq_none (by simpa using Nat.le_of_not_lt hi)]
    rfl
theorem bwp_region_any {n0 : Nat} {S : St} {Q : Exit → St → Prop} {al : List AOper} {ms : List Nat} (hm : P.follows .mixedOrders = true) (hn : decide (n0 ≤ S.n) = true) (h : runAny P al ms (fun S' => Q .normal S') ms.length 0 S) :
    BWP P n0 k (.region true al ms) S Q := by
  intro code hc
  cases code with
  | region id ops draw =>
    simp only [cCode] at hc
    split at hc
    · rename_i al' hal
      split at hc
      · rename_i hd
        split at hc
        · cases hc
          subst hd
          exact awp_region_any hm hal (of_decide_eq_true hn) h
        · cases hc
      · cases hc
    · cases hc
  | cond c a b => simp only [cCode] at hc; repeat' split at hc
                  all_goals cases hc
  | seq a b => simp only [cCode] at hc; repeat' split at hc
               all_goals cases hc
  | _ => simp [cCode] at hc
theorem runAny_step {al : List AOper} {ms : List Nat} {K : St → Prop} {f L : Nat} {S : St} (l : List Nat) (hl : readyM ms L = l) (hne : l ≠ []) (h : ∀ i ∈ l, match al[i]? with
    | some ao => stepG P ao S (runAny P al ms K f (L ||| 2 ^ i))
    | none => False) : runAny P al ms K (f + 1) L S := by
  subst hl
  exact ⟨fun h0 => absurd h0 hne, h⟩
theorem runAny_done {al : List AOper} {ms : List Nat} {K : St → Prop} {f L : Nat} {S : St} (hl : readyM ms L = []) (h : K S) : runAny P al ms K f L S := by
  cases f with
  | zero => exact ⟨hl, h⟩
  | succ f => exact ⟨fun _ => h, fun i hi => by rw [hl] at hi; cases hi⟩
theorem stepG_run {o : AOper} {S : St} {K : St → Prop} (h : runOps P [o] S K) : stepG P o S K := by
  unfold stepG
  simp only [runOps] at h
  exact h
theorem runAny_one {al : List AOper} {ms : List Nat} {K : St → Prop} {f L i : Nat} {S : St} {ao : AOper} (hl : readyM ms L = [i]) (ha : al[i]? = some ao) (h : runOps P [ao] S (runAny P al ms K f (L ||| 2 ^ i))) : runAny P al ms K (f + 1) L S := by
  refine runAny_step [i] hl (by simp) ?_
  intro j hj
  simp only [List.mem_cons, List.not_mem_nil, or_false] at hj
  subst hj
  rw [ha]
  exact stepG_run h
theorem runAny_two {al : List AOper} {ms : List Nat} {K : St → Prop} {f L i j : Nat} {S : St} {ao bo : AOper} (hl : readyM ms L = [i, j]) (ha : al[i]? = some ao) (hb : al[j]? = some bo)
    (h : runOps P [ao] S (runAny P al ms K f (L ||| 2 ^ i))) (h' : runOps P [bo] S (runAny P al ms K f (L ||| 2 ^ j))) : runAny P al ms K (f + 1) L S := by
  refine runAny_step [i, j] hl (by simp) ?_
  intro k hk
  simp only [List.mem_cons, List.not_mem_nil, or_false] at hk
  rcases hk with rfl | rfl
  · rw [ha]; exact stepG_run h
  · rw [hb]; exact stepG_run h'
end
end Go.Jq

/- The document's reader: look, is, go1, fail, eat. -/
namespace Go.Proofs.YtpfbljkfbjjlkaaGreatDoor
open Go Go.Jq
set_option maxRecDepth 100000
set_option linter.unusedSimpArgs false
end Go.Proofs.YtpfbljkfbjjlkaaGreatDoor

/- The document's reader: words, numbers, names, operands. -/
namespace Go.Proofs.YtpfbljkfbjjlkaaGreatDoor
open Go Go.Jq
set_option maxRecDepth 100000
set_option linter.unusedSimpArgs false
end Go.Proofs.YtpfbljkfbjjlkaaGreatDoor

/- The document's reader: instructions. -/
namespace Go.Proofs.YtpfbljkfbjjlkaaGreatDoor
open Go Go.Jq
set_option maxRecDepth 100000
set_option linter.unusedSimpArgs false
def z9 : List AV := [.d (.int .i64 0), .d (.int .i64 0), .d (.int .i64 0), .d (.int .i64 0), .d (.int .i64 0), .d (.int .i64 0), .d (.int .i64 0), .d (.int .i64 0), .d (.int .i64 0)]
end Go.Proofs.YtpfbljkfbjjlkaaGreatDoor

/- The document's reader: atoms. -/
namespace Go.Proofs.YtpfbljkfbjjlkaaGreatDoor
open Go Go.Jq
set_option maxRecDepth 100000
set_option linter.unusedSimpArgs false
def z4 : List AV := [.d (.int .i64 0), .d (.int .i64 0), .d (.int .i64 0), .d (.int .i64 0)]
end Go.Proofs.YtpfbljkfbjjlkaaGreatDoor

/- The document's reader once it has an error: nothing changes. -/
namespace Go.Proofs.YtpfbljkfbjjlkaaGreatDoor
open Go Go.Jq
set_option maxRecDepth 100000
set_option linter.unusedSimpArgs false
section
variable {s : List UInt8} {r : RSt} (hc : ¬ r.code = 0)
include hc
end
end Go.Proofs.YtpfbljkfbjjlkaaGreatDoor

/- The parser's threads. -/
namespace Go.Proofs.YtpfbljkfbjjlkaaGreatDoor
open Go Go.Jq
set_option maxRecDepth 100000
set_option linter.unusedSimpArgs false
structure TI (s : List UInt8) (σ0 : PR Nat) (f0 : Nat) (acc : List (List Ins)) (q : PSt) (σ : PR Nat) (f : Nat) : Prop where
  ps : PS s σ q
  to : ∀ l qf, PQ s (thn σ ((tThreads f).run s)) l qf → PQ s (thn σ0 ((tThreads f0).run s)) (acc ++ l) qf
  fuel : ∀ a, σ = .ok a → s.length - a < f
  len : acc.length + f ≤ f0 ∨ (∃ e, σ = .error e) ∧ acc.length ≤ f0
  rows : ∀ l ∈ acc, l.length ≤ 4001
theorem TI.next {s : List UInt8} {σ0 : PR Nat} {f0 : Nat} {acc : List (List Ins)} {q : PSt} {σ : PR Nat} {f : Nat} (h : TI s σ0 f0 acc q σ f) (hb : tkB q wThread = true) {x : List Ins} (hx : x.length ≤ 4001) {q' : PSt} (hq : PQ s (thn (thn σ (eatW s)) (tThread.run s)) x q') :
    ∃ f', f = f' + 1 ∧ TI s σ0 f0 (acc ++ [x]) q' (posR (thn (thn σ (eatW s)) (tThread.run s))) f' := by
  obtain ⟨a, rfl, h4⟩ := tkB_ok h.ps hb
  have hf := h.fuel a rfl
  obtain ⟨f', rfl⟩ : ∃ f', f = f' + 1 := ⟨f - 1, by omega⟩
  refine ⟨f', rfl, ⟨hq.ps, fun l qf hl => ?_, fun b hb' => ?_, ?_, fun l hl => ?_⟩⟩
  · have : PQ s (thn (.ok a) ((tThreads (f' + 1)).run s)) (x :: l) qf := PQ.take_yes h.ps hb (PQ.bind hq (PQ.bind hl (PQ.ret hl.ps)))
    have := h.to _ _ this
    simpa using this
  · obtain ⟨y, hy⟩ := posR_ok hb'
    obtain ⟨c, hc, hy'⟩ := thn_ok hy
    have h1 := eatW_lt h.ps.1 h.ps.2.1 h4 hc
    have h2 := tThread.run_le h1.2 hy'
    omega
  · rcases h.len with hl | ⟨⟨e, he⟩, _⟩
    · left
      simp only [List.length_append, List.length_cons, List.length_nil]
      omega
    · cases he
  · rcases List.mem_append.1 hl with h' | h'
    · exact h.rows l h'
    · simp only [List.mem_cons, List.not_mem_nil, or_false] at h'
      subst h'
      exact hx
theorem TI.done {s : List UInt8} {σ0 : PR Nat} {f0 : Nat} {acc : List (List Ins)} {q : PSt} {σ : PR Nat} {f : Nat} (h : TI s σ0 f0 acc q σ f) (hb : tkB q wThread = false) : PQ s (thn σ0 ((tThreads f0).run s)) acc q := by
  have : PQ s (thn σ ((tThreads f).run s)) [] q := by
    cases σ with
    | error e => exact h.ps
    | ok a =>
      have hf := h.fuel a rfl
      obtain ⟨f', rfl⟩ : ∃ f', f = f' + 1 := ⟨f - 1, by omega⟩
      exact PQ.take_no h.ps hb (PQ.ret h.ps)
  have := h.to _ _ this
  simpa using this
theorem TI.start {s : List UInt8} {σ : PR Nat} {q : PSt} (hs : s.length ≤ 4000) (h : PS s σ q) : TI s σ fuelP [] q σ fuelP :=
  ⟨h, fun l qf hl => hl, fun a _ => by unfold fuelP; omega, .inl (by simp), fun l hl => by cases hl⟩
theorem TI.short {s : List UInt8} {σ0 σ : PR Nat} {acc : List (List Ins)} {q : PSt} {f : Nat} (h : TI s σ0 fuelP acc q σ f) : acc.length ≤ 4001 := by
  rcases h.len with h | h
  · unfold fuelP at h; omega
  · exact h.2
def thrC (ts : List (List Ins)) : List DV := ts.map (slD Ins.cells)
theorem thrC_len (ts : List (List Ins)) : (thrC ts).length = ts.length := by simp [thrC]
theorem thrC_snoc (ts : List (List Ins)) (l : List Ins) : thrC (ts ++ [l]) = thrC ts ++ [slD Ins.cells l] := by simp [thrC]
def thrD (ts : List (List Ins)) : DV := .sl ts.length (thrC ts)
def ptS (s : List UInt8) (nm : List UInt8) (I : DV) (ts : List (List Ins)) (q : PSt) : St :=
  ⟨[(5, .ptr 0 0), (6, .ptr 2 0), (2, .ptr 4 0), (3, .ptr 5 0)], [(0, parC q), (1, lexQ s q), (2, [.d (.str nm), .d I, .sl 3 1 0 ts.length, .d (.int .i64 0), .d (.sl 0 [])]), (3, (thrC ts).map .d), (4, [.d (.str []), .d .nsl, .d .nsl, .d (.int .i64 0), .d .nsl]), (5, [.d (.int .i64 0), .d (.int .i64 0)])], 6⟩
set_option maxHeartbeats 32000000 in
theorem ppa_loop {s : List UInt8} (hs : s.length ≤ 4000) {nm : List UInt8} {I : DV} {σ0 : PR Nat} {q0 : PSt} (h0 : PS s σ0 q0) {Q : Exit → St → Prop}
    (hQ : ∀ acc q', acc.length ≤ 4001 → (∀ l ∈ acc, l.length ≤ 4001) → PQ s (thn σ0 ((tThreads fuelP).run s)) acc q' → Q (.exit 0) (ptS s nm I acc q')) :
    BWP Tryz.prog (mbound []) 77 (.loop ac9L0) (ptS s nm I [] q0) Q := by
  have hs' : s.length ≤ 140737488351232 := by omega
  refine bwp_fam (ι := { p : List (List Ins) × PSt × PR Nat × Nat // TI s σ0 fuelP p.1 p.2.1 p.2.2.1 p.2.2.2 }) (fun p => ptS s nm I p.1.1 p.1.2.1) (fun p => if p.1.2.1.code = 0 then p.1.2.2.2 + 1 else 0) ⟨([], q0, σ0, fuelP), TI.start hs h0⟩ ?_
  rintro ⟨⟨acc, q, σ, f⟩, hI⟩
  simp only at hI ⊢
  unfold ac9L0 ptS
  have hshort := hI.short
  have hcl : ((thrC acc).map AV.d).length = acc.length := by rw [List.length_map, thrC_len]
  have hcr : ∀ π, renL π ((thrC acc).map AV.d) = (thrC acc).map .d := fun π => renL_d _ _
  have hb1 : (acc.length + 1) * 24 ≤ 140737488351232 := by omega
  generalize hcs : (thrC acc).map AV.d = cs at *
  refine bwp_seq fun K1 hK1 => ?_
  refine bwp_seq fun K hK => bwp_region rfl ?_
  simp only [go_sem, ↓reduceIte]
  refine ptake_callK hs' hI.ps wThread rfl rfl ?_
  intro q1 hy hn
  cases hb : tkB q wThread with
  | false =>
    have hq1 := hn hb
    subst hq1
    simp only [go_sem, ↓reduceIte, mset]
    refine hK _ ?_; clear hK
    refine bwp_cond false (by simp [ev, fget]) (fun h => nomatch h) (fun _ => ?_)
    refine bwp_leads (S' := ptS s nm I acc q1) (Leads.ent [(0, 0), (1, 1), (2, 2), (3, 3), (4, 4), (5, 5)] ⟨by simp [ptS, entT, fget, AV.ren, renL, pget], ?_, rfl, rfl⟩) ?_
    · simp [ptS, entM, pinv, mget, mset, renL, AV.ren, pget, renL_append, -List.map_map, parC, lexQ, lexC, hcs, hcr]
    exact bwp_exit (hQ acc q1 hshort hI.rows (hI.done hb))
  | true =>
    have h1 := hy hb
    have hc : q.code = 0 := by
      obtain ⟨a, ha, _⟩ := tkB_ok hI.ps hb
      have := hI.ps
      rw [ha] at this
      exact this.code
    simp only [go_sem, ↓reduceIte, mset]
    refine hK _ ?_; clear hK
    refine bwp_cond true (by simp [ev, fget]) (fun _ => ?_) (fun h => nomatch h)
    refine bwp_skip ?_
    refine hK1 _ ?_; clear hK1
    refine bwp_block ?_
    refine bwp_region_any rfl rfl ?_
    repeat' (first
      | (refine runAny_two rfl rfl rfl ?_ ?_ <;> simp only [go_sem, ↓reduceIte, Nat.reduceEqDiff, Nat.reduceAdd, Nat.reduceLeDiff, Nat.reduceMul, Nat.reduceSub, Int.reduceLE, Int.reduceLT, Int.reduceEq, Int.reduceToNat, Int.reducePow, Int.reduceNeg, mset, hcl, hb1, List.length_append, List.length_map, List.length_cons, List.length_nil])
      | (refine runAny_one rfl rfl ?_; simp only [go_sem, ↓reduceIte, Nat.reduceEqDiff, Nat.reduceAdd, Nat.reduceLeDiff, Nat.reduceMul, Nat.reduceSub, Int.reduceLE, Int.reduceLT, Int.reduceEq, Int.reduceToNat, Int.reducePow, Int.reduceNeg, mset, hcl, hb1, List.length_append, List.length_map, List.length_cons, List.length_nil])
      | (refine pthread_callK hs h1 rfl rfl ?_; intro l q2 hl h2; simp only [go_sem, ↓reduceIte, Nat.reduceEqDiff, Nat.reduceAdd, Nat.reduceLeDiff, Nat.reduceMul, Nat.reduceSub, Int.reduceLE, Int.reduceLT, Int.reduceEq, Int.reduceToNat, Int.reducePow, Int.reduceNeg, mset, hcl, hb1, List.length_append, List.length_map, List.length_cons, List.length_nil]))
    all_goals refine runAny_done rfl ?_
    all_goals
      obtain ⟨f', rfl, hN⟩ := hI.next hb hl h2
      have hsn := thrC_snoc acc l
      refine ⟨⟨(acc ++ [l], q2, _, f'), hN⟩, ?_, ?_⟩
      · simp only [hc, if_true]
        split <;> omega
      · refine Leads.ent [(0, 0), (1, 1), (2, 2), (11, 3), (4, 4), (5, 5)] ⟨by simp [entT, fget, AV.ren, renL, pget], ?_, rfl, rfl⟩
        simp only [hsn, List.map_append, hcs]
        simp [entM, pinv, mget, mset, renL, AV.ren, pget, renL_append, -List.map_map, parC, lexQ, lexC, hcr]
theorem pcond_callK {s : List UInt8} (hs : s.length ≤ 4000) {σ : PR Nat} {q : PSt} (h : PS s σ q) (kind : Int) {dst : Option Nat} {ops : List AOper} {K : St → Prop} {t : Fr} {m : Mem} {n : Nat} (hm0 : mget m 0 = some (parC q)) (hm1 : mget m 1 = some (lexQ s q))
    (hk : ∀ (rows : List (List Atom)) q', (rows.length ≤ 4002 ∧ ∀ l ∈ rows, l.length ≤ 4002) → PQ s (thn σ ((tAsk kind).run s)) (kind, rows) q' → runOps Tryz.prog ops ⟨putF t dst (.agg [.d (.int .i64 kind), .d (rowsD rows)]), mset (mset m 0 (parC q')) 1 (lexQ s q'), n + 2⟩ K) : callK Tryz.prog 35 [.ptr 0 0, .d (.int .i64 kind)] dst ops K t m n := by
  refine par_callK (rest := [.d (.int .i64 kind)]) (Q := fun r q' => ∃ rows : List (List Atom), (rows.length ≤ 4002 ∧ ∀ l ∈ rows, l.length ≤ 4002) ∧ r = .agg [.d (.int .i64 kind), .d (rowsD rows)] ∧ PQ s (thn σ ((tAsk kind).run s)) (kind, rows) q') (pcond_calls hs h kind) rfl ?_ hm0 hm1 ?_
  · rintro _ _ ⟨_, _, rfl, _⟩; rfl
  · rintro _ q' ⟨l, h1, rfl, h⟩; exact hk l q' h1 h
theorem pnext0_calls {s : List UInt8} (hs : s.length ≤ 140737488351232) :
    ACalls Tryz.prog 29 [.ptr 0 0] [(0, parC ⟨noTok, 0, 0, 0, 0, 0, 0⟩), (1, lexQ s ⟨noTok, 0, 0, 0, 0, 0, 0⟩)] fun r m' => ∃ q', m' = [(0, parC q'), (1, lexQ s q')] ∧ (r = .tup [] ∧ PS s (goW s 0) q') := by
  refine acalls_of Tryz.func29 ac29_ok Tryz.ntmps29 Tryz.results29 rfl ?_
  unfold ac29
  refine bwp_seq fun K hK => bwp_region rfl ?_
  simp only [go_sem, ↓reduceIte, parC]
  refine hK _ ?_; clear hK
  refine bwp_cond true (by simp [ev, fget]) (fun _ => ?_) (fun h => nomatch h)
  refine bwp_region rfl ?_
  simp only [go_sem, ↓reduceIte]
  refine next_callK hs (Nat.zero_le _) ⟨Nat.le_refl _, Nat.zero_le _⟩ rfl ?_
  intro rd' hrd'
  by_cases h0 : (nextW s 0).2.2 = 0
  · have he : nextW s 0 = ((nextW s 0).1, (nextW s 0).2.1, 0) := by rw [← h0]
    have hee : errAt s 0 = 0 := by unfold errAt; rw [if_pos h0]
    have hgo : goW s 0 = .ok 0 := by unfold goW; rw [if_pos h0]
    rw [nxR_ok he, hee, h0]
    simp only [go_sem, ↓reduceIte, mset, lexQ, lexC]
    refine ⟨.tup [], rfl, [(0, 0), (1, 1)], [(0, parC ⟨(nextW s 0).1, 0, 0, (nextW s 0).2.1, rd', 0, 0⟩), (1, lexQ s ⟨(nextW s 0).1, 0, 0, (nextW s 0).2.1, rd', 0, 0⟩)], rfl, rfl, ?_, ⟨_, rfl, rfl, ?_⟩⟩
    · simp [entM, pinv, mget, mset, renL, AV.ren, parC, lexQ, lexC, pget]
    · rw [hgo]
      exact ⟨Nat.zero_le _, h0, rfl, rfl, rfl, rfl, hrd'.2.2.1, hrd'.2.1, rfl, rfl⟩
  · have hbad := curT_noTok h0
    have hgo : goW s 0 = .error ((nextW s 0).2.2, skipA s 0) := by unfold goW; rw [if_neg h0]
    have hee : errAt s 0 = skipA s 0 := by unfold errAt; rw [if_neg h0]
    rw [nxR_bad h0 hbad, hee]
    simp only [go_sem, ↓reduceIte, mset, lexQ, lexC]
    refine ⟨.tup [], rfl, [(0, 0), (1, 1)], [(0, parC ⟨noTok, (nextW s 0).2.2, skipA s 0, (nextW s 0).2.1, rd', (nextW s 0).2.2, skipA s 0⟩), (1, lexQ s ⟨noTok, (nextW s 0).2.2, skipA s 0, (nextW s 0).2.1, rd', (nextW s 0).2.2, skipA s 0⟩)], rfl, rfl, ?_, ⟨_, rfl, rfl, ?_⟩⟩
    · simp [entM, pinv, mget, mset, renL, AV.ren, parC, lexQ, lexC, pget, noTok]
    · rw [hgo]
      exact ⟨rfl, h0, rfl, (fun h => by cases h), Nat.zero_le _⟩
theorem pnext0_callK {s : List UInt8} (hs : s.length ≤ 140737488351232) {dst : Option Nat} {ops : List AOper} {K : St → Prop} {t : Fr} {m : Mem} {n : Nat} (hm0 : mget m 0 = some (parC ⟨noTok, 0, 0, 0, 0, 0, 0⟩)) (hm1 : mget m 1 = some (lexQ s ⟨noTok, 0, 0, 0, 0, 0, 0⟩))
    (hk : ∀ q', PS s (goW s 0) q' → runOps Tryz.prog ops ⟨putF t dst (.tup []), mset (mset m 0 (parC q')) 1 (lexQ s q'), n + 2⟩ K) : callK Tryz.prog 29 [.ptr 0 0] dst ops K t m n := by
  refine par_callK (rest := []) (Q := fun r q' => r = .tup [] ∧ PS s (goW s 0) q') (pnext0_calls hs) rfl ?_ hm0 hm1 ?_
  · rintro _ _ ⟨rfl, _⟩; rfl
  · rintro _ q' ⟨rfl, h⟩; exact hk q' h
theorem pTest_eq {s : List UInt8} (h : s.length ≤ 4000) : pTest s = match thn (goW s 0) (tTest.run s) with
    | .ok (t, _) => .ok t
    | .error e => .error e := by
  unfold pTest
  rw [if_neg (by omega)]
  cases goW s 0 <;> rfl
def testD (t : Test) : List DV := [.str t.name, slD Init.cells t.inits, thrD t.threads, .int .i64 t.kind, rowsD t.rows]
def testD0 : List DV := [.str [], .nsl, .nsl, .int .i64 0, .nsl]
def parseV : PR Test → AV
  | .ok t => .tup [.agg ((testD t).map .d), .agg [.d (.int .i64 0), .d (.int .i64 0)]]
  | .error e => .tup [.agg (testD0.map .d), .agg [.d (.int .i64 e.1), .d (.int .i64 e.2)]]
end Go.Proofs.YtpfbljkfbjjlkaaGreatDoor

/- The document's reader: its loops over what locations begin with, and over instructions. -/
namespace Go.Proofs.YtpfbljkfbjjlkaaGreatDoor
open Go Go.Jq
set_option maxRecDepth 100000
set_option linter.unusedSimpArgs false
end Go.Proofs.YtpfbljkfbjjlkaaGreatDoor

/- The document's reader: its loop over threads. -/
namespace Go.Proofs.YtpfbljkfbjjlkaaGreatDoor
open Go Go.Jq
set_option maxRecDepth 100000
set_option linter.unusedSimpArgs false
end Go.Proofs.YtpfbljkfbjjlkaaGreatDoor

/- The document's reader: its loop over a condition's atoms. -/
namespace Go.Proofs.YtpfbljkfbjjlkaaGreatDoor
open Go Go.Jq
set_option maxRecDepth 100000
set_option linter.unusedSimpArgs false
end Go.Proofs.YtpfbljkfbjjlkaaGreatDoor

/- parse.Parse. -/
namespace Go.Proofs.YtpfbljkfbjjlkaaGreatDoor
open Go Go.Jq
set_option maxRecDepth 100000
set_option linter.unusedSimpArgs false
theorem PQ.fin {α : Type} {s : List UInt8} {τ : PR (α × Nat)} {x : α} {q : PSt} (h : PQ s τ x q) : (q.code = 0 ∧ ∃ b, τ = .ok (x, b)) ∨ (∃ e, τ = .error e ∧ q.code = e.1 ∧ e.1 ≠ 0 ∧ q.eat = e.2) := by
  cases τ with
  | ok p =>
    obtain ⟨y, b⟩ := p
    obtain ⟨rfl, h⟩ := h
    exact .inl ⟨h.code, b, rfl⟩
  | error e => exact .inr ⟨e, rfl, h.1, h.2.1, h.2.2.1⟩
def pzS (s : List UInt8) (t : Test) (q : PSt) : St :=
  ⟨[(5, .ptr 0 0), (6, .ptr 2 0), (2, .ptr 4 0), (3, .ptr 5 0)], [(0, parC q), (1, lexQ s q), (2, (testD t).map .d), (4, testD0.map .d), (5, [.d (.int .i64 0), .d (.int .i64 0)])], 6⟩
set_option maxHeartbeats 32000000 in
theorem parse1_pure {s : List UInt8} (hs : s.length ≤ maxLen) : Pure Tryz.prog 9 [.d (.str s)] (parseV (pTest s)) := by
  have h54 : ldk Tryz.prog 30 = some (some 5) := by kernel_rfl
  have h26 : ldk Tryz.prog 35 = some (some 2) := by kernel_rfl
  have kl := long_pure s
  have hin : ∀ r, (parseV r).ren (fun _ => none) = parseV r := by
    intro r
    cases r <;> simp [parseV, AV.ren, renL, testD, testD0]
  refine acalls_of Tryz.func9 ac9_ok Tryz.ntmps9 Tryz.results9 rfl ?_
  unfold ac9
  refine bwp_seq fun K hK => bwp_region rfl ?_
  simp only [go_sem, ↓reduceIte]
  refine hK _ ?_; clear hK
  refine bwp_seq fun K1 hK1 => ?_
  by_cases hl : 4000 < s.length
  · unfold longV at kl
    rw [if_pos hl] at kl
    refine bwp_seq fun K hK => bwp_region rfl ?_
    simp only [go_sem, ↓reduceIte]
    repeat' (first
      | (refine gateK_split (fun hb => ?_) (fun hb => ?_) <;> simp only [go_sem, ↓reduceIte, hb])
      | (refine dGateK_split (fun hb => ?_) (fun hb => ?_) <;> simp only [go_sem, ↓reduceIte, hb])
      | (refine callK_pure (kl) rfl rfl ?_; simp only [go_sem, ↓reduceIte])
      | (refine dCallK_pure (kl) rfl rfl ?_; simp only [go_sem, ↓reduceIte])
      | (rw [if_pos (by (try simp only [List.length_append, List.length_cons, List.length_nil, List.length_map]); omega)]; simp only [go_sem, ↓reduceIte]))
    refine hK _ ?_; clear hK
    refine bwp_seq fun K hK => bwp_region rfl ?_
    simp only [go_sem, ↓reduceIte]
    refine hK _ ?_; clear hK
    refine bwp_cond true (by simp [ev, fget]) (fun _ => ?_) (fun h => nomatch h)
    refine bwp_seq fun K hK => bwp_region_draw rfl rfl ?_
    simp only [go_sem, ↓reduceIte]
    refine ⟨rfl, hK _ ?_⟩; clear hK
    refine bwp_ret ?_
    simp only [go_sem, ↓reduceIte]
    refine aend_ret (parseV (pTest s)) ?_ (hin _) ⟨rfl, rfl⟩
    have : pTest s = .error (2, 4000) := by unfold pTest; rw [if_pos hl]
    rw [this]
    simp [resA, resVs, resV, fget, mget, mset, loadA, h54, h26, parseV, testD0]
  have hs4 : s.length ≤ 4000 := by omega
  have hs' : s.length ≤ 140737488351232 := by omega
  unfold longV at kl
  rw [if_neg hl] at kl
  refine bwp_seq fun K hK => bwp_region rfl ?_
  simp only [go_sem, ↓reduceIte]
  repeat' (first
    | (refine gateK_split (fun hb => ?_) (fun hb => ?_) <;> simp only [go_sem, ↓reduceIte, hb])
    | (refine dGateK_split (fun hb => ?_) (fun hb => ?_) <;> simp only [go_sem, ↓reduceIte, hb])
    | (refine callK_pure (kl) rfl rfl ?_; simp only [go_sem, ↓reduceIte])
    | (refine dCallK_pure (kl) rfl rfl ?_; simp only [go_sem, ↓reduceIte])
    | (rw [if_pos (by (try simp only [List.length_append, List.length_cons, List.length_nil, List.length_map]); omega)]; simp only [go_sem, ↓reduceIte]))
  refine hK _ ?_; clear hK
  refine bwp_seq fun K hK => bwp_region rfl ?_
  simp only [go_sem, ↓reduceIte]
  refine hK _ ?_; clear hK
  refine bwp_cond false (by simp [ev, fget]) (fun h => nomatch h) (fun _ => ?_)
  refine bwp_skip ?_
  refine hK1 _ ?_; clear hK1
  refine bwp_seq fun K hK => bwp_region rfl ?_
  simp only [go_sem, ↓reduceIte]
  refine new_callK s ?_
  simp only [go_sem, ↓reduceIte, mset]
  refine hK _ ?_; clear hK
  refine bwp_leads (S' := ⟨[(5, .ptr 0 0), (2, .ptr 2 0), (3, .ptr 3 0)], [(0, parC ⟨noTok, 0, 0, 0, 0, 0, 0⟩), (1, lexQ s ⟨noTok, 0, 0, 0, 0, 0, 0⟩), (2, testD0.map .d), (3, [.d (.int .i64 0), .d (.int .i64 0)])], 4⟩) (Leads.ent [(4, 0), (3, 1), (0, 2), (1, 3)] ⟨by simp [entT, fget, AV.ren, renL, pget, parC, lexQ, lexC, noTok, testD0], by simp [entM, pinv, mget, mset, renL, AV.ren, pget, renL_append, -List.map_map, parC, lexQ, lexC, noTok, testD0], rfl, rfl⟩) ?_
  refine bwp_seq fun K hK => bwp_region rfl ?_
  simp only [go_sem, ↓reduceIte]
  refine pnext0_callK hs' rfl rfl ?_
  intro q1 h1
  simp only [go_sem, ↓reduceIte, mset]
  refine hK _ ?_; clear hK
  refine bwp_seq fun K hK => bwp_region rfl ?_
  simp only [go_sem, ↓reduceIte]
  refine hK _ ?_; clear hK
  refine bwp_leads (S' := ⟨[(5, .ptr 0 0), (6, .ptr 2 0), (2, .ptr 4 0), (3, .ptr 5 0)], [(0, parC q1), (1, lexQ s q1), (2, testD0.map .d), (4, testD0.map .d), (5, [.d (.int .i64 0), .d (.int .i64 0)])], 6⟩) (Leads.ent [(0, 0), (1, 1), (6, 2), (2, 4), (3, 5)] ⟨by simp [entT, fget, AV.ren, renL, pget, parC, lexQ, lexC, testD0], by simp [entM, pinv, mget, mset, renL, AV.ren, pget, renL_append, -List.map_map, parC, lexQ, lexC, testD0], rfl, rfl⟩) ?_
  refine bwp_leads (Leads.nilCell 2 1 2 rfl rfl rfl rfl) ?_
  refine bwp_leads (Leads.nilCell 2 4 1 rfl rfl rfl rfl) ?_
  refine bwp_leads (Leads.nilCell 2 2 1 rfl rfl rfl rfl) ?_
  refine bwp_leads (Leads.frz (S' := ⟨[(5, .ptr 0 0), (6, .ptr 2 0), (2, .ptr 4 0), (3, .ptr 5 0)], [(0, parC q1), (1, lexQ s q1), (2, [.d (.str []), .d (.sl 0 []), .sl 3 1 0 0, .d (.int .i64 0), .d (.sl 0 [])]), (3, []), (4, testD0.map .d), (5, [.d (.int .i64 0), .d (.int .i64 0)])], 6⟩) [(0, 0), (1, 1), (2, 2), (8, 3), (4, 4), (5, 5)] [(6, []), (7, [])] ⟨?_, ?_, rfl, rfl, ?_⟩) ?_
  · simp [frzT, fget, AV.cv, cvL, zget, pget]
  · simp [frzM, pinv, zget, mget, mset, cvL, AV.cv, parC, lexQ, lexC, pget, testD0]
  · simp [zokFrom, mget, mset, cvL]
  refine bwp_seq fun K hK => bwp_region rfl ?_
  simp only [go_sem, ↓reduceIte]
  refine pmust_callK hs' h1 wTest rfl rfl ?_
  intro q2 h2
  simp only [go_sem, ↓reduceIte, mset]
  refine hK _ ?_; clear hK
  refine bwp_seq fun K hK => bwp_region rfl ?_
  simp only [go_sem, ↓reduceIte]
  refine pword_callK hs' h2.ps rfl rfl ?_
  intro nm q3 h3
  simp only [go_sem, ↓reduceIte, mset]
  refine hK _ ?_; clear hK
  refine bwp_seq fun K hK => bwp_region rfl ?_
  simp only [go_sem, ↓reduceIte]
  refine pmust_callK hs' h3.ps [123] rfl rfl ?_
  intro q4 h4
  simp only [go_sem, ↓reduceIte, mset]
  refine hK _ ?_; clear hK
  generalize hσ4 : posR (thn (posR (thn (posR (thn (goW s 0) ((tMust wTest).run s))) (tWord.run s))) ((tMust [123]).run s)) = σ4
  have hps4 := h4.ps
  rw [hσ4] at hps4
  refine bwp_seq fun K1 hK1 => ?_
  have fin1 : ∀ (S : St) (l : List Init) (q : PSt), Leads (mbound []) 77 S (ptS s nm (slD Init.cells l) [] q) → PQ s (thn σ4 ((tTake wInit tInits (.ret [])).run s)) l q → K1 S := by
    intro S inits q5 hS h5
    refine hK1 _ ?_; clear hK1
    refine bwp_leads hS ?_
    refine bwp_seq fun K2 hK2 => ?_
    refine bwp_block ?_
    refine ppa_loop hs4 h5.ps ?_
    intro ts q6 hl6 hls6 h6
    unfold ptS
    simp only [go_sem, ↓reduceIte]
    refine hK2 _ ?_; clear hK2
    have hth : (thrC ts).length = ts.length := thrC_len ts
    have htk : (thrC ts).take ts.length = thrC ts := List.take_of_length_le (by omega)
    refine bwp_leads (Leads.frz (S' := ⟨[(5, .ptr 0 0), (6, .ptr 2 0), (2, .ptr 4 0), (3, .ptr 5 0)], [(0, parC q6), (1, lexQ s q6), (2, [.d (.str nm), .d (slD Init.cells inits), .d (thrD ts), .d (.int .i64 0), .d (.sl 0 [])]), (4, testD0.map .d), (5, [.d (.int .i64 0), .d (.int .i64 0)])], 6⟩) [(0, 0), (1, 1), (2, 2), (4, 4), (5, 5)] [(3, thrC ts)] ⟨?_, ?_, rfl, rfl, ?_⟩) ?_
    · simp [frzT, fget, AV.cv, cvL, zget, pget]
    · simp [frzM, pinv, zget, mget, mset, cvL, AV.cv, parC, lexQ, lexC, pget, testD0, thrD, htk]
    · simp [zokFrom, mget, mset, cvL_d]
    refine bwp_seq fun K2 hK2 => ?_
    refine bwp_block ?_
    have fin2 : ∀ (S : St) (c : Int × List (List Atom)) (q : PSt), Leads (mbound []) 77 S (pzS s ⟨nm, inits, ts, c.1, c.2⟩ q) → PQ s (thn (posR (thn (posR (thn σ4 ((tTake wInit tInits (.ret [])).run s))) ((tThreads fuelP).run s))) (tCond.run s)) c q → K2 S := by
      intro S c q7 hS h7
      refine hK2 _ ?_; clear hK2
      refine bwp_leads hS ?_
      unfold pzS
      refine bwp_seq fun K hK => bwp_region rfl ?_
      simp only [go_sem, ↓reduceIte]
      refine pmust_callK hs' h7.ps [125] rfl rfl ?_
      intro q8 h8
      simp only [go_sem, ↓reduceIte, mset]
      refine hK _ ?_; clear hK
      refine bwp_seq fun K3 hK3 => ?_
      have fin3 : ∀ (S : St) (q : PSt), Leads (mbound []) 77 S (pzS s ⟨nm, inits, ts, c.1, c.2⟩ q) → PQ s (thn (posR (thn (posR (thn (posR (thn (posR (thn σ4 ((tTake wInit tInits (.ret [])).run s))) ((tThreads fuelP).run s))) (tCond.run s))) ((tMust [125]).run s))) ((PT.cur fun d _ => if d = 4 then .ret (⟨nm, inits, ts, c.1, c.2⟩ : Test) else .bad 6).run s)) ⟨nm, inits, ts, c.1, c.2⟩ q → K3 S := by
        intro S q9 hS h9
        refine hK3 _ ?_; clear hK3
        refine bwp_leads hS ?_
        subst hσ4
        have hall : PQ s (thn (goW s 0) (tTest.run s)) ⟨nm, inits, ts, c.1, c.2⟩ q9 := PQ.bind h2 (PQ.bind h3 (PQ.bind h4 (PQ.bind h5 (PQ.bind h6 (PQ.bind h7 (PQ.bind h8 h9))))))
        unfold pzS
        refine bwp_seq fun K4 hK4 => ?_
        refine bwp_seq fun K hK => bwp_region rfl ?_
        simp only [go_sem, ↓reduceIte]
        refine pok_callK s q9 rfl rfl ?_
        have heq := pTest_eq hs4
        rcases hall.fin with ⟨hc, b, hb⟩ | ⟨e, he, hc, hne, hat⟩
        · rw [hb] at heq
          simp only at heq
          simp only [go_sem, ↓reduceIte, mset, eq_true hc, decide_true]
          refine hK _ ?_; clear hK
          refine bwp_cond false (by simp [ev, fget]) (fun h => nomatch h) (fun _ => ?_)
          refine bwp_skip ?_
          refine hK4 _ ?_; clear hK4
          refine bwp_seq fun K hK => bwp_region rfl ?_
          simp only [go_sem, ↓reduceIte, testD]
          refine hK _ ?_; clear hK
          refine bwp_ret ?_
          simp only [go_sem, ↓reduceIte]
          refine aend_ret (parseV (pTest s)) ?_ (hin _) ⟨rfl, rfl⟩
          rw [heq]
          simp [resA, resVs, resV, fget, mget, mset, loadA, h54, h26, parseV, testD, testD0]
        · rw [he] at heq
          simp only at heq
          have hc0 : ¬ q9.code = 0 := by rw [hc]; exact hne
          simp only [go_sem, ↓reduceIte, mset, eq_false hc0, decide_false]
          refine hK _ ?_; clear hK
          refine bwp_cond true (by simp [ev, fget]) (fun _ => ?_) (fun h => nomatch h)
          refine bwp_seq fun K hK => bwp_region_draw rfl rfl ?_
          simp only [go_sem, ↓reduceIte, parC]
          refine ⟨rfl, hK _ ?_⟩; clear hK
          refine bwp_ret ?_
          simp only [go_sem, ↓reduceIte]
          refine aend_ret (parseV (pTest s)) ?_ (hin _) ⟨rfl, rfl⟩
          rw [heq]
          simp [resA, resVs, resV, fget, mget, mset, loadA, h54, h26, parseV, testD0, hc, hat]
      refine bwp_seq fun K hK => bwp_region rfl ?_
      simp only [go_sem, ↓reduceIte]
      refine pok_callK s q8 rfl rfl ?_
      by_cases hc : q8.code = 0
      · by_cases h4 : q8.tok.kd = 4
        · simp only [go_sem, ↓reduceIte, mset, eq_true hc, eq_true h4, parC, decide_true]
          refine hK _ ?_; clear hK
          refine bwp_cond false (by simp [ev, fget]) (fun h => nomatch h) (fun _ => ?_)
          refine bwp_skip ?_
          refine fin3 _ q8 (Leads.ent [(0, 0), (1, 1), (2, 2), (4, 4), (5, 5)] ⟨by simp [pzS, entT, fget, AV.ren, renL, pget], by simp [pzS, entM, pinv, mget, mset, renL, AV.ren, pget, parC, lexQ, lexC, testD, testD0], rfl, rfl⟩) ?_
          refine PQ.cur h8.ps ?_
          rw [if_pos h4]
          exact PQ.ret h8.ps
        · simp only [go_sem, ↓reduceIte, mset, eq_true hc, eq_false h4, parC, decide_true]
          refine hK _ ?_; clear hK
          refine bwp_cond true (by simp [ev, fget]) (fun _ => ?_) (fun h => nomatch h)
          refine bwp_region rfl ?_
          simp only [go_sem, ↓reduceIte]
          refine pfail_callK s q8 6 rfl rfl ?_
          simp only [go_sem, ↓reduceIte, mset]
          refine fin3 _ (failF q8 6) (Leads.ent [(0, 0), (1, 1), (2, 2), (4, 4), (5, 5)] ⟨by simp [pzS, entT, fget, AV.ren, renL, pget], by simp [pzS, entM, pinv, mget, mset, renL, AV.ren, pget, parC, lexQ, lexC, testD, testD0], rfl, rfl⟩) ?_
          refine PQ.cur h8.ps ?_
          rw [if_neg h4]
          exact PQ.bad h8.ps (by decide) _
      · simp only [go_sem, ↓reduceIte, mset, eq_false hc, parC, decide_false]
        refine hK _ ?_; clear hK
        refine bwp_cond false (by simp [ev, fget]) (fun h => nomatch h) (fun _ => ?_)
        refine bwp_skip ?_
        refine fin3 _ q8 (Leads.ent [(0, 0), (1, 1), (2, 2), (4, 4), (5, 5)] ⟨by simp [pzS, entT, fget, AV.ren, renL, pget], by simp [pzS, entM, pinv, mget, mset, renL, AV.ren, pget, parC, lexQ, lexC, testD, testD0], rfl, rfl⟩) ?_
        have hp8 := h8.ps
        generalize posR (thn (posR (thn (posR (thn (posR (thn σ4 ((tTake wInit tInits (.ret [])).run s))) ((tThreads fuelP).run s))) (tCond.run s))) ((tMust [125]).run s)) = σ8 at hp8 ⊢
        cases σ8 with
        | ok a => exact absurd hp8.code hc
        | error e => exact hp8
    refine bwp_seq fun K hK => bwp_region rfl ?_
    simp only [go_sem, ↓reduceIte]
    refine ptake_callK hs' h6.ps wExists rfl rfl ?_
    intro q7 hy hn
    cases hb : tkB q6 wExists with
    | true =>
      have h7 := hy hb
      simp only [go_sem, ↓reduceIte, mset]
      refine hK _ ?_; clear hK
      refine bwp_cond true (by simp [ev, fget]) (fun _ => ?_) (fun h => nomatch h)
      refine bwp_region rfl ?_
      simp only [go_sem, ↓reduceIte]
      refine pcond_callK hs4 h7 1 rfl rfl ?_
      intro rows q8 hr h8
      simp only [go_sem, ↓reduceIte, mset]
      refine fin2 _ (1, rows) q8 (Leads.ent [(0, 0), (1, 1), (2, 2), (4, 4), (5, 5)] ⟨by simp [pzS, entT, fget, AV.ren, renL, pget], by simp [pzS, entM, pinv, mget, mset, renL, AV.ren, pget, parC, lexQ, lexC, testD, testD0, rowsD], rfl, rfl⟩) ?_
      exact PQ.take_yes h6.ps hb h8
    | false =>
      have h7 := hn hb
      subst h7
      simp only [go_sem, ↓reduceIte, mset]
      refine hK _ ?_; clear hK
      refine bwp_cond false (by simp [ev, fget]) (fun h => nomatch h) (fun _ => ?_)
      refine bwp_seq fun K hK => bwp_region rfl ?_
      simp only [go_sem, ↓reduceIte]
      refine ptake_callK hs' h6.ps wForall rfl rfl ?_
      intro q8 hy hn
      cases hb2 : tkB q7 wForall with
      | true =>
        have h8 := hy hb2
        simp only [go_sem, ↓reduceIte, mset]
        refine hK _ ?_; clear hK
        refine bwp_cond true (by simp [ev, fget]) (fun _ => ?_) (fun h => nomatch h)
        refine bwp_region rfl ?_
        simp only [go_sem, ↓reduceIte]
        refine pcond_callK hs4 h8 2 rfl rfl ?_
        intro rows q9 hr h9
        simp only [go_sem, ↓reduceIte, mset]
        refine fin2 _ (2, rows) q9 (Leads.ent [(0, 0), (1, 1), (2, 2), (4, 4), (5, 5)] ⟨by simp [pzS, entT, fget, AV.ren, renL, pget], by simp [pzS, entM, pinv, mget, mset, renL, AV.ren, pget, parC, lexQ, lexC, testD, testD0], rfl, rfl⟩) ?_
        exact PQ.take_no h6.ps hb (PQ.take_yes h6.ps hb2 h9)
      | false =>
        have h8 := hn hb2
        subst h8
        simp only [go_sem, ↓reduceIte, mset]
        refine hK _ ?_; clear hK
        refine bwp_cond false (by simp [ev, fget]) (fun h => nomatch h) (fun _ => ?_)
        refine bwp_skip ?_
        refine fin2 _ (0, []) q8 (Leads.ent [(0, 0), (1, 1), (2, 2), (4, 4), (5, 5)] ⟨by simp [pzS, entT, fget, AV.ren, renL, pget], by simp [pzS, entM, pinv, mget, mset, renL, AV.ren, pget, parC, lexQ, lexC, testD, testD0, rowsD, rowsC], rfl, rfl⟩) ?_
        exact PQ.take_no h6.ps hb (PQ.take_no h6.ps hb2 (PQ.ret h6.ps))
  refine bwp_seq fun K hK => bwp_region rfl ?_
  simp only [go_sem, ↓reduceIte]
  refine ptake_callK hs' hps4 wInit rfl rfl ?_
  intro q5 hy hn
  cases hb : tkB q4 wInit with
  | true =>
    have h5 := hy hb
    simp only [go_sem, ↓reduceIte, mset]
    refine hK _ ?_; clear hK
    refine bwp_cond true (by simp [ev, fget]) (fun _ => ?_) (fun h => nomatch h)
    refine bwp_region rfl ?_
    simp only [go_sem, ↓reduceIte]
    refine pinit_callK hs4 h5 rfl rfl ?_
    intro l q6 hl h6
    simp only [go_sem, ↓reduceIte, mset]
    refine fin1 _ l q6 (Leads.ent [(0, 0), (1, 1), (2, 2), (3, 3), (4, 4), (5, 5)] ⟨by simp [ptS, entT, fget, AV.ren, renL, pget], by simp [ptS, thrC, entM, pinv, mget, mset, renL, AV.ren, pget, parC, lexQ, lexC, testD, testD0], rfl, rfl⟩) ?_
    exact PQ.take_yes hps4 hb h6
  | false =>
    have h5 := hn hb
    subst h5
    simp only [go_sem, ↓reduceIte, mset]
    refine hK _ ?_; clear hK
    refine bwp_cond false (by simp [ev, fget]) (fun h => nomatch h) (fun _ => ?_)
    refine bwp_skip ?_
    refine fin1 _ [] q5 (Leads.ent [(0, 0), (1, 1), (2, 2), (3, 3), (4, 4), (5, 5)] ⟨by simp [ptS, entT, fget, AV.ren, renL, pget], by simp [ptS, slD, thrC, entM, pinv, mget, mset, renL, AV.ren, pget, parC, lexQ, lexC, testD, testD0], rfl, rfl⟩) ?_
    exact PQ.take_no hps4 hb (PQ.ret hps4)
end Go.Proofs.YtpfbljkfbjjlkaaGreatDoor

/- The document's reader: Tree. -/
namespace Go.Proofs.YtpfbljkfbjjlkaaGreatDoor
open Go Go.Jq
set_option maxRecDepth 100000
set_option linter.unusedSimpArgs false
end Go.Proofs.YtpfbljkfbjjlkaaGreatDoor

/- Two lists held against each other, plain. -/
namespace Go.Proofs.YtpfbljkfbjjlkaaGreatDoor
open Go Go.Jq
set_option maxRecDepth 100000
set_option linter.unusedSimpArgs false
def eqL {α : Type} (e : α → α → Bool) : List α → List α → Bool
  | [], [] => true
  | a :: l, b :: l' => e a b && eqL e l l'
  | _, _ => false
theorem eqL_len {α : Type} (e : α → α → Bool) : ∀ (l l' : List α), l.length ≠ l'.length → eqL e l l' = false
  | [], [], h => absurd rfl h
  | [], _ :: _, _ => rfl
  | _ :: _, [], _ => rfl
  | a :: l, b :: l', h => by
    simp only [eqL, eqL_len e l l' (by simpa using h), Bool.and_false]
theorem eqL_at {α : Type} (e : α → α → Bool) : ∀ (l l' : List α) (i : Nat) (h : i < l.length) (h' : i < l'.length), e l[i] l'[i] = false → eqL e l l' = false
  | [], _, i, h, _, _ => by simp at h
  | _ :: _, [], i, _, h', _ => by simp at h'
  | a :: l, b :: l', 0, _, _, he => by simp only [List.getElem_cons_zero] at he; simp [eqL, he]
  | a :: l, b :: l', i + 1, h, h', he => by
    simp only [List.getElem_cons_succ] at he
    simp [eqL, eqL_at e l l' i (by simpa using h) (by simpa using h') he]
theorem eqL_all {α : Type} (e : α → α → Bool) : ∀ (l l' : List α), l.length = l'.length → (∀ i (h : i < l.length) (h' : i < l'.length), e l[i] l'[i] = true) → eqL e l l' = true
  | [], [], _, _ => rfl
  | [], _ :: _, h, _ => by simp at h
  | _ :: _, [], h, _ => by simp at h
  | a :: l, b :: l', h, he => by
    have h0 := he 0 (by simp) (by simp)
    simp only [List.getElem_cons_zero] at h0
    simp only [eqL, h0, Bool.true_and]
    exact eqL_all e l l' (by simpa using h) fun i hi hi' => by
      have := he (i + 1) (by simpa using hi) (by simpa using hi')
      simpa using this
theorem eqL_iff {α : Type} {e : α → α → Bool} (h : ∀ a b, e a b = true ↔ a = b) : ∀ (l l' : List α), eqL e l l' = true ↔ l = l'
  | [], [] => by simp [eqL]
  | [], _ :: _ => by simp [eqL]
  | _ :: _, [] => by simp [eqL]
  | a :: l, b :: l' => by simp [eqL, h, eqL_iff h l l']
def eqInit (x y : Init) : Bool := decide (x.loc = y.loc) && (decide (x.value = y.value) && true)
def eqAtom (x y : Atom) : Bool := decide (x.thread = y.thread) && (decide (x.reg = y.reg) && (decide (x.loc = y.loc) && (decide (x.value = y.value) && true)))
theorem eqInit_iff (x y : Init) : eqInit x y = true ↔ x = y := by
  cases x; cases y
  simp [eqInit]
theorem eqAtom_iff (x y : Atom) : eqAtom x y = true ↔ x = y := by
  cases x; cases y
  simp [eqAtom]
theorem eqIns_iff (x y : Ins) : eqIns x y = true ↔ x = y := by
  cases x with | mk k r l a o b n => cases y with | mk k' r' l' a' o' b' n' => cases a; cases b; cases a'; cases b'; simp [eqIns, and_assoc]
end Go.Proofs.YtpfbljkfbjjlkaaGreatDoor

/- The document's Same: its loops. -/
namespace Go.Proofs.YtpfbljkfbjjlkaaGreatDoor
open Go Go.Jq
set_option maxRecDepth 100000
set_option linter.unusedSimpArgs false
end Go.Proofs.YtpfbljkfbjjlkaaGreatDoor

/- The document's Same, over data. -/
namespace Go.Proofs.YtpfbljkfbjjlkaaGreatDoor
open Go Go.Jq
set_option maxRecDepth 100000
set_option linter.unusedSimpArgs false
def sameB (t u : Test) : Bool := decide (t.name = u.name) && (eqL eqInit t.inits u.inits && (eqL (eqL eqIns) t.threads u.threads && (decide (t.kind = u.kind) && eqL (eqL eqAtom) t.rows u.rows)))
theorem sameB_iff (t u : Test) : sameB t u = true ↔ t = u := by
  cases t; cases u
  simp [sameB, eqL_iff eqInit_iff, eqL_iff (eqL_iff eqIns_iff), eqL_iff (eqL_iff eqAtom_iff)]
end Go.Proofs.YtpfbljkfbjjlkaaGreatDoor
