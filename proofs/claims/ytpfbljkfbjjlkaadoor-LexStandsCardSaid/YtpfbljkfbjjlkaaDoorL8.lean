/- The document's reader of tokens: over blanks and comments. -/
import Derived.Test.YtpfbljkfbjjlkaaDoorL2
import Derived.Test.YtpfbljkfbjjlkaaDoorXI
namespace Go.Proofs.YtpfbljkfbjjlkaaDoor
open Go Go.Jq
set_option maxRecDepth 100000
set_option linter.unusedSimpArgs false

theorem u8eq {c k : UInt8} (h : (c.toNat : Int) = (k.toNat : Int)) : c = k := UInt8.toNat_inj.1 (by exact_mod_cast h)
theorem u8ne {c k : UInt8} (h : ¬ (c.toNat : Int) = (k.toNat : Int)) : c ≠ k := fun e => h (by rw [e])

theorem drop_at {s : List UInt8} {p : Nat} (h : p < s.length) : s.drop p = s.getD p 0 :: s.drop (p + 1) := by
  rw [List.drop_eq_getElem_cons h, List.getD_eq_getElem?_getD, List.getElem?_eq_getElem h, Option.getD_some]

theorem letter_pure (c : UInt8) : Pure Tryd.prog 41 [.d (.int .u8 c.toNat)] (.d (.bool (letB c))) := by
  refine acalls_of Tryd.func41 ac41_ok Tryd.ntmps41 Tryd.results41 rfl ?_
  unfold ac41
  refine bwp_seq fun K hK => bwp_region rfl ?_
  simp -implicitDefEqProofs only [go_sem, ↓reduceIte, Nat.reduceEqDiff, Nat.reduceAdd, Nat.reduceLeDiff, Nat.reduceMul, Nat.reduceSub, Int.reduceLE, Int.reduceLT, Int.reduceEq, Int.reduceToNat, Int.reducePow, Int.reduceNeg]
  refine hK _ ?_; clear hK
  by_cases h1 : (97 : Int) ≤ c.toNat
  · by_cases h2 : (c.toNat : Int) ≤ 122
    · refine bwp_seq fun K hK => bwp_region rfl ?_
      simp -implicitDefEqProofs only [go_sem, ↓reduceIte, Nat.reduceEqDiff, Nat.reduceAdd, Nat.reduceLeDiff, Nat.reduceMul, Nat.reduceSub, Int.reduceLE, Int.reduceLT, Int.reduceEq, Int.reduceToNat, Int.reducePow, Int.reduceNeg, h1, h2]
      refine hK _ ?_; clear hK
      refine bwp_ret ?_
      simp only [go_sem]
      refine aend_ret _ rfl rfl ⟨?_, rfl⟩
      have e1 : 97 ≤ c.toNat := by omega
      have e2 : c.toNat ≤ 122 := by omega
      simp [fget, letB, e1, e2]
    · refine bwp_seq fun K hK => bwp_region rfl ?_
      simp -implicitDefEqProofs only [go_sem, ↓reduceIte, Nat.reduceEqDiff, Nat.reduceAdd, Nat.reduceLeDiff, Nat.reduceMul, Nat.reduceSub, Int.reduceLE, Int.reduceLT, Int.reduceEq, Int.reduceToNat, Int.reducePow, Int.reduceNeg, h1, h2]
      refine hK _ ?_; clear hK
      refine bwp_ret ?_
      simp only [go_sem]
      refine aend_ret _ rfl rfl ⟨?_, rfl⟩
      have e2 : ¬ c.toNat ≤ 122 := by omega
      simp [fget, letB, e2]
  · refine bwp_seq fun K hK => bwp_region rfl ?_
    simp -implicitDefEqProofs only [go_sem, ↓reduceIte, Nat.reduceEqDiff, Nat.reduceAdd, Nat.reduceLeDiff, Nat.reduceMul, Nat.reduceSub, Int.reduceLE, Int.reduceLT, Int.reduceEq, Int.reduceToNat, Int.reducePow, Int.reduceNeg, h1]
    refine hK _ ?_; clear hK
    refine bwp_ret ?_
    simp only [go_sem]
    refine aend_ret _ rfl rfl ⟨?_, rfl⟩
    have e1 : ¬ 97 ≤ c.toNat := by omega
    simp [fget, letB, e1]

theorem digit_pure (c : UInt8) : Pure Tryd.prog 42 [.d (.int .u8 c.toNat)] (.d (.bool (digB c))) := by
  refine acalls_of Tryd.func42 ac42_ok Tryd.ntmps42 Tryd.results42 rfl ?_
  unfold ac42
  refine bwp_seq fun K hK => bwp_region rfl ?_
  simp -implicitDefEqProofs only [go_sem, ↓reduceIte, Nat.reduceEqDiff, Nat.reduceAdd, Nat.reduceLeDiff, Nat.reduceMul, Nat.reduceSub, Int.reduceLE, Int.reduceLT, Int.reduceEq, Int.reduceToNat, Int.reducePow, Int.reduceNeg]
  refine hK _ ?_; clear hK
  by_cases h1 : (48 : Int) ≤ c.toNat
  · by_cases h2 : (c.toNat : Int) ≤ 57
    · refine bwp_seq fun K hK => bwp_region rfl ?_
      simp -implicitDefEqProofs only [go_sem, ↓reduceIte, Nat.reduceEqDiff, Nat.reduceAdd, Nat.reduceLeDiff, Nat.reduceMul, Nat.reduceSub, Int.reduceLE, Int.reduceLT, Int.reduceEq, Int.reduceToNat, Int.reducePow, Int.reduceNeg, h1, h2]
      refine hK _ ?_; clear hK
      refine bwp_ret ?_
      simp only [go_sem]
      refine aend_ret _ rfl rfl ⟨?_, rfl⟩
      have e1 : 48 ≤ c.toNat := by omega
      have e2 : c.toNat ≤ 57 := by omega
      simp [fget, digB, e1, e2]
    · refine bwp_seq fun K hK => bwp_region rfl ?_
      simp -implicitDefEqProofs only [go_sem, ↓reduceIte, Nat.reduceEqDiff, Nat.reduceAdd, Nat.reduceLeDiff, Nat.reduceMul, Nat.reduceSub, Int.reduceLE, Int.reduceLT, Int.reduceEq, Int.reduceToNat, Int.reducePow, Int.reduceNeg, h1, h2]
      refine hK _ ?_; clear hK
      refine bwp_ret ?_
      simp only [go_sem]
      refine aend_ret _ rfl rfl ⟨?_, rfl⟩
      have e2 : ¬ c.toNat ≤ 57 := by omega
      simp [fget, digB, e2]
  · refine bwp_seq fun K hK => bwp_region rfl ?_
    simp -implicitDefEqProofs only [go_sem, ↓reduceIte, Nat.reduceEqDiff, Nat.reduceAdd, Nat.reduceLeDiff, Nat.reduceMul, Nat.reduceSub, Int.reduceLE, Int.reduceLT, Int.reduceEq, Int.reduceToNat, Int.reducePow, Int.reduceNeg, h1]
    refine hK _ ?_; clear hK
    refine bwp_ret ?_
    simp only [go_sem]
    refine aend_ret _ rfl rfl ⟨?_, rfl⟩
    have e1 : ¬ 48 ≤ c.toNat := by omega
    simp [fget, digB, e1]

def rkS (s : List UInt8) (p : Nat) : St := ⟨[(1, .d (.int .i64 p)), (0, .d (.str s))], [], 0⟩

theorem skip_same (r : List UInt8) : skipN true (10 :: r) = skipN false (10 :: r) := rfl
theorem skip_note {c : UInt8} (h : c ≠ 10) (r : List UInt8) : skipN true (c :: r) = 1 + skipN true r := by
  have : (c != 10) = true := by simpa using h
  simp only [skipN]
  rw [this]

set_option maxHeartbeats 4000000 in
theorem rk_inner {s : List UInt8} (hs : s.length ≤ 140737488351232) {T p0 : Nat} (hp0 : p0 ≤ s.length) (h0 : p0 + skipN true (s.drop p0) = T) {Q : Exit → St → Prop}
    (hQ : ∀ p, p0 ≤ p → p ≤ s.length → p + skipN false (s.drop p) = T → (p = p0 → p0 < s.length → s.getD p0 0 = 10) → Q (.exit 3) (rkS s p)) :
    BWP Tryd.prog (mbound []) 43 (.loop ac40L0) (rkS s p0) Q := by
  refine bwp_fam (ι := { p : Nat // p0 ≤ p ∧ p ≤ s.length ∧ p + skipN true (s.drop p) = T }) (fun p => rkS s p.1) (fun p => s.length - p.1) ⟨p0, Nat.le_refl _, hp0, h0⟩ ?_
  rintro ⟨p, hle, hl, hT⟩
  simp only
  unfold ac40L0 rkS
  have hi0 : (0 : Int) ≤ (p : Int) := Int.natCast_nonneg _
  by_cases hlt : p < s.length
  · have hlt' : (p : Int) < s.length := by omega
    have hd := drop_at hlt
    generalize hc : s.getD p 0 = c at hd
    rw [hd] at hT
    by_cases h10 : (c.toNat : Int) = 10
    · have hc10 := u8eq (k := 10) h10
      refine bwp_seq fun K1 hK1 => ?_
      refine bwp_seq fun K hK => bwp_region rfl ?_
      simp -implicitDefEqProofs only [go_sem, ↓reduceIte, Nat.reduceEqDiff, Nat.reduceAdd, Nat.reduceLeDiff, Nat.reduceMul, Nat.reduceSub, Int.reduceLE, Int.reduceLT, Int.reduceEq, Int.reduceToNat, Int.reducePow, Int.reduceNeg, hlt', hi0, Int.toNat_natCast, hc, h10]
      refine hK _ ?_; clear hK
      refine bwp_cond false (by simp [ev, fget]) (fun h => nomatch h) (fun _ => ?_)
      refine bwp_leads (S' := rkS s p) (Leads.ent [] ⟨by simp [entT, fget, AV.ren, renL, pget, rkS], by simp [entM, pinv, mget, mset, renL, AV.ren, pget, renL_append, -List.map_map, rkS], rfl, rfl⟩) ?_
      refine bwp_exit (hQ p hle hl ?_ (fun he _ => ?_))
      · rw [hc10, skip_same] at hT
        rw [hd, hc10]
        exact hT
      · rw [← he, hc, hc10]
    · have hc10 := u8ne (k := 10) h10
      rw [skip_note hc10] at hT
      have hw : IntKind.i64.wrap ((p : Int) + 1) = ((p + 1 : Nat) : Int) := by rw [wrap_i64 (by omega) (by omega)]; rfl
      refine bwp_seq fun K1 hK1 => ?_
      refine bwp_seq fun K hK => bwp_region rfl ?_
      simp -implicitDefEqProofs only [go_sem, ↓reduceIte, Nat.reduceEqDiff, Nat.reduceAdd, Nat.reduceLeDiff, Nat.reduceMul, Nat.reduceSub, Int.reduceLE, Int.reduceLT, Int.reduceEq, Int.reduceToNat, Int.reducePow, Int.reduceNeg, hlt', hi0, Int.toNat_natCast, hc, h10]
      refine hK _ ?_; clear hK
      refine bwp_cond true (by simp [ev, fget]) (fun _ => ?_) (fun h => nomatch h)
      refine bwp_skip ?_
      refine hK1 _ ?_; clear hK1
      refine bwp_block ?_
      refine bwp_region rfl ?_
      simp -implicitDefEqProofs only [go_sem, ↓reduceIte, Nat.reduceEqDiff, Nat.reduceAdd, Nat.reduceLeDiff, Nat.reduceMul, Nat.reduceSub, Int.reduceLE, Int.reduceLT, Int.reduceEq, Int.reduceToNat, Int.reducePow, Int.reduceNeg, hw]
      refine ⟨⟨p + 1, by omega, by omega, by omega⟩, by simp only; omega, ?_⟩
      exact Leads.ent [] ⟨by simp [entT, fget, AV.ren, renL, pget, rkS], by simp [entM, rkS], rfl, rfl⟩
  · have hlt' : ¬ (p : Int) < s.length := by omega
    have he : p = s.length := by omega
    refine bwp_seq fun K1 hK1 => ?_
    refine bwp_seq fun K hK => bwp_region rfl ?_
    simp -implicitDefEqProofs only [go_sem, ↓reduceIte, Nat.reduceEqDiff, Nat.reduceAdd, Nat.reduceLeDiff, Nat.reduceMul, Nat.reduceSub, Int.reduceLE, Int.reduceLT, Int.reduceEq, Int.reduceToNat, Int.reducePow, Int.reduceNeg, hlt']
    refine hK _ ?_; clear hK
    refine bwp_cond false (by simp [ev, fget]) (fun h => nomatch h) (fun _ => ?_)
    refine bwp_leads (S' := rkS s p) (Leads.ent [] ⟨by simp [entT, fget, AV.ren, renL, pget, rkS], by simp [entM, pinv, mget, mset, renL, AV.ren, pget, renL_append, -List.map_map, rkS], rfl, rfl⟩) ?_
    refine bwp_exit (hQ p hle hl ?_ (fun h1 h2 => by omega))
    subst he
    rw [List.drop_length] at hT ⊢
    exact hT

set_option maxHeartbeats 4000000 in
theorem rk_outer {s : List UInt8} (hs : s.length ≤ 140737488351232) {a : Nat} (ha : a ≤ s.length) {Q : Exit → St → Prop}
    (hQ : Q (.exit 0) (rkS s (skipA s a))) (hR : ∀ t, fget t 4 = .d (.int .i64 (skipA s a)) → Q .ret ⟨t, [], 0⟩) :
    BWP Tryd.prog (mbound []) 43 (.loop ac40L1) (rkS s a) Q := by
  refine bwp_fam (ι := { p : Nat // p ≤ s.length ∧ p + skipN false (s.drop p) = skipA s a }) (fun p => rkS s p.1) (fun p => s.length - p.1) ⟨a, ha, rfl⟩ ?_
  rintro ⟨p, hl, hT⟩
  simp only
  unfold ac40L1 rkS
  have hi0 : (0 : Int) ≤ (p : Int) := Int.natCast_nonneg _
  by_cases hlt : p < s.length
  · have hlt' : (p : Int) < s.length := by omega
    have hd := drop_at hlt
    have hw : IntKind.i64.wrap ((p : Int) + 1) = ((p + 1 : Nat) : Int) := by rw [wrap_i64 (by omega) (by omega)]; rfl
    generalize hc : s.getD p 0 = c at hd
    have hT0 := hT
    rw [hd] at hT
    refine bwp_seq fun K1 hK1 => ?_
    refine bwp_seq fun K hK => bwp_region rfl ?_
    simp -implicitDefEqProofs only [go_sem, ↓reduceIte, Nat.reduceEqDiff, Nat.reduceAdd, Nat.reduceLeDiff, Nat.reduceMul, Nat.reduceSub, Int.reduceLE, Int.reduceLT, Int.reduceEq, Int.reduceToNat, Int.reducePow, Int.reduceNeg, hlt']
    refine hK _ ?_; clear hK
    refine bwp_cond true (by simp [ev, fget]) (fun _ => ?_) (fun h => nomatch h)
    refine bwp_skip ?_
    refine hK1 _ ?_; clear hK1
    refine bwp_block ?_
    refine bwp_seq fun K hK => bwp_region rfl ?_
    simp -implicitDefEqProofs only [go_sem, ↓reduceIte, Nat.reduceEqDiff, Nat.reduceAdd, Nat.reduceLeDiff, Nat.reduceMul, Nat.reduceSub, Int.reduceLE, Int.reduceLT, Int.reduceEq, Int.reduceToNat, Int.reducePow, Int.reduceNeg, hlt', hi0, Int.toNat_natCast, hc]
    refine hK _ ?_; clear hK
    refine bwp_block ?_
    have next : blankB c = true → ∀ t : Fr, fget t 14 = .d (.bool true) → fget t 1 = .d (.int .i64 p) → fget t 0 = .d (.str s) → BWP Tryd.prog (mbound []) 43 (.region false [⟨some 25, .mv (.t 1), none⟩, ⟨some 26, .bin .add (.t 25) (.c (.d (.int .i64 1))), none⟩, ⟨some 1, .mv (.t 26), none⟩] []) ⟨t, [], 0⟩ (Exit.inBlockA 2 (Exit.inBlockA 1 (Exit.thenA (fun S' => ∃ j : { p : Nat // p ≤ s.length ∧ p + skipN false (s.drop p) = skipA s a }, s.length - j.1 < s.length - p ∧ Leads (mbound []) 43 S' (rkS s j.1)) Q))) := by
      intro hb t _ t1 t0
      refine bwp_region rfl ?_
      simp -implicitDefEqProofs only [go_sem, ↓reduceIte, Nat.reduceEqDiff, Nat.reduceAdd, Nat.reduceLeDiff, Nat.reduceMul, Nat.reduceSub, Int.reduceLE, Int.reduceLT, Int.reduceEq, Int.reduceToNat, Int.reducePow, Int.reduceNeg, t1, hw]
      refine ⟨⟨p + 1, by omega, ?_⟩, by simp only; omega, Leads.ent [] ⟨by simp [entT, fget, AV.ren, renL, pget, rkS, t0], by simp [entM, rkS], rfl, rfl⟩⟩
      simp only [skipN] at hT
      rw [if_pos hb] at hT
      omega
    by_cases h32 : (c.toNat : Int) = 32
    · refine bwp_seq fun K hK => bwp_region rfl ?_
      simp -implicitDefEqProofs only [go_sem, ↓reduceIte, Nat.reduceEqDiff, Nat.reduceAdd, Nat.reduceLeDiff, Nat.reduceMul, Nat.reduceSub, Int.reduceLE, Int.reduceLT, Int.reduceEq, Int.reduceToNat, Int.reducePow, Int.reduceNeg, h32]
      refine hK _ ?_; clear hK
      refine bwp_cond true (by simp [ev, fget]) (fun _ => ?_) (fun h => nomatch h)
      exact next (by rw [u8eq (k := 32) h32]; rfl) _ rfl rfl rfl
    by_cases h9 : (c.toNat : Int) = 9
    · refine bwp_seq fun K hK => bwp_region rfl ?_
      simp -implicitDefEqProofs only [go_sem, ↓reduceIte, Nat.reduceEqDiff, Nat.reduceAdd, Nat.reduceLeDiff, Nat.reduceMul, Nat.reduceSub, Int.reduceLE, Int.reduceLT, Int.reduceEq, Int.reduceToNat, Int.reducePow, Int.reduceNeg, h32, h9]
      refine hK _ ?_; clear hK
      refine bwp_cond true (by simp [ev, fget]) (fun _ => ?_) (fun h => nomatch h)
      exact next (by rw [u8eq (k := 9) h9]; rfl) _ rfl rfl rfl
    by_cases h10 : (c.toNat : Int) = 10
    · refine bwp_seq fun K hK => bwp_region rfl ?_
      simp -implicitDefEqProofs only [go_sem, ↓reduceIte, Nat.reduceEqDiff, Nat.reduceAdd, Nat.reduceLeDiff, Nat.reduceMul, Nat.reduceSub, Int.reduceLE, Int.reduceLT, Int.reduceEq, Int.reduceToNat, Int.reducePow, Int.reduceNeg, h32, h9, h10]
      refine hK _ ?_; clear hK
      refine bwp_cond true (by simp [ev, fget]) (fun _ => ?_) (fun h => nomatch h)
      exact next (by rw [u8eq (k := 10) h10]; rfl) _ rfl rfl rfl
    refine bwp_seq fun K hK => bwp_region rfl ?_
    simp -implicitDefEqProofs only [go_sem, ↓reduceIte, Nat.reduceEqDiff, Nat.reduceAdd, Nat.reduceLeDiff, Nat.reduceMul, Nat.reduceSub, Int.reduceLE, Int.reduceLT, Int.reduceEq, Int.reduceToNat, Int.reducePow, Int.reduceNeg, h32, h9, h10]
    refine hK _ ?_; clear hK
    refine bwp_cond false (by simp [ev, fget]) (fun h => nomatch h) (fun _ => ?_)
    have hb : blankB c = false := by
      simp only [blankB, Bool.or_eq_false_iff, beq_eq_false_iff_ne]
      exact ⟨⟨u8ne (k := 32) h32, u8ne (k := 9) h9⟩, u8ne (k := 10) h10⟩
    by_cases h35 : (c.toNat : Int) = 35
    · have hc35 := u8eq (k := 35) h35
      refine bwp_seq fun K hK => bwp_region rfl ?_
      simp -implicitDefEqProofs only [go_sem, ↓reduceIte, Nat.reduceEqDiff, Nat.reduceAdd, Nat.reduceLeDiff, Nat.reduceMul, Nat.reduceSub, Int.reduceLE, Int.reduceLT, Int.reduceEq, Int.reduceToNat, Int.reducePow, Int.reduceNeg, h35]
      refine hK _ ?_; clear hK
      refine bwp_cond true (by simp [ev, fget]) (fun _ => ?_) (fun h => nomatch h)
      refine bwp_block ?_
      refine bwp_leads (S' := rkS s p) (Leads.ent [] ⟨by simp [entT, fget, AV.ren, renL, pget, rkS], by simp [entM, pinv, mget, mset, renL, AV.ren, pget, renL_append, -List.map_map, rkS], rfl, rfl⟩) ?_
      refine rk_inner hs (T := skipA s a) hl ?_ ?_
      · rw [hd, hc35, skip_note (by decide)]
        rw [hc35] at hT
        exact hT
      · intro q hq1 hq2 hq3 hq4
        unfold rkS
        simp -implicitDefEqProofs only [go_sem, ↓reduceIte, Nat.reduceEqDiff, Nat.reduceAdd, Nat.reduceLeDiff, Nat.reduceMul, Nat.reduceSub, Int.reduceLE, Int.reduceLT, Int.reduceEq, Int.reduceToNat, Int.reducePow, Int.reduceNeg]
        refine ⟨⟨q, hq2, hq3⟩, ?_, Leads.ent [] ⟨by simp [entT, fget, AV.ren, renL, pget, rkS], by simp [entM, rkS], rfl, rfl⟩⟩
        simp only
        have : q ≠ p := fun e => by
          have := hq4 e hlt
          rw [hc, hc35] at this
          cases this
        omega
    · have hc35 := u8ne (k := 35) h35
      have hz : skipN false (c :: s.drop (p + 1)) = 0 := skip_zero _ ⟨hb, hc35⟩
      rw [hz] at hT
      refine bwp_seq fun K hK => bwp_region rfl ?_
      simp -implicitDefEqProofs only [go_sem, ↓reduceIte, Nat.reduceEqDiff, Nat.reduceAdd, Nat.reduceLeDiff, Nat.reduceMul, Nat.reduceSub, Int.reduceLE, Int.reduceLT, Int.reduceEq, Int.reduceToNat, Int.reducePow, Int.reduceNeg, h35]
      refine hK _ ?_; clear hK
      refine bwp_cond false (by simp [ev, fget]) (fun h => nomatch h) (fun _ => ?_)
      refine bwp_seq fun K hK => bwp_region rfl ?_
      simp -implicitDefEqProofs only [go_sem, ↓reduceIte, Nat.reduceEqDiff, Nat.reduceAdd, Nat.reduceLeDiff, Nat.reduceMul, Nat.reduceSub, Int.reduceLE, Int.reduceLT, Int.reduceEq, Int.reduceToNat, Int.reducePow, Int.reduceNeg]
      refine hK _ ?_; clear hK
      refine bwp_ret ?_
      simp -implicitDefEqProofs only [go_sem, ↓reduceIte, Nat.reduceEqDiff, Nat.reduceAdd, Nat.reduceLeDiff, Nat.reduceMul, Nat.reduceSub, Int.reduceLE, Int.reduceLT, Int.reduceEq, Int.reduceToNat, Int.reducePow, Int.reduceNeg]
      exact hR _ (by rw [← hT]; rfl)
  · have hlt' : ¬ (p : Int) < s.length := by omega
    have he : p = s.length := by omega
    subst he
    rw [List.drop_length] at hT
    refine bwp_seq fun K1 hK1 => ?_
    refine bwp_seq fun K hK => bwp_region rfl ?_
    simp -implicitDefEqProofs only [go_sem, ↓reduceIte, Nat.reduceEqDiff, Nat.reduceAdd, Nat.reduceLeDiff, Nat.reduceMul, Nat.reduceSub, Int.reduceLE, Int.reduceLT, Int.reduceEq, Int.reduceToNat, Int.reducePow, Int.reduceNeg, hlt']
    refine hK _ ?_; clear hK
    refine bwp_cond false (by simp [ev, fget]) (fun h => nomatch h) (fun _ => ?_)
    refine bwp_leads (S' := rkS s s.length) (Leads.ent [] ⟨by simp [entT, fget, AV.ren, renL, pget, rkS], by simp [entM, pinv, mget, mset, renL, AV.ren, pget, renL_append, -List.map_map, rkS], rfl, rfl⟩) ?_
    refine bwp_exit ?_
    have : skipA s a = s.length := by rw [← hT]; rfl
    rw [this] at hQ
    exact hQ

theorem skip_pure {s : List UInt8} (hs : s.length ≤ 140737488351232) {a : Nat} (ha : a ≤ s.length) : Pure Tryd.prog 40 [.d (.str s), .d (.int .i64 a)] (.d (.int .i64 (skipA s a))) := by
  refine acalls_of Tryd.func40 ac40_ok Tryd.ntmps40 Tryd.results40 rfl ?_
  unfold ac40
  refine bwp_seq fun K hK => bwp_region rfl ?_
  simp -implicitDefEqProofs only [go_sem, ↓reduceIte, Nat.reduceEqDiff, Nat.reduceAdd, Nat.reduceLeDiff, Nat.reduceMul, Nat.reduceSub, Int.reduceLE, Int.reduceLT, Int.reduceEq, Int.reduceToNat, Int.reducePow, Int.reduceNeg]
  refine hK _ ?_; clear hK
  refine bwp_seq fun K1 hK1 => ?_
  refine bwp_block ?_
  refine bwp_leads (S' := rkS s a) (Leads.ent [] ⟨by simp [entT, fget, AV.ren, renL, pget, rkS], by simp [entM, pinv, mget, mset, renL, AV.ren, pget, renL_append, -List.map_map, rkS], rfl, rfl⟩) ?_
  refine rk_outer hs ha ?_ ?_
  · unfold rkS
    simp -implicitDefEqProofs only [go_sem, ↓reduceIte, Nat.reduceEqDiff, Nat.reduceAdd, Nat.reduceLeDiff, Nat.reduceMul, Nat.reduceSub, Int.reduceLE, Int.reduceLT, Int.reduceEq, Int.reduceToNat, Int.reducePow, Int.reduceNeg]
    refine hK1 _ ?_; clear hK1
    refine bwp_seq fun K hK => bwp_region rfl ?_
    simp -implicitDefEqProofs only [go_sem, ↓reduceIte, Nat.reduceEqDiff, Nat.reduceAdd, Nat.reduceLeDiff, Nat.reduceMul, Nat.reduceSub, Int.reduceLE, Int.reduceLT, Int.reduceEq, Int.reduceToNat, Int.reducePow, Int.reduceNeg]
    refine hK _ ?_; clear hK
    refine bwp_ret ?_
    simp only [go_sem]
    refine aend_ret _ rfl rfl ⟨?_, rfl⟩
    simp [fget]
  · intro t h
    simp -implicitDefEqProofs only [go_sem, ↓reduceIte, Nat.reduceEqDiff, Nat.reduceAdd, Nat.reduceLeDiff, Nat.reduceMul, Nat.reduceSub, Int.reduceLE, Int.reduceLT, Int.reduceEq, Int.reduceToNat, Int.reducePow, Int.reduceNeg]
    refine aend_ret (fget t 4) rfl (by rw [h]; rfl) ⟨h, rfl⟩

end Go.Proofs.YtpfbljkfbjjlkaaDoor
