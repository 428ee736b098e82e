/- The lexer over blanks and comments, over letters and digits. -/
import Derived.Test.YtpfbljkfbjjlkaaDoorL12
namespace Go.Proofs.YtpfbljkfbjjlkaaDoor
open Go Go.Jq
set_option maxRecDepth 100000
set_option linter.unusedSimpArgs false

def lkS (s : List UInt8) (p rd : Nat) : St := ⟨[(0, .ptr 0 0)], [(0, lexC s p rd 0 0)], 1⟩

theorem rdW_lt {s : List UInt8} {rd k : Nat} (h : k < s.length) : rdW s rd k = max rd (k + 1) := by unfold rdW; rw [if_pos h]

/-- How far it may have looked. -/
def rdIn (s : List UInt8) (rd0 p rd : Nat) : Prop := rd0 ≤ rd ∧ p ≤ rd ∧ rd ≤ s.length ∧ rd ≤ max rd0 (p + 1)

theorem rdIn_peek {s : List UInt8} {rd0 p rd : Nat} (h : rdIn s rd0 p rd) (hp : p < s.length) : rdIn s rd0 p (rdW s rd p) ∧ rdIn s rd0 (p + 1) (rdW s rd p) := by
  rw [rdW_lt hp]
  unfold rdIn at *
  omega

set_option maxHeartbeats 8000000 in
theorem lk_inner {s : List UInt8} (hs : s.length ≤ 140737488351232) {T p0 rd0 rd1 : Nat} (hp0 : p0 ≤ s.length) (h0 : p0 + skipN true (s.drop p0) = T) (hr0 : rdIn s rd0 p0 rd1) {Q : Exit → St → Prop}
    (hQ : ∀ p rd, p0 ≤ p → p ≤ s.length → p + skipN false (s.drop p) = T → (p = p0 → p0 < s.length → s.getD p0 0 = 10) → rdIn s rd0 p rd → Q (.exit 3) (lkS s p rd)) :
    BWP Tryd.prog 1 51 (.loop ac32L0) (lkS s p0 rd1) Q := by
  refine bwp_fam (ι := { p : Nat × Nat // p0 ≤ p.1 ∧ p.1 ≤ s.length ∧ p.1 + skipN true (s.drop p.1) = T ∧ rdIn s rd0 p.1 p.2 }) (fun p => lkS s p.1.1 p.1.2) (fun p => s.length - p.1.1) ⟨(p0, rd1), Nat.le_refl _, hp0, h0, hr0⟩ ?_
  rintro ⟨⟨p, rd⟩, hle, hl, hT, hrd⟩
  simp only at hle hl hT hrd ⊢
  unfold ac32L0 lkS
  refine bwp_seq fun K1 hK1 => ?_
  refine bwp_seq fun K hK => bwp_region rfl ?_
  simp -implicitDefEqProofs only [go_sem, ↓reduceIte, Nat.reduceEqDiff, Nat.reduceAdd, Nat.reduceLeDiff, Nat.reduceMul, Nat.reduceSub, Int.reduceLE, Int.reduceLT, Int.reduceEq, Int.reduceToNat, Int.reducePow, Int.reduceNeg, lexC]
  refine has_callK s p rd 0 0 p rfl ?_
  by_cases hlt : p < s.length
  · have hd := drop_at hlt
    have hpk := rdIn_peek hrd hlt
    generalize hc : s.getD p 0 = c at hd
    rw [hd] at hT
    simp -implicitDefEqProofs only [go_sem, ↓reduceIte, Nat.reduceEqDiff, Nat.reduceAdd, Nat.reduceLeDiff, Nat.reduceMul, Nat.reduceSub, Int.reduceLE, Int.reduceLT, Int.reduceEq, Int.reduceToNat, Int.reducePow, Int.reduceNeg, hlt, decide_true, lexC, mset]
    refine peek_callK hs p rd 0 0 p rfl ?_
    rw [hc]
    generalize rdW s rd p = rd' at hpk ⊢
    by_cases h10 : (c.toNat : Int) = 10
    · have hc10 := u8eq (k := 10) h10
      simp -implicitDefEqProofs only [go_sem, ↓reduceIte, Nat.reduceEqDiff, Nat.reduceAdd, Nat.reduceLeDiff, Nat.reduceMul, Nat.reduceSub, Int.reduceLE, Int.reduceLT, Int.reduceEq, Int.reduceToNat, Int.reducePow, Int.reduceNeg, h10, lexC, mset]
      refine hK _ ?_; clear hK
      refine bwp_cond false (by simp [ev, fget]) (fun h => nomatch h) (fun _ => ?_)
      refine bwp_leads (S' := lkS s p rd') (Leads.ent [(0, 0)] ⟨by simp [entT, fget, AV.ren, renL, pget, lkS, lexC], by simp [entM, pinv, mget, mset, renL, AV.ren, pget, renL_append, -List.map_map, lkS, lexC], rfl, rfl⟩) ?_
      refine bwp_exit (hQ p rd' hle hl ?_ (fun he _ => ?_) hpk.1)
      · rw [hc10, skip_same] at hT
        rw [hd, hc10]
        exact hT
      · rw [← he, hc, hc10]
    · have hc10 := u8ne (k := 10) h10
      rw [skip_note hc10] at hT
      have hw : IntKind.i64.wrap ((p : Int) + 1) = ((p + 1 : Nat) : Int) := by rw [wrap_i64 (by omega) (by omega)]; rfl
      simp -implicitDefEqProofs only [go_sem, ↓reduceIte, Nat.reduceEqDiff, Nat.reduceAdd, Nat.reduceLeDiff, Nat.reduceMul, Nat.reduceSub, Int.reduceLE, Int.reduceLT, Int.reduceEq, Int.reduceToNat, Int.reducePow, Int.reduceNeg, h10, lexC, mset]
      refine hK _ ?_; clear hK
      refine bwp_cond true (by simp [ev, fget]) (fun _ => ?_) (fun h => nomatch h)
      refine bwp_skip ?_
      refine hK1 _ ?_; clear hK1
      refine bwp_block ?_
      refine bwp_region rfl ?_
      simp -implicitDefEqProofs only [go_sem, ↓reduceIte, Nat.reduceEqDiff, Nat.reduceAdd, Nat.reduceLeDiff, Nat.reduceMul, Nat.reduceSub, Int.reduceLE, Int.reduceLT, Int.reduceEq, Int.reduceToNat, Int.reducePow, Int.reduceNeg, hw]
      refine ⟨⟨(p + 1, rd'), by simp only; omega, by simp only; omega, by simp only; omega, hpk.2⟩, by simp only; omega, ?_⟩
      exact Leads.ent [(0, 0)] ⟨by simp [entT, fget, AV.ren, renL, pget, lkS], by simp [entM, pinv, mget, mset, renL, AV.ren, lkS, lexC], rfl, rfl⟩
  · have he : p = s.length := by omega
    simp -implicitDefEqProofs only [go_sem, ↓reduceIte, Nat.reduceEqDiff, Nat.reduceAdd, Nat.reduceLeDiff, Nat.reduceMul, Nat.reduceSub, Int.reduceLE, Int.reduceLT, Int.reduceEq, Int.reduceToNat, Int.reducePow, Int.reduceNeg, hlt, decide_false, lexC, mset]
    refine hK _ ?_; clear hK
    refine bwp_cond false (by simp [ev, fget]) (fun h => nomatch h) (fun _ => ?_)
    refine bwp_leads (S' := lkS s p rd) (Leads.ent [(0, 0)] ⟨by simp [entT, fget, AV.ren, renL, pget, lkS, lexC], by simp [entM, pinv, mget, mset, renL, AV.ren, pget, renL_append, -List.map_map, lkS, lexC], rfl, rfl⟩) ?_
    refine bwp_exit (hQ p rd hle hl ?_ (fun h1 h2 => by omega) hrd)
    subst he
    rw [List.drop_length] at hT ⊢
    exact hT

set_option maxHeartbeats 8000000 in
theorem lk_outer {s : List UInt8} (hs : s.length ≤ 140737488351232) {a rd0 : Nat} (ha : a ≤ s.length) (hr0 : a ≤ rd0 ∧ rd0 ≤ s.length) {Q : Exit → St → Prop}
    (hQ : ∀ rd, rdIn s rd0 (skipA s a) rd → Q (.exit 0) (lkS s (skipA s a) rd)) (hR : ∀ t rd n, rdIn s rd0 (skipA s a) rd → Q .ret ⟨t, [(0, lexC s (skipA s a) rd 0 0)], n⟩) :
    BWP Tryd.prog 1 51 (.loop ac32L1) (lkS s a rd0) Q := by
  refine bwp_fam (ι := { p : Nat × Nat // p.1 ≤ s.length ∧ p.1 + skipN false (s.drop p.1) = skipA s a ∧ rdIn s rd0 p.1 p.2 }) (fun p => lkS s p.1.1 p.1.2) (fun p => s.length - p.1.1) ⟨(a, rd0), ha, rfl, by unfold rdIn; simp only; omega⟩ ?_
  rintro ⟨⟨p, rd⟩, hl, hT, hrd⟩
  simp only at hl hT hrd ⊢
  unfold ac32L1 lkS
  refine bwp_seq fun K1 hK1 => ?_
  refine bwp_seq fun K hK => bwp_region rfl ?_
  simp -implicitDefEqProofs only [go_sem, ↓reduceIte, Nat.reduceEqDiff, Nat.reduceAdd, Nat.reduceLeDiff, Nat.reduceMul, Nat.reduceSub, Int.reduceLE, Int.reduceLT, Int.reduceEq, Int.reduceToNat, Int.reducePow, Int.reduceNeg, lexC]
  refine has_callK s p rd 0 0 p rfl ?_
  by_cases hlt : p < s.length
  · have hd := drop_at hlt
    have hw : IntKind.i64.wrap ((p : Int) + 1) = ((p + 1 : Nat) : Int) := by rw [wrap_i64 (by omega) (by omega)]; rfl
    have hpk := rdIn_peek hrd hlt
    generalize hc : s.getD p 0 = c at hd
    rw [hd] at hT
    simp -implicitDefEqProofs only [go_sem, ↓reduceIte, Nat.reduceEqDiff, Nat.reduceAdd, Nat.reduceLeDiff, Nat.reduceMul, Nat.reduceSub, Int.reduceLE, Int.reduceLT, Int.reduceEq, Int.reduceToNat, Int.reducePow, Int.reduceNeg, hlt, decide_true, lexC, mset]
    refine hK _ ?_; clear hK
    refine bwp_cond true (by simp [ev, fget]) (fun _ => ?_) (fun h => nomatch h)
    refine bwp_skip ?_
    refine hK1 _ ?_; clear hK1
    refine bwp_block ?_
    refine bwp_seq fun K hK => bwp_region rfl ?_
    simp -implicitDefEqProofs only [go_sem, ↓reduceIte, Nat.reduceEqDiff, Nat.reduceAdd, Nat.reduceLeDiff, Nat.reduceMul, Nat.reduceSub, Int.reduceLE, Int.reduceLT, Int.reduceEq, Int.reduceToNat, Int.reducePow, Int.reduceNeg]
    refine peek_callK hs p rd 0 0 p rfl ?_
    rw [hc]
    generalize rdW s rd p = rd' at hpk ⊢
    simp -implicitDefEqProofs only [go_sem, ↓reduceIte, Nat.reduceEqDiff, Nat.reduceAdd, Nat.reduceLeDiff, Nat.reduceMul, Nat.reduceSub, Int.reduceLE, Int.reduceLT, Int.reduceEq, Int.reduceToNat, Int.reducePow, Int.reduceNeg, lexC, mset]
    refine hK _ ?_; clear hK
    refine bwp_block ?_
    by_cases h35 : (c.toNat : Int) = 35
    · have hc35 := u8eq (k := 35) h35
      refine bwp_seq fun K hK => bwp_region rfl ?_
      simp -implicitDefEqProofs only [go_sem, ↓reduceIte, Nat.reduceEqDiff, Nat.reduceAdd, Nat.reduceLeDiff, Nat.reduceMul, Nat.reduceSub, Int.reduceLE, Int.reduceLT, Int.reduceEq, Int.reduceToNat, Int.reducePow, Int.reduceNeg, h35]
      refine hK _ ?_; clear hK
      refine bwp_cond true (by simp [ev, fget]) (fun _ => ?_) (fun h => nomatch h)
      refine bwp_block ?_
      refine bwp_leads (S' := lkS s p rd') (Leads.ent [(0, 0)] ⟨by simp [entT, fget, AV.ren, renL, pget, lkS, lexC], by simp [entM, pinv, mget, mset, renL, AV.ren, pget, renL_append, -List.map_map, lkS, lexC], rfl, rfl⟩) ?_
      refine lk_inner hs (T := skipA s a) (rd0 := rd0) hl ?_ hpk.1 ?_
      · rw [hd, hc35, skip_note (by decide)]
        rw [hc35] at hT
        exact hT
      · intro q rdq hq1 hq2 hq3 hq4 hq5
        unfold lkS
        simp -implicitDefEqProofs only [go_sem, ↓reduceIte, Nat.reduceEqDiff, Nat.reduceAdd, Nat.reduceLeDiff, Nat.reduceMul, Nat.reduceSub, Int.reduceLE, Int.reduceLT, Int.reduceEq, Int.reduceToNat, Int.reducePow, Int.reduceNeg]
        refine ⟨⟨(q, rdq), hq2, hq3, hq5⟩, ?_, Leads.ent [(0, 0)] ⟨by simp [entT, fget, AV.ren, renL, pget, lkS], by simp [entM, pinv, mget, mset, renL, AV.ren, lkS, lexC], rfl, rfl⟩⟩
        simp only
        have : q ≠ p := fun e => by
          have := hq4 e hlt
          rw [hc, hc35] at this
          cases this
        omega
    · have hc35 := u8ne (k := 35) h35
      refine bwp_seq fun K hK => bwp_region rfl ?_
      simp -implicitDefEqProofs only [go_sem, ↓reduceIte, Nat.reduceEqDiff, Nat.reduceAdd, Nat.reduceLeDiff, Nat.reduceMul, Nat.reduceSub, Int.reduceLE, Int.reduceLT, Int.reduceEq, Int.reduceToNat, Int.reducePow, Int.reduceNeg, h35]
      refine hK _ ?_; clear hK
      refine bwp_cond false (by simp [ev, fget]) (fun h => nomatch h) (fun _ => ?_)
      have k1 := kind_pure c
      refine bwp_seq fun K hK => bwp_region rfl ?_
      simp -implicitDefEqProofs only [go_sem, ↓reduceIte, Nat.reduceEqDiff, Nat.reduceAdd, Nat.reduceLeDiff, Nat.reduceMul, Nat.reduceSub, Int.reduceLE, Int.reduceLT, Int.reduceEq, Int.reduceToNat, Int.reducePow, Int.reduceNeg]
      refine callK_pure k1 rfl rfl ?_
      by_cases hb : blankB c = true
      · have hk1 := (kind_blank c).2 hb
        simp -implicitDefEqProofs only [go_sem, ↓reduceIte, Nat.reduceEqDiff, Nat.reduceAdd, Nat.reduceLeDiff, Nat.reduceMul, Nat.reduceSub, Int.reduceLE, Int.reduceLT, Int.reduceEq, Int.reduceToNat, Int.reducePow, Int.reduceNeg, hk1]
        refine hK _ ?_; clear hK
        refine bwp_cond true (by simp [ev, fget]) (fun _ => ?_) (fun h => nomatch h)
        refine bwp_region rfl ?_
        simp -implicitDefEqProofs only [go_sem, ↓reduceIte, Nat.reduceEqDiff, Nat.reduceAdd, Nat.reduceLeDiff, Nat.reduceMul, Nat.reduceSub, Int.reduceLE, Int.reduceLT, Int.reduceEq, Int.reduceToNat, Int.reducePow, Int.reduceNeg, hw]
        refine ⟨⟨(p + 1, rd'), by simp only; omega, ?_, hpk.2⟩, by simp only; omega, Leads.ent [(0, 0)] ⟨by simp [entT, fget, AV.ren, renL, pget, lkS], by simp [entM, pinv, mget, mset, renL, AV.ren, lkS, lexC], rfl, rfl⟩⟩
        simp only [skipN] at hT
        rw [if_pos hb] at hT
        simp only
        omega
      · have hk1 : ¬ kindW c = 1 := fun h => hb ((kind_blank c).1 h)
        have hz : skipN false (c :: s.drop (p + 1)) = 0 := skip_zero _ ⟨by simpa using hb, hc35⟩
        rw [hz] at hT
        have hT' : p = skipA s a := by omega
        simp -implicitDefEqProofs only [go_sem, ↓reduceIte, Nat.reduceEqDiff, Nat.reduceAdd, Nat.reduceLeDiff, Nat.reduceMul, Nat.reduceSub, Int.reduceLE, Int.reduceLT, Int.reduceEq, Int.reduceToNat, Int.reducePow, Int.reduceNeg, hk1]
        refine hK _ ?_; clear hK
        refine bwp_cond false (by simp [ev, fget]) (fun h => nomatch h) (fun _ => ?_)
        refine bwp_ret ?_
        simp -implicitDefEqProofs only [go_sem, ↓reduceIte, Nat.reduceEqDiff, Nat.reduceAdd, Nat.reduceLeDiff, Nat.reduceMul, Nat.reduceSub, Int.reduceLE, Int.reduceLT, Int.reduceEq, Int.reduceToNat, Int.reducePow, Int.reduceNeg]
        have := fun t n => hR t rd' n (by rw [← hT']; exact hpk.1)
        rw [← hT'] at this
        exact this _ _
  · have he : p = s.length := by omega
    subst he
    rw [List.drop_length] at hT
    have hT' : s.length = skipA s a := by rw [← hT]; rfl
    simp -implicitDefEqProofs only [go_sem, ↓reduceIte, Nat.reduceEqDiff, Nat.reduceAdd, Nat.reduceLeDiff, Nat.reduceMul, Nat.reduceSub, Int.reduceLE, Int.reduceLT, Int.reduceEq, Int.reduceToNat, Int.reducePow, Int.reduceNeg, hlt, decide_false, lexC, mset]
    refine hK _ ?_; clear hK
    refine bwp_cond false (by simp [ev, fget]) (fun h => nomatch h) (fun _ => ?_)
    refine bwp_leads (S' := lkS s s.length rd) (Leads.ent [(0, 0)] ⟨by simp [entT, fget, AV.ren, renL, pget, lkS, lexC], by simp [entM, pinv, mget, mset, renL, AV.ren, pget, renL_append, -List.map_map, lkS, lexC], rfl, rfl⟩) ?_
    refine bwp_exit ?_
    have := hQ rd (by rw [← hT']; exact hrd)
    rw [← hT'] at this
    exact this

theorem skip_calls {s : List UInt8} (hs : s.length ≤ 140737488351232) {a rd : Nat} (ha : a ≤ s.length) (hr : a ≤ rd ∧ rd ≤ s.length) :
    ACalls Tryd.prog 32 [.ptr 0 0] [(0, lexC s a rd 0 0)] fun r m' => r = .tup [] ∧ ∃ rd', rdIn s rd (skipA s a) rd' ∧ m' = [(0, lexC s (skipA s a) rd' 0 0)] := by
  refine acalls_of Tryd.func32 ac32_ok Tryd.ntmps32 Tryd.results32 rfl ?_
  unfold ac32
  refine bwp_block ?_
  refine bwp_leads (S' := lkS s a rd) (Leads.ent [(0, 0)] ⟨by simp [entT, fget, AV.ren, renL, pget, lkS, lexC, frm], by simp [entM, pinv, mget, mset, renL, AV.ren, pget, renL_append, -List.map_map, lkS, lexC, frm], rfl, rfl⟩) ?_
  refine lk_outer hs ha hr ?_ ?_
  · intro rd' h
    unfold lkS
    simp -implicitDefEqProofs only [go_sem, ↓reduceIte, Nat.reduceEqDiff, Nat.reduceAdd, Nat.reduceLeDiff, Nat.reduceMul, Nat.reduceSub, Int.reduceLE, Int.reduceLT, Int.reduceEq, Int.reduceToNat, Int.reducePow, Int.reduceNeg]
    refine ⟨.tup [], rfl, [(0, 0)], [(0, lexC s (skipA s a) rd' 0 0)], rfl, rfl, ?_, ⟨rfl, rd', h, rfl⟩⟩
    simp [entM, pinv, mget, renL, AV.ren, lexC]
  · intro t rd' n h
    simp -implicitDefEqProofs only [go_sem, ↓reduceIte, Nat.reduceEqDiff, Nat.reduceAdd, Nat.reduceLeDiff, Nat.reduceMul, Nat.reduceSub, Int.reduceLE, Int.reduceLT, Int.reduceEq, Int.reduceToNat, Int.reducePow, Int.reduceNeg]
    refine aend_mem (.tup []) [(0, 0)] [(0, lexC s (skipA s a) rd' 0 0)] rfl rfl rfl ?_ ⟨rfl, rd', h, rfl⟩
    simp [entM, pinv, mget, renL, AV.ren, lexC]

/-! ### Letters and digits -/

def rlS (s : List UInt8) (a p rd : Nat) : St := ⟨[(1, .d (.int .i64 p)), (0, .ptr 0 0), (4, .d (.int .i64 0))], [(0, lexC s a rd 0 0)], 1⟩

set_option maxHeartbeats 8000000 in
theorem rl_loop {s : List UInt8} (hs : s.length ≤ 140737488351232) {a p0 rd0 rd1 : Nat} (hp0 : p0 ≤ s.length) (hr0 : rdIn s rd0 p0 rd1) {Q : Exit → St → Prop}
    (hQ : ∀ rd, rdIn s rd0 (p0 + runL (s.drop p0)) rd → Q (.exit 0) (rlS s a (p0 + runL (s.drop p0)) rd)) :
    BWP Tryd.prog 1 18 (.loop ac36L0) (rlS s a p0 rd1) Q := by
  refine bwp_fam (ι := { p : Nat × Nat // p.1 ≤ s.length ∧ p.1 + runL (s.drop p.1) = p0 + runL (s.drop p0) ∧ rdIn s rd0 p.1 p.2 }) (fun p => rlS s a p.1.1 p.1.2) (fun p => s.length - p.1.1) ⟨(p0, rd1), hp0, rfl, hr0⟩ ?_
  rintro ⟨⟨p, rd⟩, hl, hT, hrd⟩
  simp only at hl hT hrd ⊢
  unfold ac36L0 rlS
  have hout : ∀ rd', rdIn s rd0 p rd' → runL (s.drop p) = 0 → Q (.exit 0) (rlS s a p rd') := fun rd' h h0 => by
    rw [h0] at hT
    have := hQ rd' (by rw [← hT]; exact h)
    rw [← hT] at this
    exact this
  refine bwp_seq fun K1 hK1 => ?_
  refine bwp_seq fun K hK => bwp_region rfl ?_
  simp -implicitDefEqProofs only [go_sem, ↓reduceIte, Nat.reduceEqDiff, Nat.reduceAdd, Nat.reduceLeDiff, Nat.reduceMul, Nat.reduceSub, Int.reduceLE, Int.reduceLT, Int.reduceEq, Int.reduceToNat, Int.reducePow, Int.reduceNeg, lexC]
  refine has_callK s a rd 0 0 p rfl ?_
  by_cases hlt : p < s.length
  · have hd := drop_at hlt
    have hpk := rdIn_peek hrd hlt
    generalize hc : s.getD p 0 = c at hd
    simp -implicitDefEqProofs only [go_sem, ↓reduceIte, Nat.reduceEqDiff, Nat.reduceAdd, Nat.reduceLeDiff, Nat.reduceMul, Nat.reduceSub, Int.reduceLE, Int.reduceLT, Int.reduceEq, Int.reduceToNat, Int.reducePow, Int.reduceNeg, hlt, decide_true, lexC, mset]
    refine peek_callK hs a rd 0 0 p rfl ?_
    rw [hc]
    generalize rdW s rd p = rd' at hpk ⊢
    have k1 := kind_pure c
    simp -implicitDefEqProofs only [go_sem, ↓reduceIte, Nat.reduceEqDiff, Nat.reduceAdd, Nat.reduceLeDiff, Nat.reduceMul, Nat.reduceSub, Int.reduceLE, Int.reduceLT, Int.reduceEq, Int.reduceToNat, Int.reducePow, Int.reduceNeg, lexC, mset]
    refine callK_pure k1 rfl rfl ?_
    by_cases ha : alnB c = true
    · have hk := (kind_aln c).2 ha
      have hw : IntKind.i64.wrap ((p : Int) + 1) = ((p + 1 : Nat) : Int) := by rw [wrap_i64 (by omega) (by omega)]; rfl
      rw [hd, runL, if_pos ha] at hT
      simp -implicitDefEqProofs only [go_sem, ↓reduceIte, Nat.reduceEqDiff, Nat.reduceAdd, Nat.reduceLeDiff, Nat.reduceMul, Nat.reduceSub, Int.reduceLE, Int.reduceLT, Int.reduceEq, Int.reduceToNat, Int.reducePow, Int.reduceNeg, hk]
      refine hK _ ?_; clear hK
      refine bwp_cond true (by simp [ev, fget]) (fun _ => ?_) (fun h => nomatch h)
      refine bwp_skip ?_
      refine hK1 _ ?_; clear hK1
      refine bwp_block ?_
      refine bwp_region rfl ?_
      simp -implicitDefEqProofs only [go_sem, ↓reduceIte, Nat.reduceEqDiff, Nat.reduceAdd, Nat.reduceLeDiff, Nat.reduceMul, Nat.reduceSub, Int.reduceLE, Int.reduceLT, Int.reduceEq, Int.reduceToNat, Int.reducePow, Int.reduceNeg, hw]
      refine ⟨⟨(p + 1, rd'), by simp only; omega, by simp only; omega, hpk.2⟩, by simp only; omega, ?_⟩
      exact Leads.ent [(0, 0)] ⟨by simp [entT, fget, AV.ren, renL, pget, rlS], by simp [entM, pinv, mget, mset, renL, AV.ren, rlS, lexC], rfl, rfl⟩
    · have hk : ¬ 2 ≤ kindW c := fun h => ha ((kind_aln c).1 h)
      simp -implicitDefEqProofs only [go_sem, ↓reduceIte, Nat.reduceEqDiff, Nat.reduceAdd, Nat.reduceLeDiff, Nat.reduceMul, Nat.reduceSub, Int.reduceLE, Int.reduceLT, Int.reduceEq, Int.reduceToNat, Int.reducePow, Int.reduceNeg, hk]
      refine hK _ ?_; clear hK
      refine bwp_cond false (by simp [ev, fget]) (fun h => nomatch h) (fun _ => ?_)
      refine bwp_leads (S' := rlS s a p rd') (Leads.ent [(0, 0)] ⟨by simp [entT, fget, AV.ren, renL, pget, rlS, lexC], by simp [entM, pinv, mget, mset, renL, AV.ren, pget, renL_append, -List.map_map, rlS, lexC], rfl, rfl⟩) ?_
      exact bwp_exit (hout rd' hpk.1 (by rw [hd, runL, if_neg ha]))
  · have he : p = s.length := by omega
    simp -implicitDefEqProofs only [go_sem, ↓reduceIte, Nat.reduceEqDiff, Nat.reduceAdd, Nat.reduceLeDiff, Nat.reduceMul, Nat.reduceSub, Int.reduceLE, Int.reduceLT, Int.reduceEq, Int.reduceToNat, Int.reducePow, Int.reduceNeg, hlt, decide_false, lexC, mset]
    refine hK _ ?_; clear hK
    refine bwp_cond false (by simp [ev, fget]) (fun h => nomatch h) (fun _ => ?_)
    refine bwp_leads (S' := rlS s a p rd) (Leads.ent [(0, 0)] ⟨by simp [entT, fget, AV.ren, renL, pget, rlS, lexC], by simp [entM, pinv, mget, mset, renL, AV.ren, pget, renL_append, -List.map_map, rlS, lexC], rfl, rfl⟩) ?_
    exact bwp_exit (hout rd hrd (by rw [he, List.drop_length]; rfl))

theorem run_calls {s : List UInt8} (hs : s.length ≤ 140737488351232) {a p rd : Nat} (hp : p ≤ s.length) (hr : p ≤ rd ∧ rd ≤ s.length) :
    ACalls Tryd.prog 36 [.ptr 0 0, .d (.int .i64 p)] [(0, lexC s a rd 0 0)] fun r m' => r = .d (.int .i64 (p + runL (s.drop p) : Nat)) ∧ ∃ rd', rdIn s rd (p + runL (s.drop p)) rd' ∧ m' = [(0, lexC s a rd' 0 0)] := by
  refine acalls_of Tryd.func36 ac36_ok Tryd.ntmps36 Tryd.results36 rfl ?_
  unfold ac36
  refine bwp_seq fun K hK => bwp_region rfl ?_
  simp -implicitDefEqProofs only [go_sem, ↓reduceIte, Nat.reduceEqDiff, Nat.reduceAdd, Nat.reduceLeDiff, Nat.reduceMul, Nat.reduceSub, Int.reduceLE, Int.reduceLT, Int.reduceEq, Int.reduceToNat, Int.reducePow, Int.reduceNeg]
  refine hK _ ?_; clear hK
  refine bwp_seq fun K1 hK1 => ?_
  refine bwp_block ?_
  refine bwp_leads (S' := rlS s a p rd) (Leads.ent [(0, 0)] ⟨by simp [entT, fget, AV.ren, renL, pget, rlS, lexC, frm], by simp [entM, pinv, mget, mset, renL, AV.ren, pget, renL_append, -List.map_map, rlS, lexC, frm], rfl, rfl⟩) ?_
  refine rl_loop hs (rd0 := rd) hp (by unfold rdIn; omega) ?_
  intro rd' h
  unfold rlS
  simp -implicitDefEqProofs only [go_sem, ↓reduceIte, Nat.reduceEqDiff, Nat.reduceAdd, Nat.reduceLeDiff, Nat.reduceMul, Nat.reduceSub, Int.reduceLE, Int.reduceLT, Int.reduceEq, Int.reduceToNat, Int.reducePow, Int.reduceNeg]
  refine hK1 _ ?_; clear hK1
  refine bwp_seq fun K hK => bwp_region rfl ?_
  simp -implicitDefEqProofs only [go_sem, ↓reduceIte, Nat.reduceEqDiff, Nat.reduceAdd, Nat.reduceLeDiff, Nat.reduceMul, Nat.reduceSub, Int.reduceLE, Int.reduceLT, Int.reduceEq, Int.reduceToNat, Int.reducePow, Int.reduceNeg]
  refine hK _ ?_; clear hK
  refine bwp_ret ?_
  simp only [go_sem]
  refine aend_mem (.d (.int .i64 (p + runL (s.drop p) : Nat))) [(0, 0)] [(0, lexC s a rd' 0 0)] ?_ rfl rfl ?_ ⟨rfl, rd', h, rfl⟩
  · simp [resA, resVs, resV, fget]
  · simp [entM, pinv, mget, renL, AV.ren, lexC]

/-! ### Called -/

theorem skip_callK {s : List UInt8} (hs : s.length ≤ 140737488351232) {a rd : Nat} (ha : a ≤ s.length) (hr : a ≤ rd ∧ rd ≤ s.length) {j : Nat} {dst : Option Nat} {r : List AOper} {K : St → Prop} {t : Fr} {m : Mem} {n : Nat} (hm : mget m j = some (lexC s a rd 0 0))
    (hk : ∀ rd', rdIn s rd (skipA s a) rd' → runOps Tryd.prog r ⟨putF t dst (.tup []), mset m j (lexC s (skipA s a) rd' 0 0), n + 1⟩ K) : callK Tryd.prog 32 [.ptr j 0] dst r K t m n := by
  refine meth_callK (rest := []) (Q := fun r c' => r = .tup [] ∧ ∃ rd', rdIn s rd (skipA s a) rd' ∧ c' = lexC s (skipA s a) rd' 0 0) ((skip_calls hs ha hr).mono fun r m' h => ?_) rfl rfl ?_ hm ?_
  · obtain ⟨h1, rd', h2, h3⟩ := h
    exact ⟨_, h3, h1, rd', h2, rfl⟩
  · rintro _ _ ⟨rfl, rd', _, rfl⟩; exact ⟨rfl, rfl⟩
  · rintro _ _ ⟨rfl, rd', h, rfl⟩; exact hk rd' h

theorem run_callK {s : List UInt8} (hs : s.length ≤ 140737488351232) {a p rd : Nat} (hp : p ≤ s.length) (hr : p ≤ rd ∧ rd ≤ s.length) {j : Nat} {dst : Option Nat} {r : List AOper} {K : St → Prop} {t : Fr} {m : Mem} {n : Nat} (hm : mget m j = some (lexC s a rd 0 0))
    (hk : ∀ rd', rdIn s rd (p + runL (s.drop p)) rd' → runOps Tryd.prog r ⟨putF t dst (.d (.int .i64 (p + runL (s.drop p) : Nat))), mset m j (lexC s a rd' 0 0), n + 1⟩ K) : callK Tryd.prog 36 [.ptr j 0, .d (.int .i64 p)] dst r K t m n := by
  refine meth_callK (rest := [.d (.int .i64 p)]) (Q := fun r c' => r = .d (.int .i64 (p + runL (s.drop p) : Nat)) ∧ ∃ rd', rdIn s rd (p + runL (s.drop p)) rd' ∧ c' = lexC s a rd' 0 0) ((run_calls hs hp hr).mono fun r m' h => ?_) rfl rfl ?_ hm ?_
  · obtain ⟨h1, rd', h2, h3⟩ := h
    exact ⟨_, h3, h1, rd', h2, rfl⟩
  · rintro _ _ ⟨rfl, rd', _, rfl⟩; exact ⟨rfl, rfl⟩
  · rintro _ _ ⟨rfl, rd', h, rfl⟩; exact hk rd' h

end Go.Proofs.YtpfbljkfbjjlkaaDoor
