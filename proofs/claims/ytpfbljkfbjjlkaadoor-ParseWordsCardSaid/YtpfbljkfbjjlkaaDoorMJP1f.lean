/- What the statement's proof leans on, part 6: the layer, the walks, the plain laws. -/
import Derived.Test.YtpfbljkfbjjlkaaDoorMJP1e
import Derived.Test.YtpfbljkfbjjlkaaDoorMJP1d

/- The document's reader: words, numbers, names, operands. -/
namespace Go.Proofs.YtpfbljkfbjjlkaaDoor
open Go Go.Jq
set_option maxRecDepth 100000
set_option linter.unusedSimpArgs false

theorem RL.pos {s : List UInt8} {σ : PR Nat} {r : RSt} (h : RL s σ r) (hc : r.code = 0) : (r.tok.kd = 1 → r.tok.tx ≠ []) ∧ r.tok.tx.length ≤ s.length ∧ (r.tok.kd = 2 → (refW r.tok.tx).1 = (parseW r.tok.tx).1) := by
  cases σ with
  | error e => exact absurd hc h.codeE
  | ok a =>
    obtain ⟨h1, h2, h3, h4, h5, h6⟩ := h
    have hp := curT_pos h3 h4
    rw [h5]
    refine ⟨hp.1, hp.2, fun hk => ?_⟩
    have hok : (parseW (curT s a).tx).2 = true := by
      have h0 : (nextW s a).2.2 = 0 := h4
      unfold curT nextW at *
      generalize s.drop (skipA s a) = l at *
      cases l with
      | nil => simp [tokAt] at hk
      | cons c r =>
        rw [tokAt] at hk h0 ⊢
        split
        · rename_i hc'
          rw [if_pos hc'] at hk
          simp at hk
        · rename_i hc'
          rw [if_neg hc'] at hk h0
          split
          · rename_i hd
            rw [if_pos hd] at hk h0
            split
            · rename_i hpw; exact hpw
            · rename_i hpw
              rw [if_neg hpw] at h0
              simp at h0
          · rename_i hd
            rw [if_neg hd] at hk h0
            split
            · rename_i hs
              rw [if_pos hs] at h0
              simp at h0
            · rename_i hs
              rw [if_neg hs] at hk
              simp at hk
    have := numW_eq (curT s a).tx
    unfold numW at this
    cases hr : (refW (curT s a).tx).2 with
    | true => rw [if_pos hr] at this; rw [this]
    | false =>
      rw [if_neg (by rw [hr]; decide)] at this
      rw [← this] at hok
      cases hok

set_option maxHeartbeats 4000000 in
theorem word2_calls {s : List UInt8} (hs : s.length ≤ 140737488351232) {σ : PR Nat} {r : RSt} (h : RS s σ r) :
    ACalls Tryd.prog 54 [.ptr 0 0] [(0, rdC s r)] fun v m' => ∃ r', m' = [(0, rdC s r')] ∧ ∃ x, v = .d (.str x) ∧ RQ s (thn σ (tWord.run s)) x r' := by
  refine acalls_of Tryd.func54 ac54_ok Tryd.ntmps54 Tryd.results54 rfl ?_
  unfold ac54
  refine bwp_seq fun K hK => bwp_region rfl ?_
  simp -implicitDefEqProofs only [go_sem, ↓reduceIte, Nat.reduceEqDiff, Nat.reduceAdd, Nat.reduceLeDiff, Nat.reduceMul, Nat.reduceSub, Int.reduceLE, Int.reduceLT, Int.reduceEq, Int.reduceToNat, Int.reducePow, Int.reduceNeg]
  refine hK _ ?_; clear hK
  refine bwp_seq fun K hK => bwp_region rfl ?_
  simp -implicitDefEqProofs only [go_sem, ↓reduceIte, Nat.reduceEqDiff, Nat.reduceAdd, Nat.reduceLeDiff, Nat.reduceMul, Nat.reduceSub, Int.reduceLE, Int.reduceLT, Int.reduceEq, Int.reduceToNat, Int.reducePow, Int.reduceNeg]
  refine look_callK hs h rfl ?_
  intro q hq
  have bad : ∀ {y : List UInt8}, (q.code = 0 → q.tok.kd ≠ 1) → RQ s (thn σ (tWord.run s)) y (failR q 6) := by
    intro y hn
    cases σ with
    | error e => exact (hq.fail (by decide) (α := Unit)).rs
    | ok a =>
      refine RQ.cur hq ?_
      rw [if_neg (hn hq.code)]
      exact RQ.bad hq (by decide) _
  by_cases h0 : q.code = 0
  · rw [lkT_ok h0]
    simp -implicitDefEqProofs only [go_sem, ↓reduceIte, Nat.reduceEqDiff, Nat.reduceAdd, Nat.reduceLeDiff, Nat.reduceMul, Nat.reduceSub, Int.reduceLE, Int.reduceLT, Int.reduceEq, Int.reduceToNat, Int.reducePow, Int.reduceNeg, mset]
    refine hK _ ?_; clear hK
    refine bwp_seq fun K1 hK1 => ?_
    by_cases h1 : q.tok.kd = 1
    · refine bwp_seq fun K hK => bwp_region rfl ?_
      simp -implicitDefEqProofs only [go_sem, ↓reduceIte, Nat.reduceEqDiff, Nat.reduceAdd, Nat.reduceLeDiff, Nat.reduceMul, Nat.reduceSub, Int.reduceLE, Int.reduceLT, Int.reduceEq, Int.reduceToNat, Int.reducePow, Int.reduceNeg, eq_true h0, eq_true h1, rdC, decide_true]
      refine hK _ ?_; clear hK
      refine bwp_cond false (by simp [ev, fget]) (fun h => nomatch h) (fun _ => ?_)
      refine bwp_skip ?_
      refine hK1 _ ?_; clear hK1
      refine bwp_seq fun K hK => bwp_region rfl ?_
      simp -implicitDefEqProofs only [go_sem, ↓reduceIte, Nat.reduceEqDiff, Nat.reduceAdd, Nat.reduceLeDiff, Nat.reduceMul, Nat.reduceSub, Int.reduceLE, Int.reduceLT, Int.reduceEq, Int.reduceToNat, Int.reducePow, Int.reduceNeg]
      refine go_callK s q rfl ?_
      simp -implicitDefEqProofs only [go_sem, ↓reduceIte, Nat.reduceEqDiff, Nat.reduceAdd, Nat.reduceLeDiff, Nat.reduceMul, Nat.reduceSub, Int.reduceLE, Int.reduceLT, Int.reduceEq, Int.reduceToNat, Int.reducePow, Int.reduceNeg, mset]
      refine hK _ ?_; clear hK
      refine bwp_seq fun K hK => bwp_region rfl ?_
      simp -implicitDefEqProofs only [go_sem, ↓reduceIte, Nat.reduceEqDiff, Nat.reduceAdd, Nat.reduceLeDiff, Nat.reduceMul, Nat.reduceSub, Int.reduceLE, Int.reduceLT, Int.reduceEq, Int.reduceToNat, Int.reducePow, Int.reduceNeg]
      refine hK _ ?_; clear hK
      refine bwp_ret ?_
      simp only [go_sem]
      refine aend_mem (.d (.str q.tok.tx)) [(0, 0)] [(0, rdC s (goR q))] ?_ rfl rfl ?_ ⟨_, rfl, q.tok.tx, rfl, ?_⟩
      · simp [resA, resVs, resV, fget]
      · simp [entM, pinv, mget, mset, renL, AV.ren, rdC, pget]
      · refine RQ.cur hq ?_
        rw [if_pos h1]
        exact RQ.eat (RQ.ret (hq.goT h0))
    · refine bwp_seq fun K hK => bwp_region rfl ?_
      simp -implicitDefEqProofs only [go_sem, ↓reduceIte, Nat.reduceEqDiff, Nat.reduceAdd, Nat.reduceLeDiff, Nat.reduceMul, Nat.reduceSub, Int.reduceLE, Int.reduceLT, Int.reduceEq, Int.reduceToNat, Int.reducePow, Int.reduceNeg, eq_true h0, eq_false h1, rdC, decide_true, decide_false]
      refine hK _ ?_; clear hK
      refine bwp_cond true (by simp [ev, fget]) (fun _ => ?_) (fun h => nomatch h)
      refine bwp_seq fun K hK => bwp_region rfl ?_
      simp -implicitDefEqProofs only [go_sem, ↓reduceIte, Nat.reduceEqDiff, Nat.reduceAdd, Nat.reduceLeDiff, Nat.reduceMul, Nat.reduceSub, Int.reduceLE, Int.reduceLT, Int.reduceEq, Int.reduceToNat, Int.reducePow, Int.reduceNeg]
      refine fail2_callK s q 6 rfl ?_
      simp -implicitDefEqProofs only [go_sem, ↓reduceIte, Nat.reduceEqDiff, Nat.reduceAdd, Nat.reduceLeDiff, Nat.reduceMul, Nat.reduceSub, Int.reduceLE, Int.reduceLT, Int.reduceEq, Int.reduceToNat, Int.reducePow, Int.reduceNeg, mset]
      refine hK _ ?_; clear hK
      refine bwp_seq fun K hK => bwp_region rfl ?_
      simp -implicitDefEqProofs only [go_sem, ↓reduceIte, Nat.reduceEqDiff, Nat.reduceAdd, Nat.reduceLeDiff, Nat.reduceMul, Nat.reduceSub, Int.reduceLE, Int.reduceLT, Int.reduceEq, Int.reduceToNat, Int.reducePow, Int.reduceNeg]
      refine hK _ ?_; clear hK
      refine bwp_ret ?_
      simp only [go_sem]
      refine aend_mem (.d (.str [])) [(0, 0)] [(0, rdC s (failR q 6))] ?_ rfl rfl ?_ ⟨_, rfl, [], rfl, bad fun _ => h1⟩
      · simp [resA, resVs, resV, fget]
      · simp [entM, pinv, mget, mset, renL, AV.ren, rdC, pget]
  · rw [lkT_no h0]
    simp -implicitDefEqProofs only [go_sem, ↓reduceIte, Nat.reduceEqDiff, Nat.reduceAdd, Nat.reduceLeDiff, Nat.reduceMul, Nat.reduceSub, Int.reduceLE, Int.reduceLT, Int.reduceEq, Int.reduceToNat, Int.reducePow, Int.reduceNeg, mset]
    refine hK _ ?_; clear hK
    refine bwp_seq fun K1 hK1 => ?_
    refine bwp_seq fun K hK => bwp_region rfl ?_
    simp -implicitDefEqProofs only [go_sem, ↓reduceIte, Nat.reduceEqDiff, Nat.reduceAdd, Nat.reduceLeDiff, Nat.reduceMul, Nat.reduceSub, Int.reduceLE, Int.reduceLT, Int.reduceEq, Int.reduceToNat, Int.reducePow, Int.reduceNeg, eq_false h0, rdC, decide_false]
    refine hK _ ?_; clear hK
    refine bwp_cond true (by simp [ev, fget]) (fun _ => ?_) (fun h => nomatch h)
    refine bwp_seq fun K hK => bwp_region rfl ?_
    simp -implicitDefEqProofs only [go_sem, ↓reduceIte, Nat.reduceEqDiff, Nat.reduceAdd, Nat.reduceLeDiff, Nat.reduceMul, Nat.reduceSub, Int.reduceLE, Int.reduceLT, Int.reduceEq, Int.reduceToNat, Int.reducePow, Int.reduceNeg]
    refine fail2_callK s q 6 rfl ?_
    simp -implicitDefEqProofs only [go_sem, ↓reduceIte, Nat.reduceEqDiff, Nat.reduceAdd, Nat.reduceLeDiff, Nat.reduceMul, Nat.reduceSub, Int.reduceLE, Int.reduceLT, Int.reduceEq, Int.reduceToNat, Int.reducePow, Int.reduceNeg, mset]
    refine hK _ ?_; clear hK
    refine bwp_seq fun K hK => bwp_region rfl ?_
    simp -implicitDefEqProofs only [go_sem, ↓reduceIte, Nat.reduceEqDiff, Nat.reduceAdd, Nat.reduceLeDiff, Nat.reduceMul, Nat.reduceSub, Int.reduceLE, Int.reduceLT, Int.reduceEq, Int.reduceToNat, Int.reducePow, Int.reduceNeg]
    refine hK _ ?_; clear hK
    refine bwp_ret ?_
    simp only [go_sem]
    refine aend_mem (.d (.str [])) [(0, 0)] [(0, rdC s (failR q 6))] ?_ rfl rfl ?_ ⟨_, rfl, [], rfl, bad fun h => absurd h h0⟩
    · simp [resA, resVs, resV, fget]
    · simp [entM, pinv, mget, mset, renL, AV.ren, rdC, pget]

theorem word2_callK {s : List UInt8} (hs : s.length ≤ 140737488351232) {σ : PR Nat} {r : RSt} (h : RS s σ r) {j : Nat} {dst : Option Nat} {ops : List AOper} {K : St → Prop} {t : Fr} {m : Mem} {n : Nat} (hm : mget m j = some (rdC s r))
    (hk : ∀ x r', RQ s (thn σ (tWord.run s)) x r' → runOps Tryd.prog ops ⟨putF t dst (.d (.str x)), mset m j (rdC s r'), n + 1⟩ K) : callK Tryd.prog 54 [.ptr j 0] dst ops K t m n := by
  refine rd_callK (rest := []) (Q := fun v r' => ∃ x, v = .d (.str x) ∧ RQ s (thn σ (tWord.run s)) x r') (word2_calls hs h) rfl ?_ hm ?_
  · rintro _ _ ⟨_, rfl, _⟩; rfl
  · rintro _ r' ⟨x, rfl, h⟩; exact hk x r' h

/-- What a number's reading leaves besides. -/
def NumF (s : List UInt8) (σ : PR Nat) (x : Int) (r : RSt) : Prop :=
  (r.code = 0 ∧ ∃ a, σ = .ok a ∧ (curT s a).kd = 2 ∧ x = (parseW (curT s a).tx).1 ∧ r.tok.pl = (curT s a).pl ∧ RS s (eatW s a) r) ∨ (r.code ≠ 0 ∧ ∀ a, σ = .ok a → (curT s a).kd ≠ 2)

theorem u8_sub48 (c : UInt8) (h : (48 : Int) ≤ c.toNat) (h2 : (c.toNat : Int) ≤ 51) : IntKind.u8.wrap ((c.toNat : Int) - 48) = ((c.toNat - 48 : Nat) : Int) := by
  rw [IntKind.wrap]; simp [IntKind.bits]; omega

set_option maxHeartbeats 4000000 in
theorem num2_calls {s : List UInt8} (hs : s.length ≤ 4000) {σ : PR Nat} {r : RSt} (h : RS s σ r) :
    ACalls Tryd.prog 58 [.ptr 0 0] [(0, rdC s r)] fun v m' => ∃ r', m' = [(0, rdC s r')] ∧ ∃ x, v = .d (.int .i64 x) ∧ RQ s (thn σ (tNum.run s)) x r' ∧ NumF s σ x r' := by
  have hs' : s.length ≤ 140737488351232 := by omega
  refine acalls_of Tryd.func58 ac58_ok Tryd.ntmps58 Tryd.results58 rfl ?_
  unfold ac58
  refine bwp_seq fun K hK => bwp_region rfl ?_
  simp -implicitDefEqProofs only [go_sem, ↓reduceIte, Nat.reduceEqDiff, Nat.reduceAdd, Nat.reduceLeDiff, Nat.reduceMul, Nat.reduceSub, Int.reduceLE, Int.reduceLT, Int.reduceEq, Int.reduceToNat, Int.reducePow, Int.reduceNeg]
  refine hK _ ?_; clear hK
  refine bwp_seq fun K hK => bwp_region rfl ?_
  simp -implicitDefEqProofs only [go_sem, ↓reduceIte, Nat.reduceEqDiff, Nat.reduceAdd, Nat.reduceLeDiff, Nat.reduceMul, Nat.reduceSub, Int.reduceLE, Int.reduceLT, Int.reduceEq, Int.reduceToNat, Int.reducePow, Int.reduceNeg]
  refine look_callK hs' h rfl ?_
  intro q hq
  have bad : ∀ {y : Int}, (q.code = 0 → q.tok.kd ≠ 2) → RQ s (thn σ (tNum.run s)) y (failR q 6) := by
    intro y hn
    cases σ with
    | error e => exact (hq.fail (by decide) (α := Unit)).rs
    | ok a =>
      refine RQ.cur hq ?_
      rw [if_neg (hn hq.code)]
      exact RQ.bad hq (by decide) _
  by_cases h0 : q.code = 0
  · rw [lkT_ok h0]
    have hp := hq.pos h0
    have kp := refParse_pure (s := q.tok.tx) (Nat.le_trans hp.2.1 (Nat.le_trans hs (by decide)))
    simp -implicitDefEqProofs only [go_sem, ↓reduceIte, Nat.reduceEqDiff, Nat.reduceAdd, Nat.reduceLeDiff, Nat.reduceMul, Nat.reduceSub, Int.reduceLE, Int.reduceLT, Int.reduceEq, Int.reduceToNat, Int.reducePow, Int.reduceNeg, mset]
    refine hK _ ?_; clear hK
    refine bwp_seq fun K1 hK1 => ?_
    by_cases h1 : q.tok.kd = 2
    · rw [hp.2.2 h1] at kp
      refine bwp_seq fun K hK => bwp_region rfl ?_
      simp -implicitDefEqProofs only [go_sem, ↓reduceIte, Nat.reduceEqDiff, Nat.reduceAdd, Nat.reduceLeDiff, Nat.reduceMul, Nat.reduceSub, Int.reduceLE, Int.reduceLT, Int.reduceEq, Int.reduceToNat, Int.reducePow, Int.reduceNeg, eq_true h0, eq_true h1, rdC, decide_true]
      refine hK _ ?_; clear hK
      refine bwp_cond false (by simp [ev, fget]) (fun h => nomatch h) (fun _ => ?_)
      refine bwp_skip ?_
      refine hK1 _ ?_; clear hK1
      refine bwp_seq fun K hK => bwp_region rfl ?_
      simp -implicitDefEqProofs only [go_sem, ↓reduceIte, Nat.reduceEqDiff, Nat.reduceAdd, Nat.reduceLeDiff, Nat.reduceMul, Nat.reduceSub, Int.reduceLE, Int.reduceLT, Int.reduceEq, Int.reduceToNat, Int.reducePow, Int.reduceNeg]
      refine go_callK s q rfl ?_
      simp -implicitDefEqProofs only [go_sem, ↓reduceIte, Nat.reduceEqDiff, Nat.reduceAdd, Nat.reduceLeDiff, Nat.reduceMul, Nat.reduceSub, Int.reduceLE, Int.reduceLT, Int.reduceEq, Int.reduceToNat, Int.reducePow, Int.reduceNeg, mset]
      refine hK _ ?_; clear hK
      refine bwp_seq fun K hK => bwp_region rfl ?_
      simp -implicitDefEqProofs only [go_sem, ↓reduceIte, Nat.reduceEqDiff, Nat.reduceAdd, Nat.reduceLeDiff, Nat.reduceMul, Nat.reduceSub, Int.reduceLE, Int.reduceLT, Int.reduceEq, Int.reduceToNat, Int.reducePow, Int.reduceNeg]
      repeat' (first
        | (refine gateK_split (fun hb => ?_) (fun hb => ?_) <;> simp -implicitDefEqProofs only [go_sem, ↓reduceIte, Nat.reduceEqDiff, Nat.reduceAdd, Nat.reduceLeDiff, Nat.reduceMul, Nat.reduceSub, Int.reduceLE, Int.reduceLT, Int.reduceEq, Int.reduceToNat, Int.reducePow, Int.reduceNeg, hb])
        | (refine dGateK_split (fun hb => ?_) (fun hb => ?_) <;> simp -implicitDefEqProofs only [go_sem, ↓reduceIte, Nat.reduceEqDiff, Nat.reduceAdd, Nat.reduceLeDiff, Nat.reduceMul, Nat.reduceSub, Int.reduceLE, Int.reduceLT, Int.reduceEq, Int.reduceToNat, Int.reducePow, Int.reduceNeg, hb])
        | (refine callK_pure (kp) rfl rfl ?_; simp -implicitDefEqProofs only [go_sem, ↓reduceIte, Nat.reduceEqDiff, Nat.reduceAdd, Nat.reduceLeDiff, Nat.reduceMul, Nat.reduceSub, Int.reduceLE, Int.reduceLT, Int.reduceEq, Int.reduceToNat, Int.reducePow, Int.reduceNeg])
        | (refine dCallK_pure (kp) rfl rfl ?_; simp -implicitDefEqProofs only [go_sem, ↓reduceIte, Nat.reduceEqDiff, Nat.reduceAdd, Nat.reduceLeDiff, Nat.reduceMul, Nat.reduceSub, Int.reduceLE, Int.reduceLT, Int.reduceEq, Int.reduceToNat, Int.reducePow, Int.reduceNeg])
        | (rw [if_pos (by (try simp only [List.length_append, List.length_cons, List.length_nil, List.length_map]); omega)]; simp -implicitDefEqProofs only [go_sem, ↓reduceIte, Nat.reduceEqDiff, Nat.reduceAdd, Nat.reduceLeDiff, Nat.reduceMul, Nat.reduceSub, Int.reduceLE, Int.reduceLT, Int.reduceEq, Int.reduceToNat, Int.reducePow, Int.reduceNeg]))
      refine hK _ ?_; clear hK
      refine bwp_seq fun K hK => bwp_region rfl ?_
      simp -implicitDefEqProofs only [go_sem, ↓reduceIte, Nat.reduceEqDiff, Nat.reduceAdd, Nat.reduceLeDiff, Nat.reduceMul, Nat.reduceSub, Int.reduceLE, Int.reduceLT, Int.reduceEq, Int.reduceToNat, Int.reducePow, Int.reduceNeg]
      refine hK _ ?_; clear hK
      refine bwp_ret ?_
      simp only [go_sem]
      refine aend_mem (.d (.int .i64 (parseW q.tok.tx).1)) [(0, 0)] [(0, rdC s (goR q))] ?_ rfl rfl ?_ ⟨_, rfl, _, rfl, ?_, ?_⟩
      · simp [resA, resVs, resV, fget]
      · simp [entM, pinv, mget, mset, renL, AV.ren, rdC, pget]
      · refine RQ.cur hq ?_
        rw [if_pos h1]
        exact RQ.eat (RQ.ret (hq.goT h0))
      · cases σ with
        | error e => exact absurd h0 hq.codeE
        | ok a =>
          have ht := hq.2.2.2.2.1
          exact .inl ⟨h0, a, rfl, by rw [← ht]; exact h1, by rw [← ht], by rw [← ht]; rfl, hq.go⟩
    · refine bwp_seq fun K hK => bwp_region rfl ?_
      simp -implicitDefEqProofs only [go_sem, ↓reduceIte, Nat.reduceEqDiff, Nat.reduceAdd, Nat.reduceLeDiff, Nat.reduceMul, Nat.reduceSub, Int.reduceLE, Int.reduceLT, Int.reduceEq, Int.reduceToNat, Int.reducePow, Int.reduceNeg, eq_true h0, eq_false h1, rdC, decide_true, decide_false]
      refine hK _ ?_; clear hK
      refine bwp_cond true (by simp [ev, fget]) (fun _ => ?_) (fun h => nomatch h)
      refine bwp_seq fun K hK => bwp_region rfl ?_
      simp -implicitDefEqProofs only [go_sem, ↓reduceIte, Nat.reduceEqDiff, Nat.reduceAdd, Nat.reduceLeDiff, Nat.reduceMul, Nat.reduceSub, Int.reduceLE, Int.reduceLT, Int.reduceEq, Int.reduceToNat, Int.reducePow, Int.reduceNeg]
      refine fail2_callK s q 6 rfl ?_
      simp -implicitDefEqProofs only [go_sem, ↓reduceIte, Nat.reduceEqDiff, Nat.reduceAdd, Nat.reduceLeDiff, Nat.reduceMul, Nat.reduceSub, Int.reduceLE, Int.reduceLT, Int.reduceEq, Int.reduceToNat, Int.reducePow, Int.reduceNeg, mset]
      refine hK _ ?_; clear hK
      refine bwp_seq fun K hK => bwp_region rfl ?_
      simp -implicitDefEqProofs only [go_sem, ↓reduceIte, Nat.reduceEqDiff, Nat.reduceAdd, Nat.reduceLeDiff, Nat.reduceMul, Nat.reduceSub, Int.reduceLE, Int.reduceLT, Int.reduceEq, Int.reduceToNat, Int.reducePow, Int.reduceNeg]
      refine hK _ ?_; clear hK
      refine bwp_ret ?_
      simp only [go_sem]
      refine aend_mem (.d (.int .i64 0)) [(0, 0)] [(0, rdC s (failR q 6))] ?_ rfl rfl ?_ ⟨_, rfl, 0, rfl, bad fun _ => h1, .inr ⟨failR_code (by decide), fun a ha => by subst ha; rw [← hq.2.2.2.2.1]; exact h1⟩⟩
      · simp [resA, resVs, resV, fget]
      · simp [entM, pinv, mget, mset, renL, AV.ren, rdC, pget]
  · rw [lkT_no h0]
    simp -implicitDefEqProofs only [go_sem, ↓reduceIte, Nat.reduceEqDiff, Nat.reduceAdd, Nat.reduceLeDiff, Nat.reduceMul, Nat.reduceSub, Int.reduceLE, Int.reduceLT, Int.reduceEq, Int.reduceToNat, Int.reducePow, Int.reduceNeg, mset]
    refine hK _ ?_; clear hK
    refine bwp_seq fun K1 hK1 => ?_
    refine bwp_seq fun K hK => bwp_region rfl ?_
    simp -implicitDefEqProofs only [go_sem, ↓reduceIte, Nat.reduceEqDiff, Nat.reduceAdd, Nat.reduceLeDiff, Nat.reduceMul, Nat.reduceSub, Int.reduceLE, Int.reduceLT, Int.reduceEq, Int.reduceToNat, Int.reducePow, Int.reduceNeg, eq_false h0, rdC, decide_false]
    refine hK _ ?_; clear hK
    refine bwp_cond true (by simp [ev, fget]) (fun _ => ?_) (fun h => nomatch h)
    refine bwp_seq fun K hK => bwp_region rfl ?_
    simp -implicitDefEqProofs only [go_sem, ↓reduceIte, Nat.reduceEqDiff, Nat.reduceAdd, Nat.reduceLeDiff, Nat.reduceMul, Nat.reduceSub, Int.reduceLE, Int.reduceLT, Int.reduceEq, Int.reduceToNat, Int.reducePow, Int.reduceNeg]
    refine fail2_callK s q 6 rfl ?_
    simp -implicitDefEqProofs only [go_sem, ↓reduceIte, Nat.reduceEqDiff, Nat.reduceAdd, Nat.reduceLeDiff, Nat.reduceMul, Nat.reduceSub, Int.reduceLE, Int.reduceLT, Int.reduceEq, Int.reduceToNat, Int.reducePow, Int.reduceNeg, mset]
    refine hK _ ?_; clear hK
    refine bwp_seq fun K hK => bwp_region rfl ?_
    simp -implicitDefEqProofs only [go_sem, ↓reduceIte, Nat.reduceEqDiff, Nat.reduceAdd, Nat.reduceLeDiff, Nat.reduceMul, Nat.reduceSub, Int.reduceLE, Int.reduceLT, Int.reduceEq, Int.reduceToNat, Int.reducePow, Int.reduceNeg]
    refine hK _ ?_; clear hK
    refine bwp_ret ?_
    simp only [go_sem]
    refine aend_mem (.d (.int .i64 0)) [(0, 0)] [(0, rdC s (failR q 6))] ?_ rfl rfl ?_ ⟨_, rfl, 0, rfl, bad fun h => absurd h h0, .inr ⟨failR_code (by decide), fun a ha => by subst ha; exact absurd hq.code h0⟩⟩
    · simp [resA, resVs, resV, fget]
    · simp [entM, pinv, mget, mset, renL, AV.ren, rdC, pget]

theorem num2_callK {s : List UInt8} (hs : s.length ≤ 4000) {σ : PR Nat} {r : RSt} (h : RS s σ r) {j : Nat} {dst : Option Nat} {ops : List AOper} {K : St → Prop} {t : Fr} {m : Mem} {n : Nat} (hm : mget m j = some (rdC s r))
    (hk : ∀ x r', RQ s (thn σ (tNum.run s)) x r' → NumF s σ x r' → runOps Tryd.prog ops ⟨putF t dst (.d (.int .i64 x)), mset m j (rdC s r'), n + 1⟩ K) : callK Tryd.prog 58 [.ptr j 0] dst ops K t m n := by
  refine rd_callK (rest := []) (Q := fun v r' => ∃ x, v = .d (.int .i64 x) ∧ RQ s (thn σ (tNum.run s)) x r' ∧ NumF s σ x r') (num2_calls hs h) rfl ?_ hm ?_
  · rintro _ _ ⟨_, rfl, _⟩; rfl
  · rintro _ r' ⟨x, rfl, h, h'⟩; exact hk x r' h h'

set_option maxHeartbeats 4000000 in
theorem loc2_calls {s : List UInt8} (hs : s.length ≤ 140737488351232) {σ : PR Nat} {r : RSt} (h : RS s σ r) :
    ACalls Tryd.prog 57 [.ptr 0 0] [(0, rdC s r)] fun v m' => ∃ r', m' = [(0, rdC s r')] ∧ ∃ x, v = .d (.int .i64 x) ∧ RQ s (thn σ ((tNamed locN).run s)) x r' := by
  refine acalls_of Tryd.func57 ac57_ok Tryd.ntmps57 Tryd.results57 rfl ?_
  unfold ac57
  refine bwp_seq fun K hK => bwp_region rfl ?_
  simp -implicitDefEqProofs only [go_sem, ↓reduceIte, Nat.reduceEqDiff, Nat.reduceAdd, Nat.reduceLeDiff, Nat.reduceMul, Nat.reduceSub, Int.reduceLE, Int.reduceLT, Int.reduceEq, Int.reduceToNat, Int.reducePow, Int.reduceNeg]
  refine hK _ ?_; clear hK
  refine bwp_seq fun K hK => bwp_region rfl ?_
  simp -implicitDefEqProofs only [go_sem, ↓reduceIte, Nat.reduceEqDiff, Nat.reduceAdd, Nat.reduceLeDiff, Nat.reduceMul, Nat.reduceSub, Int.reduceLE, Int.reduceLT, Int.reduceEq, Int.reduceToNat, Int.reducePow, Int.reduceNeg]
  refine look_callK hs h rfl ?_
  intro q hq
  by_cases h0 : q.code = 0
  · rw [lkT_ok h0]
    have hp := hq.pos h0
    simp -implicitDefEqProofs only [go_sem, ↓reduceIte, Nat.reduceEqDiff, Nat.reduceAdd, Nat.reduceLeDiff, Nat.reduceMul, Nat.reduceSub, Int.reduceLE, Int.reduceLT, Int.reduceEq, Int.reduceToNat, Int.reducePow, Int.reduceNeg, mset]
    refine hK _ ?_; clear hK
    refine bwp_seq fun K1 hK1 => ?_
    refine bwp_block ?_
    refine bwp_seq fun K hK => bwp_region rfl ?_
    simp -implicitDefEqProofs only [go_sem, ↓reduceIte, Nat.reduceEqDiff, Nat.reduceAdd, Nat.reduceLeDiff, Nat.reduceMul, Nat.reduceSub, Int.reduceLE, Int.reduceLT, Int.reduceEq, Int.reduceToNat, Int.reducePow, Int.reduceNeg, eq_true h0, rdC, decide_true, decide_false]
    refine hK _ ?_; clear hK
    refine bwp_cond false (by simp [ev, fget]) (fun h => nomatch h) (fun _ => ?_)
    by_cases h1 : q.tok.kd = 1
    · refine bwp_seq fun K hK => bwp_region rfl ?_
      simp -implicitDefEqProofs only [go_sem, ↓reduceIte, Nat.reduceEqDiff, Nat.reduceAdd, Nat.reduceLeDiff, Nat.reduceMul, Nat.reduceSub, Int.reduceLE, Int.reduceLT, Int.reduceEq, Int.reduceToNat, Int.reducePow, Int.reduceNeg, eq_true h1, decide_true, decide_false]
      refine hK _ ?_; clear hK
      refine bwp_cond false (by simp [ev, fget]) (fun h => nomatch h) (fun _ => ?_)
      by_cases hl : q.tok.tx.length = 1
      · have hl' : (q.tok.tx.length : Int) = 1 := by omega
        have hl0 : (0 : Int) < q.tok.tx.length := by omega
        have hb : ((q.tok.tx.getD 0 0).toNat : Int) < 256 := by have := (q.tok.tx.getD 0 0).toNat_lt; omega
        have hw : IntKind.i64.wrap ((q.tok.tx.getD 0 0).toNat : Int) = ((q.tok.tx.getD 0 0).toNat : Int) := wrap_i64 (by omega) (by omega)
        refine bwp_seq fun K hK => bwp_region rfl ?_
        simp -implicitDefEqProofs only [go_sem, ↓reduceIte, Nat.reduceEqDiff, Nat.reduceAdd, Nat.reduceLeDiff, Nat.reduceMul, Nat.reduceSub, Int.reduceLE, Int.reduceLT, Int.reduceEq, Int.reduceToNat, Int.reducePow, Int.reduceNeg, eq_true hl', decide_true, decide_false]
        refine hK _ ?_; clear hK
        refine bwp_cond false (by simp [ev, fget]) (fun h => nomatch h) (fun _ => ?_)
        refine bwp_skip ?_
        refine hK1 _ ?_; clear hK1
        refine bwp_seq fun K hK => bwp_region rfl ?_
        simp -implicitDefEqProofs only [go_sem, ↓reduceIte, Nat.reduceEqDiff, Nat.reduceAdd, Nat.reduceLeDiff, Nat.reduceMul, Nat.reduceSub, Int.reduceLE, Int.reduceLT, Int.reduceEq, Int.reduceToNat, Int.reducePow, Int.reduceNeg]
        refine go_callK s q rfl ?_
        simp -implicitDefEqProofs only [go_sem, ↓reduceIte, Nat.reduceEqDiff, Nat.reduceAdd, Nat.reduceLeDiff, Nat.reduceMul, Nat.reduceSub, Int.reduceLE, Int.reduceLT, Int.reduceEq, Int.reduceToNat, Int.reducePow, Int.reduceNeg, mset]
        refine hK _ ?_; clear hK
        refine bwp_seq fun K hK => bwp_region rfl ?_
        simp -implicitDefEqProofs only [go_sem, ↓reduceIte, Nat.reduceEqDiff, Nat.reduceAdd, Nat.reduceLeDiff, Nat.reduceMul, Nat.reduceSub, Int.reduceLE, Int.reduceLT, Int.reduceEq, Int.reduceToNat, Int.reducePow, Int.reduceNeg, hl0, hw]
        refine hK _ ?_; clear hK
        refine bwp_ret ?_
        simp only [go_sem]
        refine aend_mem (.d (.int .i64 ((q.tok.tx.getD 0 0).toNat : Int))) [(0, 0)] [(0, rdC s (goR q))] ?_ rfl rfl ?_ ⟨_, rfl, _, rfl, ?_⟩
        · simp [resA, resVs, resV, fget]
        · simp [entM, pinv, mget, mset, renL, AV.ren, rdC, pget]
        · refine RQ.cur hq ?_
          have hl2 : locN q.tok.tx = some ((q.tok.tx.getD 0 0).toNat : Int) := by unfold locN; rw [if_pos hl]
          rw [if_pos h1, hl2]
          exact RQ.eat (RQ.ret (hq.goT h0))
      · have hl' : ¬ (q.tok.tx.length : Int) = 1 := by omega
        refine bwp_seq fun K hK => bwp_region rfl ?_
        simp -implicitDefEqProofs only [go_sem, ↓reduceIte, Nat.reduceEqDiff, Nat.reduceAdd, Nat.reduceLeDiff, Nat.reduceMul, Nat.reduceSub, Int.reduceLE, Int.reduceLT, Int.reduceEq, Int.reduceToNat, Int.reducePow, Int.reduceNeg, eq_false hl', decide_true, decide_false]
        refine hK _ ?_; clear hK
        refine bwp_cond true (by simp [ev, fget]) (fun _ => ?_) (fun h => nomatch h)
        refine bwp_seq fun K hK => bwp_region rfl ?_
        simp -implicitDefEqProofs only [go_sem, ↓reduceIte, Nat.reduceEqDiff, Nat.reduceAdd, Nat.reduceLeDiff, Nat.reduceMul, Nat.reduceSub, Int.reduceLE, Int.reduceLT, Int.reduceEq, Int.reduceToNat, Int.reducePow, Int.reduceNeg]
        refine fail2_callK s q 7 rfl ?_
        simp -implicitDefEqProofs only [go_sem, ↓reduceIte, Nat.reduceEqDiff, Nat.reduceAdd, Nat.reduceLeDiff, Nat.reduceMul, Nat.reduceSub, Int.reduceLE, Int.reduceLT, Int.reduceEq, Int.reduceToNat, Int.reducePow, Int.reduceNeg, mset]
        refine hK _ ?_; clear hK
        refine bwp_seq fun K hK => bwp_region rfl ?_
        simp -implicitDefEqProofs only [go_sem, ↓reduceIte, Nat.reduceEqDiff, Nat.reduceAdd, Nat.reduceLeDiff, Nat.reduceMul, Nat.reduceSub, Int.reduceLE, Int.reduceLT, Int.reduceEq, Int.reduceToNat, Int.reducePow, Int.reduceNeg]
        refine hK _ ?_; clear hK
        refine bwp_ret ?_
        simp only [go_sem]
        refine aend_mem (.d (.int .i64 0)) [(0, 0)] [(0, rdC s (failR q 7))] ?_ rfl rfl ?_ ⟨_, rfl, 0, rfl, ?_⟩
        · simp [resA, resVs, resV, fget]
        · simp [entM, pinv, mget, mset, renL, AV.ren, rdC, pget]
        · refine RQ.cur hq ?_
          have hl2 : locN q.tok.tx = none := by unfold locN; rw [if_neg hl]
          rw [if_pos h1, hl2]
          exact RQ.bad hq (by decide) _
    · refine bwp_seq fun K hK => bwp_region rfl ?_
      simp -implicitDefEqProofs only [go_sem, ↓reduceIte, Nat.reduceEqDiff, Nat.reduceAdd, Nat.reduceLeDiff, Nat.reduceMul, Nat.reduceSub, Int.reduceLE, Int.reduceLT, Int.reduceEq, Int.reduceToNat, Int.reducePow, Int.reduceNeg, eq_false h1, decide_true, decide_false]
      refine hK _ ?_; clear hK
      refine bwp_cond true (by simp [ev, fget]) (fun _ => ?_) (fun h => nomatch h)
      refine bwp_seq fun K hK => bwp_region rfl ?_
      simp -implicitDefEqProofs only [go_sem, ↓reduceIte, Nat.reduceEqDiff, Nat.reduceAdd, Nat.reduceLeDiff, Nat.reduceMul, Nat.reduceSub, Int.reduceLE, Int.reduceLT, Int.reduceEq, Int.reduceToNat, Int.reducePow, Int.reduceNeg]
      refine fail2_callK s q 6 rfl ?_
      simp -implicitDefEqProofs only [go_sem, ↓reduceIte, Nat.reduceEqDiff, Nat.reduceAdd, Nat.reduceLeDiff, Nat.reduceMul, Nat.reduceSub, Int.reduceLE, Int.reduceLT, Int.reduceEq, Int.reduceToNat, Int.reducePow, Int.reduceNeg, mset]
      refine hK _ ?_; clear hK
      refine bwp_seq fun K hK => bwp_region rfl ?_
      simp -implicitDefEqProofs only [go_sem, ↓reduceIte, Nat.reduceEqDiff, Nat.reduceAdd, Nat.reduceLeDiff, Nat.reduceMul, Nat.reduceSub, Int.reduceLE, Int.reduceLT, Int.reduceEq, Int.reduceToNat, Int.reducePow, Int.reduceNeg]
      refine hK _ ?_; clear hK
      refine bwp_ret ?_
      simp only [go_sem]
      refine aend_mem (.d (.int .i64 0)) [(0, 0)] [(0, rdC s (failR q 6))] ?_ rfl rfl ?_ ⟨_, rfl, 0, rfl, ?_⟩
      · simp [resA, resVs, resV, fget]
      · simp [entM, pinv, mget, mset, renL, AV.ren, rdC, pget]
      · refine RQ.cur hq ?_
        rw [if_neg h1]
        exact RQ.bad hq (by decide) _
  · rw [lkT_no h0]
    simp -implicitDefEqProofs only [go_sem, ↓reduceIte, Nat.reduceEqDiff, Nat.reduceAdd, Nat.reduceLeDiff, Nat.reduceMul, Nat.reduceSub, Int.reduceLE, Int.reduceLT, Int.reduceEq, Int.reduceToNat, Int.reducePow, Int.reduceNeg, mset]
    refine hK _ ?_; clear hK
    refine bwp_seq fun K1 hK1 => ?_
    refine bwp_block ?_
    refine bwp_seq fun K hK => bwp_region rfl ?_
    simp -implicitDefEqProofs only [go_sem, ↓reduceIte, Nat.reduceEqDiff, Nat.reduceAdd, Nat.reduceLeDiff, Nat.reduceMul, Nat.reduceSub, Int.reduceLE, Int.reduceLT, Int.reduceEq, Int.reduceToNat, Int.reducePow, Int.reduceNeg, eq_false h0, rdC, decide_true, decide_false]
    refine hK _ ?_; clear hK
    refine bwp_cond true (by simp [ev, fget]) (fun _ => ?_) (fun h => nomatch h)
    refine bwp_seq fun K hK => bwp_region rfl ?_
    simp -implicitDefEqProofs only [go_sem, ↓reduceIte, Nat.reduceEqDiff, Nat.reduceAdd, Nat.reduceLeDiff, Nat.reduceMul, Nat.reduceSub, Int.reduceLE, Int.reduceLT, Int.reduceEq, Int.reduceToNat, Int.reducePow, Int.reduceNeg]
    refine hK _ ?_; clear hK
    refine bwp_ret ?_
    simp only [go_sem]
    refine aend_mem (.d (.int .i64 0)) [(0, 0)] [(0, rdC s q)] ?_ rfl rfl ?_ ⟨_, rfl, 0, rfl, ?_⟩
    · simp [resA, resVs, resV, fget]
    · simp [entM, pinv, mget, mset, renL, AV.ren, rdC, pget]
    · cases σ with
      | error e => exact hq.rs
      | ok a => exact absurd hq.code h0

theorem loc2_callK {s : List UInt8} (hs : s.length ≤ 140737488351232) {σ : PR Nat} {r : RSt} (h : RS s σ r) {j : Nat} {dst : Option Nat} {ops : List AOper} {K : St → Prop} {t : Fr} {m : Mem} {n : Nat} (hm : mget m j = some (rdC s r))
    (hk : ∀ x r', RQ s (thn σ ((tNamed locN).run s)) x r' → runOps Tryd.prog ops ⟨putF t dst (.d (.int .i64 x)), mset m j (rdC s r'), n + 1⟩ K) : callK Tryd.prog 57 [.ptr j 0] dst ops K t m n := by
  refine rd_callK (rest := []) (Q := fun v r' => ∃ x, v = .d (.int .i64 x) ∧ RQ s (thn σ ((tNamed locN).run s)) x r') (loc2_calls hs h) rfl ?_ hm ?_
  · rintro _ _ ⟨_, rfl, _⟩; rfl
  · rintro _ r' ⟨x, rfl, h⟩; exact hk x r' h

def regV (x : List UInt8) : Int := match regN x with
  | some n => n
  | none => -1

theorem regN_range {x : List UInt8} {n : Int} (h : regN x = some n) : 0 ≤ n ∧ n ≤ 3 := by
  unfold regN at h
  split at h
  · rename_i hh
    have := Option.some.inj h
    omega
  · cases h

set_option maxHeartbeats 4000000 in
theorem reg2_pure (x : List UInt8) : Pure Tryd.prog 94 [.d (.str x)] (.d (.int .i64 (regV x))) := by
  refine acalls_of Tryd.func94 ac94_ok Tryd.ntmps94 Tryd.results94 rfl ?_
  unfold ac94
  refine bwp_seq fun K hK => bwp_region rfl ?_
  simp -implicitDefEqProofs only [go_sem, ↓reduceIte, Nat.reduceEqDiff, Nat.reduceAdd, Nat.reduceLeDiff, Nat.reduceMul, Nat.reduceSub, Int.reduceLE, Int.reduceLT, Int.reduceEq, Int.reduceToNat, Int.reducePow, Int.reduceNeg]
  refine hK _ ?_; clear hK
  refine bwp_seq fun K1 hK1 => ?_
  have no : ∀ S, regN x = none → S.t = S.t → K1 S := by
    intro S hn _
    refine hK1 _ ?_; clear hK1
    refine bwp_seq fun K hK => bwp_region rfl ?_
    simp -implicitDefEqProofs only [go_sem, ↓reduceIte, Nat.reduceEqDiff, Nat.reduceAdd, Nat.reduceLeDiff, Nat.reduceMul, Nat.reduceSub, Int.reduceLE, Int.reduceLT, Int.reduceEq, Int.reduceToNat, Int.reducePow, Int.reduceNeg]
    refine hK _ ?_; clear hK
    refine bwp_ret ?_
    simp -implicitDefEqProofs only [go_sem, ↓reduceIte, Nat.reduceEqDiff, Nat.reduceAdd, Nat.reduceLeDiff, Nat.reduceMul, Nat.reduceSub, Int.reduceLE, Int.reduceLT, Int.reduceEq, Int.reduceToNat, Int.reducePow, Int.reduceNeg]
    refine aend_ret _ rfl rfl ⟨?_, rfl⟩
    simp [fget, regV, hn]
  by_cases h2 : x.length = 2
  · have h2' : (x.length : Int) = 2 := by omega
    have i0 : (0 : Int) < x.length := by omega
    have i1 : (1 : Int) < x.length := by omega
    by_cases hr : ((x.getD 0 0).toNat : Int) = 114
    · by_cases hlo : (48 : Int) ≤ (x.getD 1 0).toNat
      · by_cases hhi : ((x.getD 1 0).toNat : Int) ≤ 51
        · have hn : regN x = some (((x.getD 1 0).toNat - 48 : Nat) : Int) := by
            unfold regN
            rw [if_pos ⟨h2, u8eq (k := 114) hr, by omega, by omega⟩]
          have hw8 := u8_sub48 (x.getD 1 0) hlo hhi
          have hw : IntKind.i64.wrap (((x.getD 1 0).toNat - 48 : Nat) : Int) = (((x.getD 1 0).toNat - 48 : Nat) : Int) := wrap_i64 (by omega) (by omega)
          refine bwp_seq fun K hK => bwp_region rfl ?_
          simp -implicitDefEqProofs only [go_sem, ↓reduceIte, Nat.reduceEqDiff, Nat.reduceAdd, Nat.reduceLeDiff, Nat.reduceMul, Nat.reduceSub, Int.reduceLE, Int.reduceLT, Int.reduceEq, Int.reduceToNat, Int.reducePow, Int.reduceNeg, eq_true h2', i0, i1, eq_true hr, eq_true hlo, eq_true hhi, decide_true]
          refine hK _ ?_; clear hK
          refine bwp_cond true (by simp [ev, fget]) (fun _ => ?_) (fun h => nomatch h)
          refine bwp_seq fun K hK => bwp_region rfl ?_
          simp -implicitDefEqProofs only [go_sem, ↓reduceIte, Nat.reduceEqDiff, Nat.reduceAdd, Nat.reduceLeDiff, Nat.reduceMul, Nat.reduceSub, Int.reduceLE, Int.reduceLT, Int.reduceEq, Int.reduceToNat, Int.reducePow, Int.reduceNeg, i1, hw8, hw]
          refine hK _ ?_; clear hK
          refine bwp_ret ?_
          simp -implicitDefEqProofs only [go_sem, ↓reduceIte, Nat.reduceEqDiff, Nat.reduceAdd, Nat.reduceLeDiff, Nat.reduceMul, Nat.reduceSub, Int.reduceLE, Int.reduceLT, Int.reduceEq, Int.reduceToNat, Int.reducePow, Int.reduceNeg]
          refine aend_ret _ rfl rfl ⟨?_, rfl⟩
          simp [fget, regV, hn]
        · have hn : regN x = none := by unfold regN; rw [if_neg (by omega)]
          refine bwp_seq fun K hK => bwp_region rfl ?_
          simp -implicitDefEqProofs only [go_sem, ↓reduceIte, Nat.reduceEqDiff, Nat.reduceAdd, Nat.reduceLeDiff, Nat.reduceMul, Nat.reduceSub, Int.reduceLE, Int.reduceLT, Int.reduceEq, Int.reduceToNat, Int.reducePow, Int.reduceNeg, eq_true h2', i0, i1, eq_true hr, eq_true hlo, eq_false hhi, decide_true, decide_false]
          refine hK _ ?_; clear hK
          refine bwp_cond false (by simp [ev, fget]) (fun h => nomatch h) (fun _ => ?_)
          refine bwp_skip ?_
          exact no _ hn rfl
      · have hn : regN x = none := by unfold regN; rw [if_neg (by omega)]
        refine bwp_seq fun K hK => bwp_region rfl ?_
        simp -implicitDefEqProofs only [go_sem, ↓reduceIte, Nat.reduceEqDiff, Nat.reduceAdd, Nat.reduceLeDiff, Nat.reduceMul, Nat.reduceSub, Int.reduceLE, Int.reduceLT, Int.reduceEq, Int.reduceToNat, Int.reducePow, Int.reduceNeg, eq_true h2', i0, i1, eq_true hr, eq_false hlo, decide_true, decide_false]
        refine hK _ ?_; clear hK
        refine bwp_cond false (by simp [ev, fget]) (fun h => nomatch h) (fun _ => ?_)
        refine bwp_skip ?_
        exact no _ hn rfl
    · have hn : regN x = none := by unfold regN; rw [if_neg (fun h => hr (by rw [h.2.1]; rfl))]
      refine bwp_seq fun K hK => bwp_region rfl ?_
      simp -implicitDefEqProofs only [go_sem, ↓reduceIte, Nat.reduceEqDiff, Nat.reduceAdd, Nat.reduceLeDiff, Nat.reduceMul, Nat.reduceSub, Int.reduceLE, Int.reduceLT, Int.reduceEq, Int.reduceToNat, Int.reducePow, Int.reduceNeg, eq_true h2', i0, i1, eq_false hr, decide_true, decide_false]
      refine hK _ ?_; clear hK
      refine bwp_cond false (by simp [ev, fget]) (fun h => nomatch h) (fun _ => ?_)
      refine bwp_skip ?_
      exact no _ hn rfl
  · have h2' : ¬ (x.length : Int) = 2 := by omega
    have hn : regN x = none := by unfold regN; rw [if_neg (fun h => h2 h.1)]
    refine bwp_seq fun K hK => bwp_region rfl ?_
    simp -implicitDefEqProofs only [go_sem, ↓reduceIte, Nat.reduceEqDiff, Nat.reduceAdd, Nat.reduceLeDiff, Nat.reduceMul, Nat.reduceSub, Int.reduceLE, Int.reduceLT, Int.reduceEq, Int.reduceToNat, Int.reducePow, Int.reduceNeg, eq_false h2', decide_true, decide_false]
    refine hK _ ?_; clear hK
    refine bwp_cond false (by simp [ev, fget]) (fun h => nomatch h) (fun _ => ?_)
    refine bwp_skip ?_
    exact no _ hn rfl

set_option maxHeartbeats 4000000 in
theorem register2_calls {s : List UInt8} (hs : s.length ≤ 140737488351232) {σ : PR Nat} {r : RSt} (h : RS s σ r) :
    ACalls Tryd.prog 78 [.ptr 0 0] [(0, rdC s r)] fun v m' => ∃ r', m' = [(0, rdC s r')] ∧ ∃ x, v = .d (.int .i64 x) ∧ RQ s (thn σ ((tNamed regN).run s)) x r' := by
  refine acalls_of Tryd.func78 ac78_ok Tryd.ntmps78 Tryd.results78 rfl ?_
  unfold ac78
  refine bwp_seq fun K hK => bwp_region rfl ?_
  simp -implicitDefEqProofs only [go_sem, ↓reduceIte, Nat.reduceEqDiff, Nat.reduceAdd, Nat.reduceLeDiff, Nat.reduceMul, Nat.reduceSub, Int.reduceLE, Int.reduceLT, Int.reduceEq, Int.reduceToNat, Int.reducePow, Int.reduceNeg]
  refine hK _ ?_; clear hK
  refine bwp_seq fun K hK => bwp_region rfl ?_
  simp -implicitDefEqProofs only [go_sem, ↓reduceIte, Nat.reduceEqDiff, Nat.reduceAdd, Nat.reduceLeDiff, Nat.reduceMul, Nat.reduceSub, Int.reduceLE, Int.reduceLT, Int.reduceEq, Int.reduceToNat, Int.reducePow, Int.reduceNeg]
  refine look_callK hs h rfl ?_
  intro q hq
  by_cases h0 : q.code = 0
  · rw [lkT_ok h0]
    have kr := reg2_pure q.tok.tx
    simp -implicitDefEqProofs only [go_sem, ↓reduceIte, Nat.reduceEqDiff, Nat.reduceAdd, Nat.reduceLeDiff, Nat.reduceMul, Nat.reduceSub, Int.reduceLE, Int.reduceLT, Int.reduceEq, Int.reduceToNat, Int.reducePow, Int.reduceNeg, mset]
    refine hK _ ?_; clear hK
    refine bwp_seq fun K1 hK1 => ?_
    refine bwp_block ?_
    refine bwp_seq fun K hK => bwp_region rfl ?_
    simp -implicitDefEqProofs only [go_sem, ↓reduceIte, Nat.reduceEqDiff, Nat.reduceAdd, Nat.reduceLeDiff, Nat.reduceMul, Nat.reduceSub, Int.reduceLE, Int.reduceLT, Int.reduceEq, Int.reduceToNat, Int.reducePow, Int.reduceNeg, eq_true h0, rdC, decide_true, decide_false]
    refine hK _ ?_; clear hK
    refine bwp_cond false (by simp [ev, fget]) (fun h => nomatch h) (fun _ => ?_)
    by_cases h1 : q.tok.kd = 1
    · refine bwp_seq fun K hK => bwp_region rfl ?_
      simp -implicitDefEqProofs only [go_sem, ↓reduceIte, Nat.reduceEqDiff, Nat.reduceAdd, Nat.reduceLeDiff, Nat.reduceMul, Nat.reduceSub, Int.reduceLE, Int.reduceLT, Int.reduceEq, Int.reduceToNat, Int.reducePow, Int.reduceNeg, eq_true h1, decide_true, decide_false]
      refine hK _ ?_; clear hK
      refine bwp_cond false (by simp [ev, fget]) (fun h => nomatch h) (fun _ => ?_)
      cases hr : regN q.tok.tx with
      | some x =>
        have hx := regN_range hr
        have hv : regV q.tok.tx = x := by unfold regV; rw [hr]
        have hlt : ¬ x < 0 := by omega
        rw [hv] at kr
        refine bwp_seq fun K hK => bwp_region rfl ?_
        simp -implicitDefEqProofs only [go_sem, ↓reduceIte, Nat.reduceEqDiff, Nat.reduceAdd, Nat.reduceLeDiff, Nat.reduceMul, Nat.reduceSub, Int.reduceLE, Int.reduceLT, Int.reduceEq, Int.reduceToNat, Int.reducePow, Int.reduceNeg]
        repeat' (first
          | (refine gateK_split (fun hb => ?_) (fun hb => ?_) <;> simp -implicitDefEqProofs only [go_sem, ↓reduceIte, Nat.reduceEqDiff, Nat.reduceAdd, Nat.reduceLeDiff, Nat.reduceMul, Nat.reduceSub, Int.reduceLE, Int.reduceLT, Int.reduceEq, Int.reduceToNat, Int.reducePow, Int.reduceNeg, hb, eq_false hlt])
          | (refine dGateK_split (fun hb => ?_) (fun hb => ?_) <;> simp -implicitDefEqProofs only [go_sem, ↓reduceIte, Nat.reduceEqDiff, Nat.reduceAdd, Nat.reduceLeDiff, Nat.reduceMul, Nat.reduceSub, Int.reduceLE, Int.reduceLT, Int.reduceEq, Int.reduceToNat, Int.reducePow, Int.reduceNeg, hb, eq_false hlt])
          | (refine callK_pure (kr) rfl rfl ?_; simp -implicitDefEqProofs only [go_sem, ↓reduceIte, Nat.reduceEqDiff, Nat.reduceAdd, Nat.reduceLeDiff, Nat.reduceMul, Nat.reduceSub, Int.reduceLE, Int.reduceLT, Int.reduceEq, Int.reduceToNat, Int.reducePow, Int.reduceNeg, eq_false hlt])
          | (refine dCallK_pure (kr) rfl rfl ?_; simp -implicitDefEqProofs only [go_sem, ↓reduceIte, Nat.reduceEqDiff, Nat.reduceAdd, Nat.reduceLeDiff, Nat.reduceMul, Nat.reduceSub, Int.reduceLE, Int.reduceLT, Int.reduceEq, Int.reduceToNat, Int.reducePow, Int.reduceNeg, eq_false hlt])
          | (rw [if_pos (by (try simp only [List.length_append, List.length_cons, List.length_nil, List.length_map]); omega)]; simp -implicitDefEqProofs only [go_sem, ↓reduceIte, Nat.reduceEqDiff, Nat.reduceAdd, Nat.reduceLeDiff, Nat.reduceMul, Nat.reduceSub, Int.reduceLE, Int.reduceLT, Int.reduceEq, Int.reduceToNat, Int.reducePow, Int.reduceNeg, eq_false hlt]))
        refine hK _ ?_; clear hK
        refine bwp_cond false (by simp [ev, fget]) (fun h => nomatch h) (fun _ => ?_)
        refine bwp_skip ?_
        refine hK1 _ ?_; clear hK1
        refine bwp_seq fun K hK => bwp_region rfl ?_
        simp -implicitDefEqProofs only [go_sem, ↓reduceIte, Nat.reduceEqDiff, Nat.reduceAdd, Nat.reduceLeDiff, Nat.reduceMul, Nat.reduceSub, Int.reduceLE, Int.reduceLT, Int.reduceEq, Int.reduceToNat, Int.reducePow, Int.reduceNeg]
        refine go_callK s q rfl ?_
        simp -implicitDefEqProofs only [go_sem, ↓reduceIte, Nat.reduceEqDiff, Nat.reduceAdd, Nat.reduceLeDiff, Nat.reduceMul, Nat.reduceSub, Int.reduceLE, Int.reduceLT, Int.reduceEq, Int.reduceToNat, Int.reducePow, Int.reduceNeg, mset]
        refine hK _ ?_; clear hK
        refine bwp_seq fun K hK => bwp_region rfl ?_
        simp -implicitDefEqProofs only [go_sem, ↓reduceIte, Nat.reduceEqDiff, Nat.reduceAdd, Nat.reduceLeDiff, Nat.reduceMul, Nat.reduceSub, Int.reduceLE, Int.reduceLT, Int.reduceEq, Int.reduceToNat, Int.reducePow, Int.reduceNeg]
        repeat' (first
          | (refine gateK_split (fun hb => ?_) (fun hb => ?_) <;> simp -implicitDefEqProofs only [go_sem, ↓reduceIte, Nat.reduceEqDiff, Nat.reduceAdd, Nat.reduceLeDiff, Nat.reduceMul, Nat.reduceSub, Int.reduceLE, Int.reduceLT, Int.reduceEq, Int.reduceToNat, Int.reducePow, Int.reduceNeg, hb])
          | (refine dGateK_split (fun hb => ?_) (fun hb => ?_) <;> simp -implicitDefEqProofs only [go_sem, ↓reduceIte, Nat.reduceEqDiff, Nat.reduceAdd, Nat.reduceLeDiff, Nat.reduceMul, Nat.reduceSub, Int.reduceLE, Int.reduceLT, Int.reduceEq, Int.reduceToNat, Int.reducePow, Int.reduceNeg, hb])
          | (refine callK_pure (kr) rfl rfl ?_; simp -implicitDefEqProofs only [go_sem, ↓reduceIte, Nat.reduceEqDiff, Nat.reduceAdd, Nat.reduceLeDiff, Nat.reduceMul, Nat.reduceSub, Int.reduceLE, Int.reduceLT, Int.reduceEq, Int.reduceToNat, Int.reducePow, Int.reduceNeg])
          | (refine dCallK_pure (kr) rfl rfl ?_; simp -implicitDefEqProofs only [go_sem, ↓reduceIte, Nat.reduceEqDiff, Nat.reduceAdd, Nat.reduceLeDiff, Nat.reduceMul, Nat.reduceSub, Int.reduceLE, Int.reduceLT, Int.reduceEq, Int.reduceToNat, Int.reducePow, Int.reduceNeg])
          | (rw [if_pos (by (try simp only [List.length_append, List.length_cons, List.length_nil, List.length_map]); omega)]; simp -implicitDefEqProofs only [go_sem, ↓reduceIte, Nat.reduceEqDiff, Nat.reduceAdd, Nat.reduceLeDiff, Nat.reduceMul, Nat.reduceSub, Int.reduceLE, Int.reduceLT, Int.reduceEq, Int.reduceToNat, Int.reducePow, Int.reduceNeg]))
        refine hK _ ?_; clear hK
        refine bwp_ret ?_
        simp only [go_sem]
        refine aend_mem (.d (.int .i64 x)) [(0, 0)] [(0, rdC s (goR q))] ?_ rfl rfl ?_ ⟨_, rfl, _, rfl, ?_⟩
        · simp [resA, resVs, resV, fget]
        · simp [entM, pinv, mget, mset, renL, AV.ren, rdC, pget]
        · refine RQ.cur hq ?_
          rw [if_pos h1, hr]
          exact RQ.eat (RQ.ret (hq.goT h0))
      | none =>
        have hv : regV q.tok.tx = -1 := by unfold regV; rw [hr]
        rw [hv] at kr
        refine bwp_seq fun K hK => bwp_region rfl ?_
        simp -implicitDefEqProofs only [go_sem, ↓reduceIte, Nat.reduceEqDiff, Nat.reduceAdd, Nat.reduceLeDiff, Nat.reduceMul, Nat.reduceSub, Int.reduceLE, Int.reduceLT, Int.reduceEq, Int.reduceToNat, Int.reducePow, Int.reduceNeg]
        repeat' (first
          | (refine gateK_split (fun hb => ?_) (fun hb => ?_) <;> simp -implicitDefEqProofs only [go_sem, ↓reduceIte, Nat.reduceEqDiff, Nat.reduceAdd, Nat.reduceLeDiff, Nat.reduceMul, Nat.reduceSub, Int.reduceLE, Int.reduceLT, Int.reduceEq, Int.reduceToNat, Int.reducePow, Int.reduceNeg, hb])
          | (refine dGateK_split (fun hb => ?_) (fun hb => ?_) <;> simp -implicitDefEqProofs only [go_sem, ↓reduceIte, Nat.reduceEqDiff, Nat.reduceAdd, Nat.reduceLeDiff, Nat.reduceMul, Nat.reduceSub, Int.reduceLE, Int.reduceLT, Int.reduceEq, Int.reduceToNat, Int.reducePow, Int.reduceNeg, hb])
          | (refine callK_pure (kr) rfl rfl ?_; simp -implicitDefEqProofs only [go_sem, ↓reduceIte, Nat.reduceEqDiff, Nat.reduceAdd, Nat.reduceLeDiff, Nat.reduceMul, Nat.reduceSub, Int.reduceLE, Int.reduceLT, Int.reduceEq, Int.reduceToNat, Int.reducePow, Int.reduceNeg])
          | (refine dCallK_pure (kr) rfl rfl ?_; simp -implicitDefEqProofs only [go_sem, ↓reduceIte, Nat.reduceEqDiff, Nat.reduceAdd, Nat.reduceLeDiff, Nat.reduceMul, Nat.reduceSub, Int.reduceLE, Int.reduceLT, Int.reduceEq, Int.reduceToNat, Int.reducePow, Int.reduceNeg])
          | (rw [if_pos (by (try simp only [List.length_append, List.length_cons, List.length_nil, List.length_map]); omega)]; simp -implicitDefEqProofs only [go_sem, ↓reduceIte, Nat.reduceEqDiff, Nat.reduceAdd, Nat.reduceLeDiff, Nat.reduceMul, Nat.reduceSub, Int.reduceLE, Int.reduceLT, Int.reduceEq, Int.reduceToNat, Int.reducePow, Int.reduceNeg]))
        refine hK _ ?_; clear hK
        refine bwp_cond true (by simp [ev, fget]) (fun _ => ?_) (fun h => nomatch h)
        refine bwp_seq fun K hK => bwp_region rfl ?_
        simp -implicitDefEqProofs only [go_sem, ↓reduceIte, Nat.reduceEqDiff, Nat.reduceAdd, Nat.reduceLeDiff, Nat.reduceMul, Nat.reduceSub, Int.reduceLE, Int.reduceLT, Int.reduceEq, Int.reduceToNat, Int.reducePow, Int.reduceNeg]
        refine fail2_callK s q 7 rfl ?_
        simp -implicitDefEqProofs only [go_sem, ↓reduceIte, Nat.reduceEqDiff, Nat.reduceAdd, Nat.reduceLeDiff, Nat.reduceMul, Nat.reduceSub, Int.reduceLE, Int.reduceLT, Int.reduceEq, Int.reduceToNat, Int.reducePow, Int.reduceNeg, mset]
        refine hK _ ?_; clear hK
        refine bwp_seq fun K hK => bwp_region rfl ?_
        simp -implicitDefEqProofs only [go_sem, ↓reduceIte, Nat.reduceEqDiff, Nat.reduceAdd, Nat.reduceLeDiff, Nat.reduceMul, Nat.reduceSub, Int.reduceLE, Int.reduceLT, Int.reduceEq, Int.reduceToNat, Int.reducePow, Int.reduceNeg]
        refine hK _ ?_; clear hK
        refine bwp_ret ?_
        simp only [go_sem]
        refine aend_mem (.d (.int .i64 0)) [(0, 0)] [(0, rdC s (failR q 7))] ?_ rfl rfl ?_ ⟨_, rfl, 0, rfl, ?_⟩
        · simp [resA, resVs, resV, fget]
        · simp [entM, pinv, mget, mset, renL, AV.ren, rdC, pget]
        · refine RQ.cur hq ?_
          rw [if_pos h1, hr]
          exact RQ.bad hq (by decide) _
    · refine bwp_seq fun K hK => bwp_region rfl ?_
      simp -implicitDefEqProofs only [go_sem, ↓reduceIte, Nat.reduceEqDiff, Nat.reduceAdd, Nat.reduceLeDiff, Nat.reduceMul, Nat.reduceSub, Int.reduceLE, Int.reduceLT, Int.reduceEq, Int.reduceToNat, Int.reducePow, Int.reduceNeg, eq_false h1, decide_true, decide_false]
      refine hK _ ?_; clear hK
      refine bwp_cond true (by simp [ev, fget]) (fun _ => ?_) (fun h => nomatch h)
      refine bwp_seq fun K hK => bwp_region rfl ?_
      simp -implicitDefEqProofs only [go_sem, ↓reduceIte, Nat.reduceEqDiff, Nat.reduceAdd, Nat.reduceLeDiff, Nat.reduceMul, Nat.reduceSub, Int.reduceLE, Int.reduceLT, Int.reduceEq, Int.reduceToNat, Int.reducePow, Int.reduceNeg]
      refine fail2_callK s q 6 rfl ?_
      simp -implicitDefEqProofs only [go_sem, ↓reduceIte, Nat.reduceEqDiff, Nat.reduceAdd, Nat.reduceLeDiff, Nat.reduceMul, Nat.reduceSub, Int.reduceLE, Int.reduceLT, Int.reduceEq, Int.reduceToNat, Int.reducePow, Int.reduceNeg, mset]
      refine hK _ ?_; clear hK
      refine bwp_seq fun K hK => bwp_region rfl ?_
      simp -implicitDefEqProofs only [go_sem, ↓reduceIte, Nat.reduceEqDiff, Nat.reduceAdd, Nat.reduceLeDiff, Nat.reduceMul, Nat.reduceSub, Int.reduceLE, Int.reduceLT, Int.reduceEq, Int.reduceToNat, Int.reducePow, Int.reduceNeg]
      refine hK _ ?_; clear hK
      refine bwp_ret ?_
      simp only [go_sem]
      refine aend_mem (.d (.int .i64 0)) [(0, 0)] [(0, rdC s (failR q 6))] ?_ rfl rfl ?_ ⟨_, rfl, 0, rfl, ?_⟩
      · simp [resA, resVs, resV, fget]
      · simp [entM, pinv, mget, mset, renL, AV.ren, rdC, pget]
      · refine RQ.cur hq ?_
        rw [if_neg h1]
        exact RQ.bad hq (by decide) _
  · rw [lkT_no h0]
    simp -implicitDefEqProofs only [go_sem, ↓reduceIte, Nat.reduceEqDiff, Nat.reduceAdd, Nat.reduceLeDiff, Nat.reduceMul, Nat.reduceSub, Int.reduceLE, Int.reduceLT, Int.reduceEq, Int.reduceToNat, Int.reducePow, Int.reduceNeg, mset]
    refine hK _ ?_; clear hK
    refine bwp_seq fun K1 hK1 => ?_
    refine bwp_block ?_
    refine bwp_seq fun K hK => bwp_region rfl ?_
    simp -implicitDefEqProofs only [go_sem, ↓reduceIte, Nat.reduceEqDiff, Nat.reduceAdd, Nat.reduceLeDiff, Nat.reduceMul, Nat.reduceSub, Int.reduceLE, Int.reduceLT, Int.reduceEq, Int.reduceToNat, Int.reducePow, Int.reduceNeg, eq_false h0, rdC, decide_true, decide_false]
    refine hK _ ?_; clear hK
    refine bwp_cond true (by simp [ev, fget]) (fun _ => ?_) (fun h => nomatch h)
    refine bwp_seq fun K hK => bwp_region rfl ?_
    simp -implicitDefEqProofs only [go_sem, ↓reduceIte, Nat.reduceEqDiff, Nat.reduceAdd, Nat.reduceLeDiff, Nat.reduceMul, Nat.reduceSub, Int.reduceLE, Int.reduceLT, Int.reduceEq, Int.reduceToNat, Int.reducePow, Int.reduceNeg]
    refine hK _ ?_; clear hK
    refine bwp_ret ?_
    simp only [go_sem]
    refine aend_mem (.d (.int .i64 0)) [(0, 0)] [(0, rdC s q)] ?_ rfl rfl ?_ ⟨_, rfl, 0, rfl, ?_⟩
    · simp [resA, resVs, resV, fget]
    · simp [entM, pinv, mget, mset, renL, AV.ren, rdC, pget]
    · cases σ with
      | error e => exact hq.rs
      | ok a => exact absurd hq.code h0

theorem register2_callK {s : List UInt8} (hs : s.length ≤ 140737488351232) {σ : PR Nat} {r : RSt} (h : RS s σ r) {j : Nat} {dst : Option Nat} {ops : List AOper} {K : St → Prop} {t : Fr} {m : Mem} {n : Nat} (hm : mget m j = some (rdC s r))
    (hk : ∀ x r', RQ s (thn σ ((tNamed regN).run s)) x r' → runOps Tryd.prog ops ⟨putF t dst (.d (.int .i64 x)), mset m j (rdC s r'), n + 1⟩ K) : callK Tryd.prog 78 [.ptr j 0] dst ops K t m n := by
  refine rd_callK (rest := []) (Q := fun v r' => ∃ x, v = .d (.int .i64 x) ∧ RQ s (thn σ ((tNamed regN).run s)) x r') (register2_calls hs h) rfl ?_ hm ?_
  · rintro _ _ ⟨_, rfl, _⟩; rfl
  · rintro _ r' ⟨x, rfl, h⟩; exact hk x r' h

set_option maxHeartbeats 4000000 in
theorem opd2_calls {s : List UInt8} (hs : s.length ≤ 4000) {σ : PR Nat} {r : RSt} (h : RS s σ r) :
    ACalls Tryd.prog 77 [.ptr 0 0] [(0, rdC s r)] fun v m' => ∃ r', m' = [(0, rdC s r')] ∧ ∃ x : Opnd, v = .agg (x.cells.map .d) ∧ RQ s (thn σ (tOpd.run s)) x r' := by
  have hs' : s.length ≤ 140737488351232 := by omega
  have h84 : ldk Tryd.prog 84 = some (some 2) := by kernel_rfl
  refine acalls_of Tryd.func77 ac77_ok Tryd.ntmps77 Tryd.results77 rfl ?_
  unfold ac77
  refine bwp_seq fun K hK => bwp_region rfl ?_
  simp -implicitDefEqProofs only [go_sem, ↓reduceIte, Nat.reduceEqDiff, Nat.reduceAdd, Nat.reduceLeDiff, Nat.reduceMul, Nat.reduceSub, Int.reduceLE, Int.reduceLT, Int.reduceEq, Int.reduceToNat, Int.reducePow, Int.reduceNeg]
  refine hK _ ?_; clear hK
  refine bwp_seq fun K hK => bwp_region rfl ?_
  simp -implicitDefEqProofs only [go_sem, ↓reduceIte, Nat.reduceEqDiff, Nat.reduceAdd, Nat.reduceLeDiff, Nat.reduceMul, Nat.reduceSub, Int.reduceLE, Int.reduceLT, Int.reduceEq, Int.reduceToNat, Int.reducePow, Int.reduceNeg]
  refine look_callK hs' h rfl ?_
  intro q hq
  have bad : ∀ {y : Int} {q' : RSt}, (q.code = 0 → q.tok.kd ≠ 2) → RQ s (thn σ ((tNamed regN).run s)) y q' → RQ s (thn σ (tOpd.run s)) ⟨y, 0⟩ q' := by
    intro y q' hn hq'
    cases σ with
    | error e => exact hq'
    | ok a =>
      refine RQ.cur hq ?_
      rw [if_neg (hn hq.code)]
      exact RQ.bind hq' (RQ.ret hq'.rs)
  by_cases h0 : q.code = 0
  · rw [lkT_ok h0]
    simp -implicitDefEqProofs only [go_sem, ↓reduceIte, Nat.reduceEqDiff, Nat.reduceAdd, Nat.reduceLeDiff, Nat.reduceMul, Nat.reduceSub, Int.reduceLE, Int.reduceLT, Int.reduceEq, Int.reduceToNat, Int.reducePow, Int.reduceNeg, mset]
    refine hK _ ?_; clear hK
    refine bwp_seq fun K1 hK1 => ?_
    by_cases h1 : q.tok.kd = 2
    · refine bwp_seq fun K hK => bwp_region rfl ?_
      simp -implicitDefEqProofs only [go_sem, ↓reduceIte, Nat.reduceEqDiff, Nat.reduceAdd, Nat.reduceLeDiff, Nat.reduceMul, Nat.reduceSub, Int.reduceLE, Int.reduceLT, Int.reduceEq, Int.reduceToNat, Int.reducePow, Int.reduceNeg, eq_true h0, eq_true h1, rdC, decide_true]
      refine hK _ ?_; clear hK
      refine bwp_cond true (by simp [ev, fget]) (fun _ => ?_) (fun h => nomatch h)
      refine bwp_seq fun K hK => bwp_region rfl ?_
      simp -implicitDefEqProofs only [go_sem, ↓reduceIte, Nat.reduceEqDiff, Nat.reduceAdd, Nat.reduceLeDiff, Nat.reduceMul, Nat.reduceSub, Int.reduceLE, Int.reduceLT, Int.reduceEq, Int.reduceToNat, Int.reducePow, Int.reduceNeg]
      refine num2_callK (r := q) hs hq.rs rfl ?_
      intro x q' hq' _
      simp -implicitDefEqProofs only [go_sem, ↓reduceIte, Nat.reduceEqDiff, Nat.reduceAdd, Nat.reduceLeDiff, Nat.reduceMul, Nat.reduceSub, Int.reduceLE, Int.reduceLT, Int.reduceEq, Int.reduceToNat, Int.reducePow, Int.reduceNeg, mset]
      refine hK _ ?_; clear hK
      refine bwp_ret ?_
      simp only [go_sem]
      refine aend_mem (.agg (Opnd.cells ⟨-1, x⟩ |>.map .d)) [(0, 0)] [(0, rdC s q')] ?_ rfl rfl ?_ ⟨q', rfl, ⟨-1, x⟩, rfl, ?_⟩
      · simp [resA, resVs, resV, fget, mget, mset, loadA, h84, Opnd.cells]
      · simp [entM, pinv, mget, mset, renL, AV.ren, rdC, pget]
      · refine RQ.cur hq ?_
        rw [if_pos h1]
        exact RQ.bind hq' (RQ.ret hq'.rs)
    · refine bwp_seq fun K hK => bwp_region rfl ?_
      simp -implicitDefEqProofs only [go_sem, ↓reduceIte, Nat.reduceEqDiff, Nat.reduceAdd, Nat.reduceLeDiff, Nat.reduceMul, Nat.reduceSub, Int.reduceLE, Int.reduceLT, Int.reduceEq, Int.reduceToNat, Int.reducePow, Int.reduceNeg, eq_true h0, eq_false h1, rdC, decide_true, decide_false]
      refine hK _ ?_; clear hK
      refine bwp_cond false (by simp [ev, fget]) (fun h => nomatch h) (fun _ => ?_)
      refine bwp_skip ?_
      refine hK1 _ ?_; clear hK1
      refine bwp_seq fun K hK => bwp_region rfl ?_
      simp -implicitDefEqProofs only [go_sem, ↓reduceIte, Nat.reduceEqDiff, Nat.reduceAdd, Nat.reduceLeDiff, Nat.reduceMul, Nat.reduceSub, Int.reduceLE, Int.reduceLT, Int.reduceEq, Int.reduceToNat, Int.reducePow, Int.reduceNeg]
      refine register2_callK (r := q) hs' hq.rs rfl ?_
      intro x q' hq'
      simp -implicitDefEqProofs only [go_sem, ↓reduceIte, Nat.reduceEqDiff, Nat.reduceAdd, Nat.reduceLeDiff, Nat.reduceMul, Nat.reduceSub, Int.reduceLE, Int.reduceLT, Int.reduceEq, Int.reduceToNat, Int.reducePow, Int.reduceNeg, mset]
      refine hK _ ?_; clear hK
      refine bwp_ret ?_
      simp only [go_sem]
      refine aend_mem (.agg (Opnd.cells ⟨x, 0⟩ |>.map .d)) [(0, 0)] [(0, rdC s q')] ?_ rfl rfl ?_ ⟨q', rfl, ⟨x, 0⟩, rfl, bad (fun _ => h1) hq'⟩
      · simp [resA, resVs, resV, fget, mget, mset, loadA, h84, Opnd.cells]
      · simp [entM, pinv, mget, mset, renL, AV.ren, rdC, pget]
  · rw [lkT_no h0]
    simp -implicitDefEqProofs only [go_sem, ↓reduceIte, Nat.reduceEqDiff, Nat.reduceAdd, Nat.reduceLeDiff, Nat.reduceMul, Nat.reduceSub, Int.reduceLE, Int.reduceLT, Int.reduceEq, Int.reduceToNat, Int.reducePow, Int.reduceNeg, mset]
    refine hK _ ?_; clear hK
    refine bwp_seq fun K1 hK1 => ?_
    refine bwp_seq fun K hK => bwp_region rfl ?_
    simp -implicitDefEqProofs only [go_sem, ↓reduceIte, Nat.reduceEqDiff, Nat.reduceAdd, Nat.reduceLeDiff, Nat.reduceMul, Nat.reduceSub, Int.reduceLE, Int.reduceLT, Int.reduceEq, Int.reduceToNat, Int.reducePow, Int.reduceNeg, eq_false h0, rdC, decide_false]
    refine hK _ ?_; clear hK
    refine bwp_cond false (by simp [ev, fget]) (fun h => nomatch h) (fun _ => ?_)
    refine bwp_skip ?_
    refine hK1 _ ?_; clear hK1
    refine bwp_seq fun K hK => bwp_region rfl ?_
    simp -implicitDefEqProofs only [go_sem, ↓reduceIte, Nat.reduceEqDiff, Nat.reduceAdd, Nat.reduceLeDiff, Nat.reduceMul, Nat.reduceSub, Int.reduceLE, Int.reduceLT, Int.reduceEq, Int.reduceToNat, Int.reducePow, Int.reduceNeg]
    refine register2_callK (r := q) hs' hq.rs rfl ?_
    intro x q' hq'
    simp -implicitDefEqProofs only [go_sem, ↓reduceIte, Nat.reduceEqDiff, Nat.reduceAdd, Nat.reduceLeDiff, Nat.reduceMul, Nat.reduceSub, Int.reduceLE, Int.reduceLT, Int.reduceEq, Int.reduceToNat, Int.reducePow, Int.reduceNeg, mset]
    refine hK _ ?_; clear hK
    refine bwp_ret ?_
    simp only [go_sem]
    refine aend_mem (.agg (Opnd.cells ⟨x, 0⟩ |>.map .d)) [(0, 0)] [(0, rdC s q')] ?_ rfl rfl ?_ ⟨q', rfl, ⟨x, 0⟩, rfl, bad (fun h => absurd h h0) hq'⟩
    · simp [resA, resVs, resV, fget, mget, mset, loadA, h84, Opnd.cells]
    · simp [entM, pinv, mget, mset, renL, AV.ren, rdC, pget]

theorem opd2_callK {s : List UInt8} (hs : s.length ≤ 4000) {σ : PR Nat} {r : RSt} (h : RS s σ r) {j : Nat} {dst : Option Nat} {ops : List AOper} {K : St → Prop} {t : Fr} {m : Mem} {n : Nat} (hm : mget m j = some (rdC s r))
    (hk : ∀ (x : Opnd) r', RQ s (thn σ (tOpd.run s)) x r' → runOps Tryd.prog ops ⟨putF t dst (.agg [.d (.int .i64 x.reg), .d (.int .i64 x.value)]), mset m j (rdC s r'), n + 1⟩ K) : callK Tryd.prog 77 [.ptr j 0] dst ops K t m n := by
  refine rd_callK (rest := []) (Q := fun v r' => ∃ x : Opnd, v = .agg (x.cells.map .d) ∧ RQ s (thn σ (tOpd.run s)) x r') (opd2_calls hs h) rfl ?_ hm ?_
  · rintro _ _ ⟨x, rfl, _⟩; exact opnd_in x
  · rintro _ r' ⟨x, rfl, h⟩; exact hk x r' h

end Go.Proofs.YtpfbljkfbjjlkaaDoor

/- The document's reader: instructions. -/
namespace Go.Proofs.YtpfbljkfbjjlkaaDoor
open Go Go.Jq
set_option maxRecDepth 100000
set_option linter.unusedSimpArgs false

def z9 : List AV := [.d (.int .i64 0), .d (.int .i64 0), .d (.int .i64 0), .d (.int .i64 0), .d (.int .i64 0), .d (.int .i64 0), .d (.int .i64 0), .d (.int .i64 0), .d (.int .i64 0)]

theorem RL.take {α : Type} {s : List UInt8} {σ : PR Nat} {q : RSt} {x : List UInt8} {yes no : PT α} {y : α} {q' : RSt} (h : RL s σ q) (hb : ikB q x = true) (h' : RQ s (thn (thn σ (eatW s)) (yes.run s)) y q') : RQ s (thn σ ((tTake x yes no).run s)) y q' := RQ.take_yes h hb h'

theorem ikB_code {q : RSt} {x : List UInt8} (h : ikB q x = true) : q.code = 0 := by
  unfold ikB at h
  simp only [Bool.and_eq_true, decide_eq_true_eq] at h
  exact h.1

set_option maxHeartbeats 64000000 in
theorem ins2_calls {s : List UInt8} (hs : s.length ≤ 4000) {σ : PR Nat} {r : RSt} (h : RS s σ r) :
    ACalls Tryd.prog 59 [.ptr 0 0] [(0, rdC s r)] fun v m' => ∃ r', m' = [(0, rdC s r')] ∧ ∃ x : Ins, v = .agg (insC x) ∧ RQ s (thn σ (tInsE.run s)) x r' := by
  have hs' : s.length ≤ 140737488351232 := by omega
  have hld : ldk Tryd.prog 86 = some (some 9) := by kernel_rfl
  refine acalls_of Tryd.func59 ac59_ok Tryd.ntmps59 Tryd.results59 rfl ?_
  unfold ac59
  refine bwp_seq fun K hK => bwp_region rfl ?_
  simp only [go_sem, ↓reduceIte, Nat.reduceEqDiff, Nat.reduceAdd, Nat.reduceLeDiff, Nat.reduceMul, Int.reduceEq]
  refine hK _ ?_; clear hK
  refine bwp_seq fun K hK => bwp_region rfl ?_
  simp only [go_sem, ↓reduceIte, Nat.reduceEqDiff, Nat.reduceAdd, Nat.reduceLeDiff, Nat.reduceMul, Int.reduceEq]
  refine hK _ ?_; clear hK
  refine bwp_seq fun K0 hK0 => ?_
  refine bwp_block ?_
  have fin : ∀ (S : St) (q' : RSt) (x' : Ins), Leads 1 Tryd.f59.ntmps S ⟨[(0, .ptr 0 0), (2, .ptr 1 0), (3, .ptr 2 0)], [(0, rdC s q'), (1, z9), (2, insC x')], 3⟩ → RQ s (thn σ (tIns.run s)) x' q' → K0 S := by
    intro S q' x' hS hq
    refine hK0 _ ?_; clear hK0
    refine bwp_leads hS ?_
    refine bwp_seq fun K hK => bwp_region rfl ?_
    simp only [go_sem, ↓reduceIte, Nat.reduceEqDiff, Nat.reduceAdd, Nat.reduceLeDiff, Nat.reduceMul, Int.reduceEq, z9, insC, Ins.cells]
    refine eat2_callK hs' hq.rs [59] rfl ?_
    intro q2 h2
    simp only [go_sem, ↓reduceIte, Nat.reduceEqDiff, Nat.reduceAdd, Nat.reduceLeDiff, Nat.reduceMul, Int.reduceEq, mset]
    refine hK _ ?_; clear hK
    refine bwp_seq fun K hK => bwp_region rfl ?_
    simp only [go_sem, ↓reduceIte, Nat.reduceEqDiff, Nat.reduceAdd, Nat.reduceLeDiff, Nat.reduceMul, Int.reduceEq]
    refine hK _ ?_; clear hK
    refine bwp_ret ?_
    simp only [go_sem]
    refine aend_mem (.agg (insC x')) [(0, 0)] [(0, rdC s q2)] ?_ rfl rfl ?_ ⟨q2, rfl, x', rfl, ?_⟩
    · simp [resA, resVs, resV, fget, mget, mset, loadA, hld, insC, Ins.cells]
    · simp [entM, pinv, mget, mset, renL, AV.ren, rdC, pget]
    · exact RQ.bind hq (RQ.bind h2 (RQ.ret h2.rs))
  refine bwp_seq fun K hK => bwp_region rfl ?_
  simp only [go_sem, ↓reduceIte, Nat.reduceEqDiff, Nat.reduceAdd, Nat.reduceLeDiff, Nat.reduceMul, Int.reduceEq]
  refine is2_callK hs' h wStore rfl ?_
  intro q1 h1
  simp only [go_sem, ↓reduceIte, Nat.reduceEqDiff, Nat.reduceAdd, Nat.reduceLeDiff, Nat.reduceMul, Int.reduceEq, mset]
  refine hK _ ?_; clear hK
  cases hb1 : ikB q1 wStore with
  | true =>
    have hg := h1.goT (ikB_code hb1)
    refine bwp_cond true (by simp [ev, fget]) (fun _ => ?_) (fun h => nomatch h)
    refine bwp_seq fun K hK => bwp_region rfl ?_
    simp only [go_sem, ↓reduceIte, Nat.reduceEqDiff, Nat.reduceAdd, Nat.reduceLeDiff, Nat.reduceMul, Int.reduceEq]
    refine go_callK s q1 rfl ?_
    simp only [go_sem, ↓reduceIte, Nat.reduceEqDiff, Nat.reduceAdd, Nat.reduceLeDiff, Nat.reduceMul, Int.reduceEq, mset]
    refine hK _ ?_; clear hK
    refine bwp_seq fun K hK => bwp_region rfl ?_
    simp only [go_sem, ↓reduceIte, Nat.reduceEqDiff, Nat.reduceAdd, Nat.reduceLeDiff, Nat.reduceMul, Int.reduceEq]
    refine loc2_callK hs' hg rfl ?_
    intro l q2 h2
    simp only [go_sem, ↓reduceIte, Nat.reduceEqDiff, Nat.reduceAdd, Nat.reduceLeDiff, Nat.reduceMul, Int.reduceEq, mset]
    refine hK _ ?_; clear hK
    refine bwp_region rfl ?_
    simp only [go_sem, ↓reduceIte, Nat.reduceEqDiff, Nat.reduceAdd, Nat.reduceLeDiff, Nat.reduceMul, Int.reduceEq]
    refine opd2_callK hs h2.rs rfl ?_
    intro x q3 h3
    simp only [go_sem, ↓reduceIte, Nat.reduceEqDiff, Nat.reduceAdd, Nat.reduceLeDiff, Nat.reduceMul, Int.reduceEq, mset]
    refine fin _ q3 ⟨1, 0, l, x, 0, ⟨0, 0⟩, 0⟩ (Leads.ent [(0, 0), (1, 1), (2, 2)] ⟨by simp [entT, fget, AV.ren, renL, pget], by simp [entM, pinv, mget, mset, renL, AV.ren, pget, rdC, z9, insC, Ins.cells], rfl, rfl⟩) ?_
    exact RQ.take_yes h1 hb1 (RQ.bind h2 (RQ.bind h3 (RQ.ret h3.rs)))
  | false =>
    refine bwp_cond false (by simp [ev, fget]) (fun h => nomatch h) (fun _ => ?_)
    refine bwp_seq fun K hK => bwp_region rfl ?_
    simp only [go_sem, ↓reduceIte, Nat.reduceEqDiff, Nat.reduceAdd, Nat.reduceLeDiff, Nat.reduceMul, Int.reduceEq]
    refine is2_callK (r := q1) hs' h1.rs wFence rfl ?_
    intro q2 h2
    simp only [go_sem, ↓reduceIte, Nat.reduceEqDiff, Nat.reduceAdd, Nat.reduceLeDiff, Nat.reduceMul, Int.reduceEq, mset]
    refine hK _ ?_; clear hK
    cases hb2 : ikB q2 wFence with
    | true =>
      have hg := h2.goT (ikB_code hb2)
      refine bwp_cond true (by simp [ev, fget]) (fun _ => ?_) (fun h => nomatch h)
      refine bwp_seq fun K hK => bwp_region rfl ?_
      simp only [go_sem, ↓reduceIte, Nat.reduceEqDiff, Nat.reduceAdd, Nat.reduceLeDiff, Nat.reduceMul, Int.reduceEq]
      refine go_callK s q2 rfl ?_
      simp only [go_sem, ↓reduceIte, Nat.reduceEqDiff, Nat.reduceAdd, Nat.reduceLeDiff, Nat.reduceMul, Int.reduceEq, mset]
      refine hK _ ?_; clear hK
      refine bwp_region rfl ?_
      simp only [go_sem, ↓reduceIte, Nat.reduceEqDiff, Nat.reduceAdd, Nat.reduceLeDiff, Nat.reduceMul, Int.reduceEq]
      refine fin _ (goR q2) ⟨3, 0, 0, ⟨0, 0⟩, 0, ⟨0, 0⟩, 0⟩ (Leads.ent [(0, 0), (1, 1), (2, 2)] ⟨by simp [entT, fget, AV.ren, renL, pget], by simp [entM, pinv, mget, mset, renL, AV.ren, pget, rdC, z9, insC, Ins.cells], rfl, rfl⟩) ?_
      exact RQ.take_no h1 hb1 (RQ.take_yes h2 hb2 (RQ.ret hg))
    | false =>
      refine bwp_cond false (by simp [ev, fget]) (fun h => nomatch h) (fun _ => ?_)
      refine bwp_seq fun K hK => bwp_region rfl ?_
      simp only [go_sem, ↓reduceIte, Nat.reduceEqDiff, Nat.reduceAdd, Nat.reduceLeDiff, Nat.reduceMul, Int.reduceEq]
      refine is2_callK (r := q2) hs' h2.rs wSkip rfl ?_
      intro q3 h3
      simp only [go_sem, ↓reduceIte, Nat.reduceEqDiff, Nat.reduceAdd, Nat.reduceLeDiff, Nat.reduceMul, Int.reduceEq, mset]
      refine hK _ ?_; clear hK
      cases hb3 : ikB q3 wSkip with
      | false =>
        have up : ∀ {x' : Ins} {q' : RSt}, RQ s (thn σ (((tNamed regN).bind fun r => (tMust [61]).bind fun _ => tRight r).run s)) x' q' → RQ s (thn σ (tIns.run s)) x' q' :=
          fun hq => RQ.take_no h1 hb1 (RQ.take_no h2 hb2 (RQ.take_no h3 hb3 hq))
        refine bwp_cond false (by simp [ev, fget]) (fun h => nomatch h) (fun _ => ?_)
        refine bwp_seq fun K hK => bwp_region rfl ?_
        simp only [go_sem, ↓reduceIte, Nat.reduceEqDiff, Nat.reduceAdd, Nat.reduceLeDiff, Nat.reduceMul, Int.reduceEq]
        refine register2_callK (r := q3) hs' h3.rs rfl ?_
        intro rg q4 h4
        simp only [go_sem, ↓reduceIte, Nat.reduceEqDiff, Nat.reduceAdd, Nat.reduceLeDiff, Nat.reduceMul, Int.reduceEq, mset]
        refine hK _ ?_; clear hK
        refine bwp_seq fun K hK => bwp_region rfl ?_
        simp only [go_sem, ↓reduceIte, Nat.reduceEqDiff, Nat.reduceAdd, Nat.reduceLeDiff, Nat.reduceMul, Int.reduceEq]
        refine eat2_callK hs' h4.rs [61] rfl ?_
        intro q5 h5
        simp only [go_sem, ↓reduceIte, Nat.reduceEqDiff, Nat.reduceAdd, Nat.reduceLeDiff, Nat.reduceMul, Int.reduceEq, mset]
        refine hK _ ?_; clear hK
        have up2 : ∀ {x' : Ins} {q' : RSt}, RQ s (thn (posR (thn (posR (thn σ ((tNamed regN).run s))) ((tMust [61]).run s))) ((tRight rg).run s)) x' q' → RQ s (thn σ (tIns.run s)) x' q' :=
          fun hq => up (RQ.bind h4 (RQ.bind h5 hq))
        generalize hσ5 : posR (thn (posR (thn σ ((tNamed regN).run s))) ((tMust [61]).run s)) = σ5 at up2
        have hr5 := h5.rs
        rw [hσ5] at hr5
        refine bwp_block ?_
        refine bwp_seq fun K hK => bwp_region rfl ?_
        simp only [go_sem, ↓reduceIte, Nat.reduceEqDiff, Nat.reduceAdd, Nat.reduceLeDiff, Nat.reduceMul, Int.reduceEq]
        refine is2_callK hs' hr5 wLoad rfl ?_
        intro q6 h6
        simp only [go_sem, ↓reduceIte, Nat.reduceEqDiff, Nat.reduceAdd, Nat.reduceLeDiff, Nat.reduceMul, Int.reduceEq, mset]
        refine hK _ ?_; clear hK
        cases hb6 : ikB q6 wLoad with
        | true =>
          have hg := h6.goT (ikB_code hb6)
          refine bwp_cond true (by simp [ev, fget]) (fun _ => ?_) (fun h => nomatch h)
          refine bwp_seq fun K hK => bwp_region rfl ?_
          simp only [go_sem, ↓reduceIte, Nat.reduceEqDiff, Nat.reduceAdd, Nat.reduceLeDiff, Nat.reduceMul, Int.reduceEq]
          refine go_callK s q6 rfl ?_
          simp only [go_sem, ↓reduceIte, Nat.reduceEqDiff, Nat.reduceAdd, Nat.reduceLeDiff, Nat.reduceMul, Int.reduceEq, mset]
          refine hK _ ?_; clear hK
          refine bwp_region rfl ?_
          simp only [go_sem, ↓reduceIte, Nat.reduceEqDiff, Nat.reduceAdd, Nat.reduceLeDiff, Nat.reduceMul, Int.reduceEq]
          refine loc2_callK hs' hg rfl ?_
          intro l q7 h7
          simp only [go_sem, ↓reduceIte, Nat.reduceEqDiff, Nat.reduceAdd, Nat.reduceLeDiff, Nat.reduceMul, Int.reduceEq, mset]
          refine fin _ q7 ⟨2, rg, l, ⟨0, 0⟩, 0, ⟨0, 0⟩, 0⟩ (Leads.ent [(0, 0), (1, 1), (2, 2)] ⟨by simp [entT, fget, AV.ren, renL, pget], by simp [entM, pinv, mget, mset, renL, AV.ren, pget, rdC, z9, insC, Ins.cells], rfl, rfl⟩) ?_
          exact up2 (RQ.take_yes h6 hb6 (RQ.bind h7 (RQ.ret h7.rs)))
        | false =>
          refine bwp_cond false (by simp [ev, fget]) (fun h => nomatch h) (fun _ => ?_)
          refine bwp_seq fun K hK => bwp_region rfl ?_
          simp only [go_sem, ↓reduceIte, Nat.reduceEqDiff, Nat.reduceAdd, Nat.reduceLeDiff, Nat.reduceMul, Int.reduceEq]
          refine is2_callK (r := q6) hs' h6.rs wCas rfl ?_
          intro q7 h7
          simp only [go_sem, ↓reduceIte, Nat.reduceEqDiff, Nat.reduceAdd, Nat.reduceLeDiff, Nat.reduceMul, Int.reduceEq, mset]
          refine hK _ ?_; clear hK
          cases hb7 : ikB q7 wCas with
          | true =>
            have hg := h7.goT (ikB_code hb7)
            refine bwp_cond true (by simp [ev, fget]) (fun _ => ?_) (fun h => nomatch h)
            refine bwp_seq fun K hK => bwp_region rfl ?_
            simp only [go_sem, ↓reduceIte, Nat.reduceEqDiff, Nat.reduceAdd, Nat.reduceLeDiff, Nat.reduceMul, Int.reduceEq]
            refine go_callK s q7 rfl ?_
            simp only [go_sem, ↓reduceIte, Nat.reduceEqDiff, Nat.reduceAdd, Nat.reduceLeDiff, Nat.reduceMul, Int.reduceEq, mset]
            refine hK _ ?_; clear hK
            refine bwp_seq fun K hK => bwp_region rfl ?_
            simp only [go_sem, ↓reduceIte, Nat.reduceEqDiff, Nat.reduceAdd, Nat.reduceLeDiff, Nat.reduceMul, Int.reduceEq]
            refine loc2_callK hs' hg rfl ?_
            intro l q8 h8
            simp only [go_sem, ↓reduceIte, Nat.reduceEqDiff, Nat.reduceAdd, Nat.reduceLeDiff, Nat.reduceMul, Int.reduceEq, mset]
            refine hK _ ?_; clear hK
            refine bwp_seq fun K hK => bwp_region rfl ?_
            simp only [go_sem, ↓reduceIte, Nat.reduceEqDiff, Nat.reduceAdd, Nat.reduceLeDiff, Nat.reduceMul, Int.reduceEq]
            refine opd2_callK hs h8.rs rfl ?_
            intro x q9 h9
            simp only [go_sem, ↓reduceIte, Nat.reduceEqDiff, Nat.reduceAdd, Nat.reduceLeDiff, Nat.reduceMul, Int.reduceEq, mset]
            refine hK _ ?_; clear hK
            refine bwp_region rfl ?_
            simp only [go_sem, ↓reduceIte, Nat.reduceEqDiff, Nat.reduceAdd, Nat.reduceLeDiff, Nat.reduceMul, Int.reduceEq]
            refine opd2_callK hs h9.rs rfl ?_
            intro y q10 h10
            simp only [go_sem, ↓reduceIte, Nat.reduceEqDiff, Nat.reduceAdd, Nat.reduceLeDiff, Nat.reduceMul, Int.reduceEq, mset]
            refine fin _ q10 ⟨4, rg, l, x, 0, y, 0⟩ (Leads.ent [(0, 0), (1, 1), (2, 2)] ⟨by simp [entT, fget, AV.ren, renL, pget], by simp [entM, pinv, mget, mset, renL, AV.ren, pget, rdC, z9, insC, Ins.cells], rfl, rfl⟩) ?_
            exact up2 (RQ.take_no h6 hb6 (RQ.take_yes h7 hb7 (RQ.bind h8 (RQ.bind h9 (RQ.bind h10 (RQ.ret h10.rs))))))
          | false =>
            refine bwp_cond false (by simp [ev, fget]) (fun h => nomatch h) (fun _ => ?_)
            refine bwp_seq fun K hK => bwp_region rfl ?_
            simp only [go_sem, ↓reduceIte, Nat.reduceEqDiff, Nat.reduceAdd, Nat.reduceLeDiff, Nat.reduceMul, Int.reduceEq]
            refine opd2_callK (r := q7) hs h7.rs rfl ?_
            intro x q8 h8
            simp only [go_sem, ↓reduceIte, Nat.reduceEqDiff, Nat.reduceAdd, Nat.reduceLeDiff, Nat.reduceMul, Int.reduceEq, mset]
            refine hK _ ?_; clear hK
            refine bwp_seq fun K hK => bwp_region rfl ?_
            simp only [go_sem, ↓reduceIte, Nat.reduceEqDiff, Nat.reduceAdd, Nat.reduceLeDiff, Nat.reduceMul, Int.reduceEq]
            refine hK _ ?_; clear hK
            refine bwp_seq fun K hK => bwp_region rfl ?_
            simp only [go_sem, ↓reduceIte, Nat.reduceEqDiff, Nat.reduceAdd, Nat.reduceLeDiff, Nat.reduceMul, Int.reduceEq]
            refine look_callK (r := q8) hs' h8.rs rfl ?_
            intro q9 h9
            have up3 : ∀ {x' : Ins} {q' : RSt}, RQ s (thn (posR (thn σ5 (tOpd.run s))) ((PT.cur fun d y => if d = 3 ∧ (opW y).2 = true then .eat (tOpd.bind fun z => .ret (⟨5, rg, 0, x, (opW y).1, z, 0⟩ : Ins)) else .ret ⟨5, rg, 0, x, 0, ⟨-1, 0⟩, 0⟩).run s)) x' q' → RQ s (thn σ (tIns.run s)) x' q' :=
              fun hq => up2 (RQ.take_no h6 hb6 (RQ.take_no h7 hb7 (RQ.bind h8 hq)))
            generalize posR (thn σ5 (tOpd.run s)) = σ9 at h9 up3
            have stop : (q9.code = 0 → q9.tok.kd = 3 → (opW q9.tok.tx).2 = false) → RQ s (thn σ (tIns.run s)) ⟨5, rg, 0, x, 0, ⟨-1, 0⟩, 0⟩ q9 := by
              intro hno
              refine up3 ?_
              cases σ9 with
              | error e => exact h9.rs
              | ok a =>
                refine RQ.cur h9 ?_
                rw [if_neg (fun hc => by rw [hno h9.code hc.1] at hc; cases hc.2)]
                exact RQ.ret h9.rs
            by_cases hc : q9.code = 0
            · rw [lkT_ok hc]
              simp only [go_sem, ↓reduceIte, Nat.reduceEqDiff, Nat.reduceAdd, Nat.reduceLeDiff, Nat.reduceMul, Int.reduceEq, mset]
              refine hK _ ?_; clear hK
              by_cases hk : q9.tok.kd = 3
              · refine bwp_seq fun K hK => bwp_region rfl ?_
                simp only [go_sem, ↓reduceIte, Nat.reduceEqDiff, Nat.reduceAdd, Nat.reduceLeDiff, Nat.reduceMul, Int.reduceEq, eq_true hk, decide_true]
                refine hK _ ?_; clear hK
                refine bwp_cond true (by simp [ev, fget]) (fun _ => ?_) (fun h => nomatch h)
                have kop := refOp_pure q9.tok.tx
                refine bwp_seq fun K hK => bwp_region rfl ?_
                simp only [go_sem, ↓reduceIte, Nat.reduceEqDiff, Nat.reduceAdd, Nat.reduceLeDiff, Nat.reduceMul, Int.reduceEq]
                repeat' (first
                  | (refine gateK_split (fun hb => ?_) (fun hb => ?_) <;> simp only [go_sem, ↓reduceIte, Nat.reduceEqDiff, Nat.reduceAdd, Nat.reduceLeDiff, Nat.reduceMul, Int.reduceEq, hb])
                  | (refine dGateK_split (fun hb => ?_) (fun hb => ?_) <;> simp only [go_sem, ↓reduceIte, Nat.reduceEqDiff, Nat.reduceAdd, Nat.reduceLeDiff, Nat.reduceMul, Int.reduceEq, hb])
                  | (refine callK_pure (kop) rfl rfl ?_; simp only [go_sem, ↓reduceIte, Nat.reduceEqDiff, Nat.reduceAdd, Nat.reduceLeDiff, Nat.reduceMul, Int.reduceEq])
                  | (refine dCallK_pure (kop) rfl rfl ?_; simp only [go_sem, ↓reduceIte, Nat.reduceEqDiff, Nat.reduceAdd, Nat.reduceLeDiff, Nat.reduceMul, Int.reduceEq])
                  | (rw [if_pos (by (try simp only [List.length_append, List.length_cons, List.length_nil, List.length_map]); omega)]; simp only [go_sem, ↓reduceIte, Nat.reduceEqDiff, Nat.reduceAdd, Nat.reduceLeDiff, Nat.reduceMul, Int.reduceEq]))
                refine hK _ ?_; clear hK
                refine bwp_seq fun K hK => bwp_region rfl ?_
                simp only [go_sem, ↓reduceIte, Nat.reduceEqDiff, Nat.reduceAdd, Nat.reduceLeDiff, Nat.reduceMul, Int.reduceEq]
                refine hK _ ?_; clear hK
                cases ho : (opW q9.tok.tx).2 with
                | false =>
                  refine bwp_cond false (by simp [ev, fget, ho]) (fun h => nomatch h) (fun _ => ?_)
                  refine bwp_skip ?_
                  refine fin _ q9 ⟨5, rg, 0, x, 0, ⟨-1, 0⟩, 0⟩ (Leads.ent [(0, 0), (1, 1), (2, 2)] ⟨by simp [entT, fget, AV.ren, renL, pget], by simp [entM, pinv, mget, mset, renL, AV.ren, pget, rdC, z9, insC, Ins.cells], rfl, rfl⟩) (stop fun _ _ => ho)
                | true =>
                  have hg := h9.goT hc
                  refine bwp_cond true (by simp [ev, fget, ho]) (fun _ => ?_) (fun h => nomatch h)
                  refine bwp_seq fun K hK => bwp_region rfl ?_
                  simp only [go_sem, ↓reduceIte, Nat.reduceEqDiff, Nat.reduceAdd, Nat.reduceLeDiff, Nat.reduceMul, Int.reduceEq]
                  refine go_callK s q9 rfl ?_
                  simp only [go_sem, ↓reduceIte, Nat.reduceEqDiff, Nat.reduceAdd, Nat.reduceLeDiff, Nat.reduceMul, Int.reduceEq, mset]
                  refine hK _ ?_; clear hK
                  refine bwp_region rfl ?_
                  simp only [go_sem, ↓reduceIte, Nat.reduceEqDiff, Nat.reduceAdd, Nat.reduceLeDiff, Nat.reduceMul, Int.reduceEq]
                  refine opd2_callK hs hg rfl ?_
                  intro z q10 h10
                  simp only [go_sem, ↓reduceIte, Nat.reduceEqDiff, Nat.reduceAdd, Nat.reduceLeDiff, Nat.reduceMul, Int.reduceEq, mset]
                  refine fin _ q10 ⟨5, rg, 0, x, (opW q9.tok.tx).1, z, 0⟩ (Leads.ent [(0, 0), (1, 1), (2, 2)] ⟨by simp [entT, fget, AV.ren, renL, pget], by simp [entM, pinv, mget, mset, renL, AV.ren, pget, rdC, z9, insC, Ins.cells], rfl, rfl⟩) ?_
                  refine up3 (RQ.cur h9 ?_)
                  rw [if_pos ⟨hk, ho⟩]
                  exact RQ.eat (RQ.bind h10 (RQ.ret h10.rs))
              · refine bwp_seq fun K hK => bwp_region rfl ?_
                simp only [go_sem, ↓reduceIte, Nat.reduceEqDiff, Nat.reduceAdd, Nat.reduceLeDiff, Nat.reduceMul, Int.reduceEq, eq_false hk, decide_false]
                refine hK _ ?_; clear hK
                refine bwp_cond false (by simp [ev, fget]) (fun h => nomatch h) (fun _ => ?_)
                refine bwp_skip ?_
                refine fin _ q9 ⟨5, rg, 0, x, 0, ⟨-1, 0⟩, 0⟩ (Leads.ent [(0, 0), (1, 1), (2, 2)] ⟨by simp [entT, fget, AV.ren, renL, pget], by simp [entM, pinv, mget, mset, renL, AV.ren, pget, rdC, z9, insC, Ins.cells], rfl, rfl⟩) (stop fun _ h => absurd h hk)
            · rw [lkT_no hc]
              simp only [go_sem, ↓reduceIte, Nat.reduceEqDiff, Nat.reduceAdd, Nat.reduceLeDiff, Nat.reduceMul, Int.reduceEq, mset]
              refine hK _ ?_; clear hK
              refine bwp_seq fun K hK => bwp_region rfl ?_
              simp only [go_sem, ↓reduceIte, Nat.reduceEqDiff, Nat.reduceAdd, Nat.reduceLeDiff, Nat.reduceMul, Int.reduceEq]
              refine hK _ ?_; clear hK
              refine bwp_cond false (by simp [ev, fget]) (fun h => nomatch h) (fun _ => ?_)
              refine bwp_skip ?_
              refine fin _ q9 ⟨5, rg, 0, x, 0, ⟨-1, 0⟩, 0⟩ (Leads.ent [(0, 0), (1, 1), (2, 2)] ⟨by simp [entT, fget, AV.ren, renL, pget], by simp [entM, pinv, mget, mset, renL, AV.ren, pget, rdC, z9, insC, Ins.cells], rfl, rfl⟩) (stop fun h => absurd h hc)
      | true =>
        have up : ∀ {x' : Ins} {q' : RSt}, RQ s (thn (thn σ (eatW s)) ((PT.cur fun d y => if d = 2 ∧ (parseW y).1 < 0 then .bad 6 else
            tNum.bind fun n => (tMust wIf).bind fun _ => tOpd.bind fun x => (tMust [61, 61]).bind fun _ => tOpd.bind fun y => PT.ret (⟨6, 0, 0, x, 0, y, n⟩ : Ins)).run s)) x' q' → RQ s (thn σ (tIns.run s)) x' q' :=
          fun hq => RQ.take_no h1 hb1 (RQ.take_no h2 hb2 (RQ.take_yes h3 hb3 hq))
        have hg := h3.goT (ikB_code hb3)
        generalize thn σ (eatW s) = σ3 at up hg
        refine bwp_cond true (by simp [ev, fget]) (fun _ => ?_) (fun h => nomatch h)
        refine bwp_seq fun K hK => bwp_region rfl ?_
        simp only [go_sem, ↓reduceIte, Nat.reduceEqDiff, Nat.reduceAdd, Nat.reduceLeDiff, Nat.reduceMul, Int.reduceEq]
        refine go_callK s q3 rfl ?_
        simp only [go_sem, ↓reduceIte, Nat.reduceEqDiff, Nat.reduceAdd, Nat.reduceLeDiff, Nat.reduceMul, Int.reduceEq, mset]
        refine hK _ ?_; clear hK
        refine bwp_seq fun K hK => bwp_region rfl ?_
        simp only [go_sem, ↓reduceIte, Nat.reduceEqDiff, Nat.reduceAdd, Nat.reduceLeDiff, Nat.reduceMul, Int.reduceEq]
        refine hK _ ?_; clear hK
        refine bwp_seq fun K hK => bwp_region rfl ?_
        simp only [go_sem, ↓reduceIte, Nat.reduceEqDiff, Nat.reduceAdd, Nat.reduceLeDiff, Nat.reduceMul, Int.reduceEq]
        refine num2_callK hs hg rfl ?_
        intro N q4 h4 hf
        simp only [go_sem, ↓reduceIte, Nat.reduceEqDiff, Nat.reduceAdd, Nat.reduceLeDiff, Nat.reduceMul, Int.reduceEq, mset]
        refine hK _ ?_; clear hK
        refine bwp_seq fun K1 hK1 => ?_
        have rest : ∀ (t : Fr) (n : Nat) (q5 : RSt) (σ' : PR Nat), RS s σ' q5 → fget t 0 = .ptr 0 0 → fget t 2 = .ptr 1 0 → fget t 3 = .ptr 2 0 → fget t 4 = .d (.int .i64 N) → 3 ≤ n →
            (∀ x' q', RQ s (thn σ' (((tMust wIf).bind fun _ => tOpd.bind fun x => (tMust [61, 61]).bind fun _ => tOpd.bind fun y => PT.ret (⟨6, 0, 0, x, 0, y, N⟩ : Ins)).run s)) x' q' → RQ s (thn σ (tIns.run s)) x' q') →
            K1 ⟨t, [(0, rdC s q5), (1, z9), (2, insC ⟨6, 0, 0, ⟨0, 0⟩, 0, ⟨0, 0⟩, 0⟩)], n⟩ := by
          intro t n q5 σ' h5 g0 g2 g3 g4 hn hgoal
          refine hK1 _ ?_; clear hK1
          refine bwp_seq fun K hK => bwp_region (decide_eq_true (show 1 ≤ n by omega)) ?_
          simp only [go_sem, ↓reduceIte, Nat.reduceEqDiff, Nat.reduceAdd, Nat.reduceLeDiff, Nat.reduceMul, Int.reduceEq, g0, g3, g4, insC, Ins.cells, mset]
          refine hK _ ?_; clear hK
          refine bwp_seq fun K hK => bwp_region (decide_eq_true (show 1 ≤ n by omega)) ?_
          simp only [go_sem, ↓reduceIte, Nat.reduceEqDiff, Nat.reduceAdd, Nat.reduceLeDiff, Nat.reduceMul, Int.reduceEq, g0, g3]
          refine eat2_callK hs' h5 wIf rfl ?_
          intro q6 h6
          simp only [go_sem, ↓reduceIte, Nat.reduceEqDiff, Nat.reduceAdd, Nat.reduceLeDiff, Nat.reduceMul, Int.reduceEq, mset, g0, g3]
          refine hK _ ?_; clear hK
          refine bwp_seq fun K hK => bwp_region (decide_eq_true (Nat.le_add_left 1 _)) ?_
          simp only [go_sem, ↓reduceIte, Nat.reduceEqDiff, Nat.reduceAdd, Nat.reduceLeDiff, Nat.reduceMul, Int.reduceEq, g0, g3]
          refine opd2_callK hs h6.rs rfl ?_
          intro x q7 h7
          simp only [go_sem, ↓reduceIte, Nat.reduceEqDiff, Nat.reduceAdd, Nat.reduceLeDiff, Nat.reduceMul, Int.reduceEq, mset, g0, g3]
          refine hK _ ?_; clear hK
          refine bwp_seq fun K hK => bwp_region (decide_eq_true (Nat.le_add_left 1 _)) ?_
          simp only [go_sem, ↓reduceIte, Nat.reduceEqDiff, Nat.reduceAdd, Nat.reduceLeDiff, Nat.reduceMul, Int.reduceEq, g0, g3]
          refine eat2_callK hs' h7.rs [61, 61] rfl ?_
          intro q8 h8
          simp only [go_sem, ↓reduceIte, Nat.reduceEqDiff, Nat.reduceAdd, Nat.reduceLeDiff, Nat.reduceMul, Int.reduceEq, mset, g0, g3]
          refine hK _ ?_; clear hK
          refine bwp_region (decide_eq_true (Nat.le_add_left 1 _)) ?_
          simp only [go_sem, ↓reduceIte, Nat.reduceEqDiff, Nat.reduceAdd, Nat.reduceLeDiff, Nat.reduceMul, Int.reduceEq, g0, g3]
          refine opd2_callK hs h8.rs rfl ?_
          intro y q9 h9
          simp only [go_sem, ↓reduceIte, Nat.reduceEqDiff, Nat.reduceAdd, Nat.reduceLeDiff, Nat.reduceMul, Int.reduceEq, mset, g0, g3]
          refine fin _ q9 ⟨6, 0, 0, x, 0, y, N⟩ (Leads.ent [(0, 0), (1, 1), (2, 2)] ⟨by simp [entT, fget, AV.ren, renL, pget, g0, g2, g3], by simp [entM, pinv, mget, mset, renL, AV.ren, pget, rdC, z9, insC, Ins.cells], rfl, rfl⟩) ?_
          refine hgoal _ _ ?_
          exact RQ.bind h6 (RQ.bind h7 (RQ.bind h8 (RQ.bind h9 (RQ.ret h9.rs))))
        rcases hf with ⟨hc, a, rfl, hk, hx, hpl, hra⟩ | ⟨hc, hk⟩
        · by_cases hneg : N < 0
          · refine bwp_seq fun K hK => bwp_region rfl ?_
            simp only [go_sem, ↓reduceIte, Nat.reduceEqDiff, Nat.reduceAdd, Nat.reduceLeDiff, Nat.reduceMul, Int.reduceEq, rdC, eq_true hc, eq_true hneg, decide_true]
            refine hK _ ?_; clear hK
            refine bwp_cond true (by simp [ev, fget]) (fun _ => ?_) (fun h => nomatch h)
            refine bwp_region rfl ?_
            simp only [go_sem, ↓reduceIte, Nat.reduceEqDiff, Nat.reduceAdd, Nat.reduceLeDiff, Nat.reduceMul, Int.reduceEq]
            refine rest _ _ ⟨q4.pos, q4.tok, q4.to, 6, q4.tok.pl⟩ (.error (6, q4.tok.pl)) (.inr ⟨_, rfl, rfl, (by decide : (6 : Int) ≠ 0), rfl⟩) rfl rfl rfl rfl (by decide) ?_
            intro x' q' hq'
            refine up ?_
            simp only [thn, PT.run]
            rw [if_pos ⟨hk, by rw [← hx]; exact hneg⟩, PT.run, ← hpl]
            exact hq'
          · refine bwp_seq fun K hK => bwp_region rfl ?_
            simp only [go_sem, ↓reduceIte, Nat.reduceEqDiff, Nat.reduceAdd, Nat.reduceLeDiff, Nat.reduceMul, Int.reduceEq, rdC, eq_true hc, eq_false hneg, decide_true, decide_false]
            refine hK _ ?_; clear hK
            refine bwp_cond false (by simp [ev, fget]) (fun h => nomatch h) (fun _ => ?_)
            refine bwp_skip ?_
            refine rest _ _ q4 _ h4.rs rfl rfl rfl rfl (by decide) ?_
            intro x' q' hq'
            refine up ?_
            simp only [thn, PT.run]
            rw [if_neg (fun hh => hneg (by rw [hx]; exact hh.2))]
            exact RQ.bind (σ := .ok a) h4 hq'
        · refine bwp_seq fun K hK => bwp_region rfl ?_
          simp only [go_sem, ↓reduceIte, Nat.reduceEqDiff, Nat.reduceAdd, Nat.reduceLeDiff, Nat.reduceMul, Int.reduceEq, rdC, eq_false hc, decide_false]
          refine hK _ ?_; clear hK
          refine bwp_cond false (by simp [ev, fget]) (fun h => nomatch h) (fun _ => ?_)
          refine bwp_skip ?_
          refine rest _ _ q4 _ h4.rs rfl rfl rfl rfl (by decide) ?_
          intro x' q' hq'
          refine up ?_
          cases σ3 with
          | error e => exact hq'
          | ok a =>
            simp only [thn, PT.run]
            rw [if_neg (fun hh => hk a rfl hh.1)]
            exact RQ.bind (σ := .ok a) h4 hq'

theorem ins2_callK {s : List UInt8} (hs : s.length ≤ 4000) {σ : PR Nat} {r : RSt} (h : RS s σ r) {j : Nat} {dst : Option Nat} {ops : List AOper} {K : St → Prop} {t : Fr} {m : Mem} {n : Nat} (hm : mget m j = some (rdC s r))
    (hk : ∀ (x : Ins) r', RQ s (thn σ (tInsE.run s)) x r' → runOps Tryd.prog ops ⟨putF t dst (.agg (insC x)), mset m j (rdC s r'), n + 1⟩ K) : callK Tryd.prog 59 [.ptr j 0] dst ops K t m n := by
  refine rd_callK (rest := []) (Q := fun v r' => ∃ x : Ins, v = .agg (insC x) ∧ RQ s (thn σ (tInsE.run s)) x r') (ins2_calls hs h) rfl ?_ hm ?_
  · rintro _ _ ⟨x, rfl, _⟩; exact insC_in _ x
  · rintro _ r' ⟨x, rfl, h⟩; exact hk x r' h

end Go.Proofs.YtpfbljkfbjjlkaaDoor

/- The document's reader: atoms. -/
namespace Go.Proofs.YtpfbljkfbjjlkaaDoor
open Go Go.Jq
set_option maxRecDepth 100000
set_option linter.unusedSimpArgs false

theorem RQ.bind_stop {α β : Type} {s : List UInt8} {σ : PR Nat} {t : PT α} {f : α → PT β} {y : β} {q' : RSt} (h : RL s (posR (thn σ (t.run s))) q') (he : q'.code ≠ 0) : RQ s (thn σ ((t.bind f).run s)) y q' := by
  cases σ with
  | error e => exact h.rs
  | ok a =>
    simp only [thn] at h ⊢
    rw [PT.run_bind]
    cases ht : t.run s a with
    | error e => rw [ht] at h; exact h.rs
    | ok p =>
      rw [ht] at h
      exact absurd h.code he

def z4 : List AV := [.d (.int .i64 0), .d (.int .i64 0), .d (.int .i64 0), .d (.int .i64 0)]

set_option maxHeartbeats 64000000 in
theorem atom2_calls {s : List UInt8} (hs : s.length ≤ 4000) {σ : PR Nat} {r : RSt} (h : RS s σ r) :
    ACalls Tryd.prog 60 [.ptr 0 0] [(0, rdC s r)] fun v m' => ∃ r', m' = [(0, rdC s r')] ∧ ∃ x : Atom, v = .agg (atC x) ∧ RQ s (thn σ (tAtom.run s)) x r' := by
  have hs' : s.length ≤ 140737488351232 := by omega
  have hld : ldk Tryd.prog 61 = some (some 4) := by kernel_rfl
  refine acalls_of Tryd.func60 ac60_ok Tryd.ntmps60 Tryd.results60 rfl ?_
  unfold ac60
  refine bwp_seq fun K hK => bwp_region rfl ?_
  simp -implicitDefEqProofs only [go_sem, ↓reduceIte, Nat.reduceEqDiff, Nat.reduceAdd, Nat.reduceLeDiff, Nat.reduceMul, Nat.reduceSub, Int.reduceLE, Int.reduceLT, Int.reduceEq, Int.reduceToNat, Int.reducePow, Int.reduceNeg]
  refine hK _ ?_; clear hK
  refine bwp_seq fun K hK => bwp_region rfl ?_
  simp -implicitDefEqProofs only [go_sem, ↓reduceIte, Nat.reduceEqDiff, Nat.reduceAdd, Nat.reduceLeDiff, Nat.reduceMul, Nat.reduceSub, Int.reduceLE, Int.reduceLT, Int.reduceEq, Int.reduceToNat, Int.reducePow, Int.reduceNeg]
  refine hK _ ?_; clear hK
  refine bwp_seq fun K0 hK0 => ?_
  have fin : ∀ (S : St) (q1 : RSt) (x1 : Atom), Leads 1 Tryd.f60.ntmps S ⟨[(0, .ptr 0 0), (2, .ptr 1 0), (3, .ptr 2 0)], [(0, rdC s q1), (1, z4), (2, atC x1)], 3⟩ → RQ s (thn σ (tWho.run s)) x1 q1 → K0 S := by
    intro S q1 x1 hS hq
    refine hK0 _ ?_; clear hK0
    refine bwp_leads hS ?_
    refine bwp_seq fun K hK => bwp_region rfl ?_
    simp -implicitDefEqProofs only [go_sem, ↓reduceIte, Nat.reduceEqDiff, Nat.reduceAdd, Nat.reduceLeDiff, Nat.reduceMul, Nat.reduceSub, Int.reduceLE, Int.reduceLT, Int.reduceEq, Int.reduceToNat, Int.reducePow, Int.reduceNeg, z4, atC, Atom.cells]
    refine eat2_callK hs' hq.rs [61] rfl ?_
    intro q2 h2
    simp -implicitDefEqProofs only [go_sem, ↓reduceIte, Nat.reduceEqDiff, Nat.reduceAdd, Nat.reduceLeDiff, Nat.reduceMul, Nat.reduceSub, Int.reduceLE, Int.reduceLT, Int.reduceEq, Int.reduceToNat, Int.reducePow, Int.reduceNeg, mset]
    refine hK _ ?_; clear hK
    refine bwp_seq fun K hK => bwp_region rfl ?_
    simp -implicitDefEqProofs only [go_sem, ↓reduceIte, Nat.reduceEqDiff, Nat.reduceAdd, Nat.reduceLeDiff, Nat.reduceMul, Nat.reduceSub, Int.reduceLE, Int.reduceLT, Int.reduceEq, Int.reduceToNat, Int.reducePow, Int.reduceNeg]
    refine num2_callK hs h2.rs rfl ?_
    intro N q3 h3 _
    simp -implicitDefEqProofs only [go_sem, ↓reduceIte, Nat.reduceEqDiff, Nat.reduceAdd, Nat.reduceLeDiff, Nat.reduceMul, Nat.reduceSub, Int.reduceLE, Int.reduceLT, Int.reduceEq, Int.reduceToNat, Int.reducePow, Int.reduceNeg, mset]
    refine hK _ ?_; clear hK
    refine bwp_seq fun K hK => bwp_region rfl ?_
    simp -implicitDefEqProofs only [go_sem, ↓reduceIte, Nat.reduceEqDiff, Nat.reduceAdd, Nat.reduceLeDiff, Nat.reduceMul, Nat.reduceSub, Int.reduceLE, Int.reduceLT, Int.reduceEq, Int.reduceToNat, Int.reducePow, Int.reduceNeg]
    refine hK _ ?_; clear hK
    refine bwp_ret ?_
    simp only [go_sem]
    refine aend_mem (.agg (atC { x1 with value := N })) [(0, 0)] [(0, rdC s q3)] ?_ rfl rfl ?_ ⟨q3, rfl, { x1 with value := N }, rfl, ?_⟩
    · simp [resA, resVs, resV, fget, mget, mset, loadA, hld, atC, Atom.cells]
    · simp [entM, pinv, mget, mset, renL, AV.ren, rdC, pget]
    · exact RQ.bind hq (RQ.bind h2 (RQ.bind h3 (RQ.ret h3.rs)))
  refine bwp_seq fun K hK => bwp_region rfl ?_
  simp -implicitDefEqProofs only [go_sem, ↓reduceIte, Nat.reduceEqDiff, Nat.reduceAdd, Nat.reduceLeDiff, Nat.reduceMul, Nat.reduceSub, Int.reduceLE, Int.reduceLT, Int.reduceEq, Int.reduceToNat, Int.reducePow, Int.reduceNeg]
  refine look_callK hs' h rfl ?_
  intro q hq
  by_cases hc : q.code = 0
  · rw [lkT_ok hc]
    have hp := hq.pos hc
    have kp := refParse_pure (s := q.tok.tx) (Nat.le_trans hp.2.1 (Nat.le_trans hs (by decide)))
    simp -implicitDefEqProofs only [go_sem, ↓reduceIte, Nat.reduceEqDiff, Nat.reduceAdd, Nat.reduceLeDiff, Nat.reduceMul, Nat.reduceSub, Int.reduceLE, Int.reduceLT, Int.reduceEq, Int.reduceToNat, Int.reducePow, Int.reduceNeg, mset]
    refine hK _ ?_; clear hK
    by_cases h2 : q.tok.kd = 2
    · rw [hp.2.2 h2] at kp
      refine bwp_seq fun K hK => bwp_region rfl ?_
      simp -implicitDefEqProofs only [go_sem, ↓reduceIte, Nat.reduceEqDiff, Nat.reduceAdd, Nat.reduceLeDiff, Nat.reduceMul, Nat.reduceSub, Int.reduceLE, Int.reduceLT, Int.reduceEq, Int.reduceToNat, Int.reducePow, Int.reduceNeg, eq_true hc, eq_true h2, rdC, decide_true]
      refine hK _ ?_; clear hK
      refine bwp_cond true (by simp [ev, fget]) (fun _ => ?_) (fun h => nomatch h)
      refine bwp_seq fun K hK => bwp_region rfl ?_
      simp -implicitDefEqProofs only [go_sem, ↓reduceIte, Nat.reduceEqDiff, Nat.reduceAdd, Nat.reduceLeDiff, Nat.reduceMul, Nat.reduceSub, Int.reduceLE, Int.reduceLT, Int.reduceEq, Int.reduceToNat, Int.reducePow, Int.reduceNeg]
      repeat' (first
        | (refine gateK_split (fun hb => ?_) (fun hb => ?_) <;> simp -implicitDefEqProofs only [go_sem, ↓reduceIte, Nat.reduceEqDiff, Nat.reduceAdd, Nat.reduceLeDiff, Nat.reduceMul, Nat.reduceSub, Int.reduceLE, Int.reduceLT, Int.reduceEq, Int.reduceToNat, Int.reducePow, Int.reduceNeg, hb])
        | (refine dGateK_split (fun hb => ?_) (fun hb => ?_) <;> simp -implicitDefEqProofs only [go_sem, ↓reduceIte, Nat.reduceEqDiff, Nat.reduceAdd, Nat.reduceLeDiff, Nat.reduceMul, Nat.reduceSub, Int.reduceLE, Int.reduceLT, Int.reduceEq, Int.reduceToNat, Int.reducePow, Int.reduceNeg, hb])
        | (refine callK_pure (kp) rfl rfl ?_; simp -implicitDefEqProofs only [go_sem, ↓reduceIte, Nat.reduceEqDiff, Nat.reduceAdd, Nat.reduceLeDiff, Nat.reduceMul, Nat.reduceSub, Int.reduceLE, Int.reduceLT, Int.reduceEq, Int.reduceToNat, Int.reducePow, Int.reduceNeg])
        | (refine dCallK_pure (kp) rfl rfl ?_; simp -implicitDefEqProofs only [go_sem, ↓reduceIte, Nat.reduceEqDiff, Nat.reduceAdd, Nat.reduceLeDiff, Nat.reduceMul, Nat.reduceSub, Int.reduceLE, Int.reduceLT, Int.reduceEq, Int.reduceToNat, Int.reducePow, Int.reduceNeg])
        | (rw [if_pos (by (try simp only [List.length_append, List.length_cons, List.length_nil, List.length_map]); omega)]; simp -implicitDefEqProofs only [go_sem, ↓reduceIte, Nat.reduceEqDiff, Nat.reduceAdd, Nat.reduceLeDiff, Nat.reduceMul, Nat.reduceSub, Int.reduceLE, Int.reduceLT, Int.reduceEq, Int.reduceToNat, Int.reducePow, Int.reduceNeg]))
      refine hK _ ?_; clear hK
      generalize hpn : (parseW q.tok.tx).1 = pn at *
      generalize (refW q.tok.tx).2 = pb at *
      by_cases hbad : pn < 0 ∨ 9 < pn
      · have hstop : RL s (posR (thn σ (tWho.run s))) (failR q 7) := by
          cases σ with
          | error e => exact absurd hc hq.codeE
          | ok a =>
            have ht := hq.2.2.2.2.1
            have e : tWho.run s a = (PT.bad 7 : PT Atom).run s a := by
              unfold tWho
              simp only [PT.run]
              rw [← ht, if_pos h2, hpn, if_pos hbad]
              simp only [PT.run, ht]
            show RL s (posR (tWho.run s a)) _
            rw [e]
            exact hq.fail (by decide) (α := Atom)
        by_cases n1 : pn < 0
        · refine bwp_seq fun K1 hK1 => ?_
          refine bwp_seq fun K hK => bwp_region rfl ?_
          simp -implicitDefEqProofs only [go_sem, ↓reduceIte, Nat.reduceEqDiff, Nat.reduceAdd, Nat.reduceLeDiff, Nat.reduceMul, Nat.reduceSub, Int.reduceLE, Int.reduceLT, Int.reduceEq, Int.reduceToNat, Int.reducePow, Int.reduceNeg, eq_true n1, decide_true, decide_false]
          refine hK _ ?_; clear hK
          refine bwp_cond true (by simp [ev, fget]) (fun _ => ?_) (fun h => nomatch h)
          refine bwp_seq fun K hK => bwp_region rfl ?_
          simp -implicitDefEqProofs only [go_sem, ↓reduceIte, Nat.reduceEqDiff, Nat.reduceAdd, Nat.reduceLeDiff, Nat.reduceMul, Nat.reduceSub, Int.reduceLE, Int.reduceLT, Int.reduceEq, Int.reduceToNat, Int.reducePow, Int.reduceNeg]
          refine fail2_callK s q 7 rfl ?_
          simp -implicitDefEqProofs only [go_sem, ↓reduceIte, Nat.reduceEqDiff, Nat.reduceAdd, Nat.reduceLeDiff, Nat.reduceMul, Nat.reduceSub, Int.reduceLE, Int.reduceLT, Int.reduceEq, Int.reduceToNat, Int.reducePow, Int.reduceNeg, mset]
          refine hK _ ?_; clear hK
          refine bwp_seq fun K hK => bwp_region rfl ?_
          simp -implicitDefEqProofs only [go_sem, ↓reduceIte, Nat.reduceEqDiff, Nat.reduceAdd, Nat.reduceLeDiff, Nat.reduceMul, Nat.reduceSub, Int.reduceLE, Int.reduceLT, Int.reduceEq, Int.reduceToNat, Int.reducePow, Int.reduceNeg]
          refine hK _ ?_; clear hK
          refine bwp_ret ?_
          simp only [go_sem]
          refine aend_mem (.agg (atC ⟨-1, 0, 0, 0⟩)) [(0, 0)] [(0, rdC s (failR q 7))] ?_ rfl rfl ?_ ⟨_, rfl, ⟨-1, 0, 0, 0⟩, rfl, ?_⟩
          · simp [resA, resVs, resV, fget, mget, mset, loadA, hld, atC, Atom.cells]
          · simp [entM, pinv, mget, mset, renL, AV.ren, rdC, pget]
          · exact RQ.bind_stop hstop (failR_code (by decide))
        · have n2 : 9 < pn := by omega
          refine bwp_seq fun K1 hK1 => ?_
          refine bwp_seq fun K hK => bwp_region rfl ?_
          simp -implicitDefEqProofs only [go_sem, ↓reduceIte, Nat.reduceEqDiff, Nat.reduceAdd, Nat.reduceLeDiff, Nat.reduceMul, Nat.reduceSub, Int.reduceLE, Int.reduceLT, Int.reduceEq, Int.reduceToNat, Int.reducePow, Int.reduceNeg, eq_false n1, eq_true n2, decide_true, decide_false]
          refine hK _ ?_; clear hK
          refine bwp_cond true (by simp [ev, fget]) (fun _ => ?_) (fun h => nomatch h)
          refine bwp_seq fun K hK => bwp_region rfl ?_
          simp -implicitDefEqProofs only [go_sem, ↓reduceIte, Nat.reduceEqDiff, Nat.reduceAdd, Nat.reduceLeDiff, Nat.reduceMul, Nat.reduceSub, Int.reduceLE, Int.reduceLT, Int.reduceEq, Int.reduceToNat, Int.reducePow, Int.reduceNeg]
          refine fail2_callK s q 7 rfl ?_
          simp -implicitDefEqProofs only [go_sem, ↓reduceIte, Nat.reduceEqDiff, Nat.reduceAdd, Nat.reduceLeDiff, Nat.reduceMul, Nat.reduceSub, Int.reduceLE, Int.reduceLT, Int.reduceEq, Int.reduceToNat, Int.reducePow, Int.reduceNeg, mset]
          refine hK _ ?_; clear hK
          refine bwp_seq fun K hK => bwp_region rfl ?_
          simp -implicitDefEqProofs only [go_sem, ↓reduceIte, Nat.reduceEqDiff, Nat.reduceAdd, Nat.reduceLeDiff, Nat.reduceMul, Nat.reduceSub, Int.reduceLE, Int.reduceLT, Int.reduceEq, Int.reduceToNat, Int.reducePow, Int.reduceNeg]
          refine hK _ ?_; clear hK
          refine bwp_ret ?_
          simp only [go_sem]
          refine aend_mem (.agg (atC ⟨-1, 0, 0, 0⟩)) [(0, 0)] [(0, rdC s (failR q 7))] ?_ rfl rfl ?_ ⟨_, rfl, ⟨-1, 0, 0, 0⟩, rfl, ?_⟩
          · simp [resA, resVs, resV, fget, mget, mset, loadA, hld, atC, Atom.cells]
          · simp [entM, pinv, mget, mset, renL, AV.ren, rdC, pget]
          · exact RQ.bind_stop hstop (failR_code (by decide))
      · have n1 : ¬ pn < 0 := fun h => hbad (.inl h)
        have n2 : ¬ 9 < pn := fun h => hbad (.inr h)
        have hg := hq.goT hc
        refine bwp_seq fun K1 hK1 => ?_
        refine bwp_seq fun K hK => bwp_region rfl ?_
        simp -implicitDefEqProofs only [go_sem, ↓reduceIte, Nat.reduceEqDiff, Nat.reduceAdd, Nat.reduceLeDiff, Nat.reduceMul, Nat.reduceSub, Int.reduceLE, Int.reduceLT, Int.reduceEq, Int.reduceToNat, Int.reducePow, Int.reduceNeg, eq_false n1, eq_false n2, decide_false]
        refine hK _ ?_; clear hK
        refine bwp_cond false (by simp [ev, fget]) (fun h => nomatch h) (fun _ => ?_)
        refine bwp_skip ?_
        refine hK1 _ ?_; clear hK1
        refine bwp_seq fun K hK => bwp_region rfl ?_
        simp -implicitDefEqProofs only [go_sem, ↓reduceIte, Nat.reduceEqDiff, Nat.reduceAdd, Nat.reduceLeDiff, Nat.reduceMul, Nat.reduceSub, Int.reduceLE, Int.reduceLT, Int.reduceEq, Int.reduceToNat, Int.reducePow, Int.reduceNeg]
        refine go_callK s q rfl ?_
        simp -implicitDefEqProofs only [go_sem, ↓reduceIte, Nat.reduceEqDiff, Nat.reduceAdd, Nat.reduceLeDiff, Nat.reduceMul, Nat.reduceSub, Int.reduceLE, Int.reduceLT, Int.reduceEq, Int.reduceToNat, Int.reducePow, Int.reduceNeg, mset]
        refine hK _ ?_; clear hK
        refine bwp_seq fun K hK => bwp_region rfl ?_
        simp -implicitDefEqProofs only [go_sem, ↓reduceIte, Nat.reduceEqDiff, Nat.reduceAdd, Nat.reduceLeDiff, Nat.reduceMul, Nat.reduceSub, Int.reduceLE, Int.reduceLT, Int.reduceEq, Int.reduceToNat, Int.reducePow, Int.reduceNeg]
        refine hK _ ?_; clear hK
        refine bwp_seq fun K hK => bwp_region rfl ?_
        simp -implicitDefEqProofs only [go_sem, ↓reduceIte, Nat.reduceEqDiff, Nat.reduceAdd, Nat.reduceLeDiff, Nat.reduceMul, Nat.reduceSub, Int.reduceLE, Int.reduceLT, Int.reduceEq, Int.reduceToNat, Int.reducePow, Int.reduceNeg]
        refine eat2_callK hs' hg [58] rfl ?_
        intro q3 h3
        simp -implicitDefEqProofs only [go_sem, ↓reduceIte, Nat.reduceEqDiff, Nat.reduceAdd, Nat.reduceLeDiff, Nat.reduceMul, Nat.reduceSub, Int.reduceLE, Int.reduceLT, Int.reduceEq, Int.reduceToNat, Int.reducePow, Int.reduceNeg, mset]
        refine hK _ ?_; clear hK
        refine bwp_region rfl ?_
        simp -implicitDefEqProofs only [go_sem, ↓reduceIte, Nat.reduceEqDiff, Nat.reduceAdd, Nat.reduceLeDiff, Nat.reduceMul, Nat.reduceSub, Int.reduceLE, Int.reduceLT, Int.reduceEq, Int.reduceToNat, Int.reducePow, Int.reduceNeg]
        refine register2_callK hs' h3.rs rfl ?_
        intro rg q4 h4
        simp -implicitDefEqProofs only [go_sem, ↓reduceIte, Nat.reduceEqDiff, Nat.reduceAdd, Nat.reduceLeDiff, Nat.reduceMul, Nat.reduceSub, Int.reduceLE, Int.reduceLT, Int.reduceEq, Int.reduceToNat, Int.reducePow, Int.reduceNeg, mset]
        refine fin _ q4 ⟨pn, rg, 0, 0⟩ (Leads.ent [(0, 0), (1, 1), (2, 2)] ⟨by simp [entT, fget, AV.ren, renL, pget], by simp [entM, pinv, mget, mset, renL, AV.ren, pget, rdC, z4, atC, Atom.cells], rfl, rfl⟩) ?_
        refine RQ.cur hq ?_
        rw [if_pos h2, hpn, if_neg hbad]
        exact RQ.eat (RQ.bind h3 (RQ.bind h4 (RQ.ret h4.rs)))
    · refine bwp_seq fun K hK => bwp_region rfl ?_
      simp -implicitDefEqProofs only [go_sem, ↓reduceIte, Nat.reduceEqDiff, Nat.reduceAdd, Nat.reduceLeDiff, Nat.reduceMul, Nat.reduceSub, Int.reduceLE, Int.reduceLT, Int.reduceEq, Int.reduceToNat, Int.reducePow, Int.reduceNeg, eq_true hc, eq_false h2, rdC, decide_true, decide_false]
      refine hK _ ?_; clear hK
      refine bwp_cond false (by simp [ev, fget]) (fun h => nomatch h) (fun _ => ?_)
      refine bwp_region rfl ?_
      simp -implicitDefEqProofs only [go_sem, ↓reduceIte, Nat.reduceEqDiff, Nat.reduceAdd, Nat.reduceLeDiff, Nat.reduceMul, Nat.reduceSub, Int.reduceLE, Int.reduceLT, Int.reduceEq, Int.reduceToNat, Int.reducePow, Int.reduceNeg]
      refine loc2_callK (r := q) hs' hq.rs rfl ?_
      intro l q2 hq2
      simp -implicitDefEqProofs only [go_sem, ↓reduceIte, Nat.reduceEqDiff, Nat.reduceAdd, Nat.reduceLeDiff, Nat.reduceMul, Nat.reduceSub, Int.reduceLE, Int.reduceLT, Int.reduceEq, Int.reduceToNat, Int.reducePow, Int.reduceNeg, mset]
      refine fin _ q2 ⟨-1, 0, l, 0⟩ (Leads.ent [(0, 0), (1, 1), (2, 2)] ⟨by simp [entT, fget, AV.ren, renL, pget], by simp [entM, pinv, mget, mset, renL, AV.ren, pget, rdC, z4, atC, Atom.cells], rfl, rfl⟩) ?_
      refine RQ.cur hq ?_
      rw [if_neg h2]
      exact RQ.bind hq2 (RQ.ret hq2.rs)
  · rw [lkT_no hc]
    simp -implicitDefEqProofs only [go_sem, ↓reduceIte, Nat.reduceEqDiff, Nat.reduceAdd, Nat.reduceLeDiff, Nat.reduceMul, Nat.reduceSub, Int.reduceLE, Int.reduceLT, Int.reduceEq, Int.reduceToNat, Int.reducePow, Int.reduceNeg, mset]
    refine hK _ ?_; clear hK
    refine bwp_seq fun K hK => bwp_region rfl ?_
    simp -implicitDefEqProofs only [go_sem, ↓reduceIte, Nat.reduceEqDiff, Nat.reduceAdd, Nat.reduceLeDiff, Nat.reduceMul, Nat.reduceSub, Int.reduceLE, Int.reduceLT, Int.reduceEq, Int.reduceToNat, Int.reducePow, Int.reduceNeg, eq_false hc, rdC, decide_false]
    refine hK _ ?_; clear hK
    refine bwp_cond false (by simp [ev, fget]) (fun h => nomatch h) (fun _ => ?_)
    refine bwp_region rfl ?_
    simp -implicitDefEqProofs only [go_sem, ↓reduceIte, Nat.reduceEqDiff, Nat.reduceAdd, Nat.reduceLeDiff, Nat.reduceMul, Nat.reduceSub, Int.reduceLE, Int.reduceLT, Int.reduceEq, Int.reduceToNat, Int.reducePow, Int.reduceNeg]
    refine loc2_callK (r := q) hs' hq.rs rfl ?_
    intro l q2 hq2
    simp -implicitDefEqProofs only [go_sem, ↓reduceIte, Nat.reduceEqDiff, Nat.reduceAdd, Nat.reduceLeDiff, Nat.reduceMul, Nat.reduceSub, Int.reduceLE, Int.reduceLT, Int.reduceEq, Int.reduceToNat, Int.reducePow, Int.reduceNeg, mset]
    refine fin _ q2 ⟨-1, 0, l, 0⟩ (Leads.ent [(0, 0), (1, 1), (2, 2)] ⟨by simp [entT, fget, AV.ren, renL, pget], by simp [entM, pinv, mget, mset, renL, AV.ren, pget, rdC, z4, atC, Atom.cells], rfl, rfl⟩) ?_
    cases σ with
    | ok a => exact absurd hq.code hc
    | error e => exact hq2

theorem atom2_callK {s : List UInt8} (hs : s.length ≤ 4000) {σ : PR Nat} {r : RSt} (h : RS s σ r) {j : Nat} {dst : Option Nat} {ops : List AOper} {K : St → Prop} {t : Fr} {m : Mem} {n : Nat} (hm : mget m j = some (rdC s r))
    (hk : ∀ (x : Atom) r', RQ s (thn σ (tAtom.run s)) x r' → runOps Tryd.prog ops ⟨putF t dst (.agg (atC x)), mset m j (rdC s r'), n + 1⟩ K) : callK Tryd.prog 60 [.ptr j 0] dst ops K t m n := by
  refine rd_callK (rest := []) (Q := fun v r' => ∃ x : Atom, v = .agg (atC x) ∧ RQ s (thn σ (tAtom.run s)) x r') (atom2_calls hs h) rfl ?_ hm ?_
  · rintro _ _ ⟨x, rfl, _⟩; exact atC_in _ x
  · rintro _ r' ⟨x, rfl, h⟩; exact hk x r' h

end Go.Proofs.YtpfbljkfbjjlkaaDoor

/- The document's reader once it has an error: nothing changes. -/
namespace Go.Proofs.YtpfbljkfbjjlkaaDoor
open Go Go.Jq
set_option maxRecDepth 100000
set_option linter.unusedSimpArgs false

theorem dead_callK {P : Program} {f : Nat} {rest : List AV} {s : List UInt8} {r : RSt} {v : AV}
    (h : ACalls P f (.ptr 0 0 :: rest) [(0, rdC s r)] fun w m' => w = v ∧ m' = [(0, rdC s r)])
    (hr : inL (fun _ => none) rest = true) (hv : inB (fun _ => none) v = true)
    {j : Nat} {dst : Option Nat} {ops : List AOper} {K : St → Prop} {t : Fr} {m : Mem} {n : Nat} (hm : mget m j = some (rdC s r))
    (hk : runOps P ops ⟨putF t dst v, mset m j (rdC s r), n + 1⟩ K) : callK P f (.ptr j 0 :: rest) dst ops K t m n := by
  refine meth_callK (rest := rest) (Q := fun w c' => w = v ∧ c' = rdC s r) (h.mono fun w m' ⟨h1, h2⟩ => ⟨_, h2, h1, rfl⟩) hr (rdC_in _ s r) ?_ hm ?_
  · rintro w c' ⟨rfl, rfl⟩; exact ⟨hv, rdC_in _ s r⟩
  · rintro w c' ⟨rfl, rfl⟩; exact hk

section
variable {s : List UInt8} {r : RSt} (hc : ¬ r.code = 0)
include hc

theorem look_dead : ACalls Tryd.prog 61 [.ptr 0 0] [(0, rdC s r)] fun v m' => v = .agg [.d (.int .i64 4), .d (.str []), .d (.int .i64 0)] ∧ m' = [(0, rdC s r)] := by
  have h34 : ldk Tryd.prog 34 = some (some 3) := by kernel_rfl
  refine acalls_of Tryd.func61 ac61_ok Tryd.ntmps61 Tryd.results61 rfl ?_
  unfold ac61
  refine bwp_seq fun K hK => bwp_region rfl ?_
  simp -implicitDefEqProofs only [go_sem, ↓reduceIte, Nat.reduceEqDiff, Nat.reduceAdd, Nat.reduceLeDiff, Nat.reduceMul, Nat.reduceSub, Int.reduceLE, Int.reduceLT, Int.reduceEq, Int.reduceToNat, Int.reducePow, Int.reduceNeg]
  refine hK _ ?_; clear hK
  refine bwp_seq fun K1 hK1 => ?_
  refine bwp_seq fun K hK => bwp_region rfl ?_
  simp -implicitDefEqProofs only [go_sem, ↓reduceIte, Nat.reduceEqDiff, Nat.reduceAdd, Nat.reduceLeDiff, Nat.reduceMul, Nat.reduceSub, Int.reduceLE, Int.reduceLT, Int.reduceEq, Int.reduceToNat, Int.reducePow, Int.reduceNeg, rdC, eq_false hc]
  refine hK _ ?_; clear hK
  refine bwp_cond true (by simp [ev, fget]) (fun _ => ?_) (fun h => nomatch h)
  refine bwp_seq fun K hK => bwp_region rfl ?_
  simp -implicitDefEqProofs only [go_sem, ↓reduceIte, Nat.reduceEqDiff, Nat.reduceAdd, Nat.reduceLeDiff, Nat.reduceMul, Nat.reduceSub, Int.reduceLE, Int.reduceLT, Int.reduceEq, Int.reduceToNat, Int.reducePow, Int.reduceNeg]
  refine hK _ ?_; clear hK
  refine bwp_ret ?_
  simp only [go_sem]
  refine aend_mem (.agg [.d (.int .i64 4), .d (.str []), .d (.int .i64 0)]) [(0, 0)] [(0, rdC s r)] ?_ rfl rfl ?_ ⟨rfl, rfl⟩
  · simp [resA, resVs, resV, fget, mget, mset, loadA, h34]
  · simp [entM, pinv, mget, mset, renL, AV.ren, rdC, pget]

theorem is_dead (x : List UInt8) : ACalls Tryd.prog 55 [.ptr 0 0, .d (.str x)] [(0, rdC s r)] fun v m' => v = .d (.bool false) ∧ m' = [(0, rdC s r)] := by
  refine acalls_of Tryd.func55 ac55_ok Tryd.ntmps55 Tryd.results55 rfl ?_
  unfold ac55
  refine bwp_seq fun K hK => bwp_region rfl ?_
  simp -implicitDefEqProofs only [go_sem, ↓reduceIte, Nat.reduceEqDiff, Nat.reduceAdd, Nat.reduceLeDiff, Nat.reduceMul, Nat.reduceSub, Int.reduceLE, Int.reduceLT, Int.reduceEq, Int.reduceToNat, Int.reducePow, Int.reduceNeg]
  refine hK _ ?_; clear hK
  refine bwp_seq fun K hK => bwp_region rfl ?_
  simp -implicitDefEqProofs only [go_sem, ↓reduceIte, Nat.reduceEqDiff, Nat.reduceAdd, Nat.reduceLeDiff, Nat.reduceMul, Nat.reduceSub, Int.reduceLE, Int.reduceLT, Int.reduceEq, Int.reduceToNat, Int.reducePow, Int.reduceNeg]
  refine dead_callK (look_dead hc) rfl rfl rfl ?_
  simp -implicitDefEqProofs only [go_sem, ↓reduceIte, Nat.reduceEqDiff, Nat.reduceAdd, Nat.reduceLeDiff, Nat.reduceMul, Nat.reduceSub, Int.reduceLE, Int.reduceLT, Int.reduceEq, Int.reduceToNat, Int.reducePow, Int.reduceNeg, mset]
  refine hK _ ?_; clear hK
  refine bwp_seq fun K hK => bwp_region rfl ?_
  simp -implicitDefEqProofs only [go_sem, ↓reduceIte, Nat.reduceEqDiff, Nat.reduceAdd, Nat.reduceLeDiff, Nat.reduceMul, Nat.reduceSub, Int.reduceLE, Int.reduceLT, Int.reduceEq, Int.reduceToNat, Int.reducePow, Int.reduceNeg, eq_false hc, rdC, decide_false]
  refine hK _ ?_; clear hK
  refine bwp_ret ?_
  simp only [go_sem]
  refine aend_mem (.d (.bool false)) [(0, 0)] [(0, rdC s r)] ?_ rfl rfl ?_ ⟨rfl, rfl⟩
  · simp [resA, resVs, resV, fget]
  · simp [entM, pinv, mget, mset, renL, AV.ren, rdC, pget]

theorem fail_dead (c : Int) : ACalls Tryd.prog 62 [.ptr 0 0, .d (.int .i64 c)] [(0, rdC s r)] fun v m' => v = .tup [] ∧ m' = [(0, rdC s r)] := by
  refine acalls_of Tryd.func62 ac62_ok Tryd.ntmps62 Tryd.results62 rfl ?_
  unfold ac62
  refine bwp_seq fun K hK => bwp_region rfl ?_
  simp -implicitDefEqProofs only [go_sem, ↓reduceIte, Nat.reduceEqDiff, Nat.reduceAdd, Nat.reduceLeDiff, Nat.reduceMul, Nat.reduceSub, Int.reduceLE, Int.reduceLT, Int.reduceEq, Int.reduceToNat, Int.reducePow, Int.reduceNeg, rdC, eq_false hc]
  refine hK _ ?_; clear hK
  refine bwp_cond false (by simp [ev, fget]) (fun h => nomatch h) (fun _ => ?_)
  refine bwp_skip ?_
  refine ⟨.tup [], rfl, [(0, 0)], [(0, rdC s r)], rfl, rfl, ?_, ⟨rfl, rfl⟩⟩
  simp [entM, pinv, mget, mset, renL, AV.ren, rdC, pget]

theorem eat_dead (x : List UInt8) : ACalls Tryd.prog 53 [.ptr 0 0, .d (.str x)] [(0, rdC s r)] fun v m' => v = .tup [] ∧ m' = [(0, rdC s r)] := by
  refine acalls_of Tryd.func53 ac53_ok Tryd.ntmps53 Tryd.results53 rfl ?_
  unfold ac53
  refine bwp_seq fun K1 hK1 => ?_
  refine bwp_seq fun K hK => bwp_region rfl ?_
  simp -implicitDefEqProofs only [go_sem, ↓reduceIte, Nat.reduceEqDiff, Nat.reduceAdd, Nat.reduceLeDiff, Nat.reduceMul, Nat.reduceSub, Int.reduceLE, Int.reduceLT, Int.reduceEq, Int.reduceToNat, Int.reducePow, Int.reduceNeg]
  refine dead_callK (is_dead hc x) rfl rfl rfl ?_
  simp -implicitDefEqProofs only [go_sem, ↓reduceIte, Nat.reduceEqDiff, Nat.reduceAdd, Nat.reduceLeDiff, Nat.reduceMul, Nat.reduceSub, Int.reduceLE, Int.reduceLT, Int.reduceEq, Int.reduceToNat, Int.reducePow, Int.reduceNeg, mset]
  refine hK _ ?_; clear hK
  refine bwp_cond false (by simp [ev, fget]) (fun h => nomatch h) (fun _ => ?_)
  refine bwp_skip ?_
  refine hK1 _ ?_; clear hK1
  refine bwp_region rfl ?_
  simp -implicitDefEqProofs only [go_sem, ↓reduceIte, Nat.reduceEqDiff, Nat.reduceAdd, Nat.reduceLeDiff, Nat.reduceMul, Nat.reduceSub, Int.reduceLE, Int.reduceLT, Int.reduceEq, Int.reduceToNat, Int.reducePow, Int.reduceNeg]
  refine dead_callK (fail_dead hc 6) rfl rfl rfl ?_
  simp -implicitDefEqProofs only [go_sem, ↓reduceIte, Nat.reduceEqDiff, Nat.reduceAdd, Nat.reduceLeDiff, Nat.reduceMul, Nat.reduceSub, Int.reduceLE, Int.reduceLT, Int.reduceEq, Int.reduceToNat, Int.reducePow, Int.reduceNeg, mset]
  refine ⟨.tup [], rfl, [(0, 0)], [(0, rdC s r)], rfl, rfl, ?_, ⟨rfl, rfl⟩⟩
  simp [entM, pinv, mget, mset, renL, AV.ren, rdC, pget]

theorem num_dead : ACalls Tryd.prog 58 [.ptr 0 0] [(0, rdC s r)] fun v m' => v = .d (.int .i64 0) ∧ m' = [(0, rdC s r)] := by
  refine acalls_of Tryd.func58 ac58_ok Tryd.ntmps58 Tryd.results58 rfl ?_
  unfold ac58
  refine bwp_seq fun K hK => bwp_region rfl ?_
  simp -implicitDefEqProofs only [go_sem, ↓reduceIte, Nat.reduceEqDiff, Nat.reduceAdd, Nat.reduceLeDiff, Nat.reduceMul, Nat.reduceSub, Int.reduceLE, Int.reduceLT, Int.reduceEq, Int.reduceToNat, Int.reducePow, Int.reduceNeg]
  refine hK _ ?_; clear hK
  refine bwp_seq fun K hK => bwp_region rfl ?_
  simp -implicitDefEqProofs only [go_sem, ↓reduceIte, Nat.reduceEqDiff, Nat.reduceAdd, Nat.reduceLeDiff, Nat.reduceMul, Nat.reduceSub, Int.reduceLE, Int.reduceLT, Int.reduceEq, Int.reduceToNat, Int.reducePow, Int.reduceNeg]
  refine dead_callK (look_dead hc) rfl rfl rfl ?_
  simp -implicitDefEqProofs only [go_sem, ↓reduceIte, Nat.reduceEqDiff, Nat.reduceAdd, Nat.reduceLeDiff, Nat.reduceMul, Nat.reduceSub, Int.reduceLE, Int.reduceLT, Int.reduceEq, Int.reduceToNat, Int.reducePow, Int.reduceNeg, mset]
  refine hK _ ?_; clear hK
  refine bwp_seq fun K1 hK1 => ?_
  refine bwp_seq fun K hK => bwp_region rfl ?_
  simp -implicitDefEqProofs only [go_sem, ↓reduceIte, Nat.reduceEqDiff, Nat.reduceAdd, Nat.reduceLeDiff, Nat.reduceMul, Nat.reduceSub, Int.reduceLE, Int.reduceLT, Int.reduceEq, Int.reduceToNat, Int.reducePow, Int.reduceNeg, eq_false hc, rdC, decide_false]
  refine hK _ ?_; clear hK
  refine bwp_cond true (by simp [ev, fget]) (fun _ => ?_) (fun h => nomatch h)
  refine bwp_seq fun K hK => bwp_region rfl ?_
  simp -implicitDefEqProofs only [go_sem, ↓reduceIte, Nat.reduceEqDiff, Nat.reduceAdd, Nat.reduceLeDiff, Nat.reduceMul, Nat.reduceSub, Int.reduceLE, Int.reduceLT, Int.reduceEq, Int.reduceToNat, Int.reducePow, Int.reduceNeg]
  refine dead_callK (fail_dead hc 6) rfl rfl rfl ?_
  simp -implicitDefEqProofs only [go_sem, ↓reduceIte, Nat.reduceEqDiff, Nat.reduceAdd, Nat.reduceLeDiff, Nat.reduceMul, Nat.reduceSub, Int.reduceLE, Int.reduceLT, Int.reduceEq, Int.reduceToNat, Int.reducePow, Int.reduceNeg, mset]
  refine hK _ ?_; clear hK
  refine bwp_seq fun K hK => bwp_region rfl ?_
  simp -implicitDefEqProofs only [go_sem, ↓reduceIte, Nat.reduceEqDiff, Nat.reduceAdd, Nat.reduceLeDiff, Nat.reduceMul, Nat.reduceSub, Int.reduceLE, Int.reduceLT, Int.reduceEq, Int.reduceToNat, Int.reducePow, Int.reduceNeg]
  refine hK _ ?_; clear hK
  refine bwp_ret ?_
  simp only [go_sem]
  refine aend_mem (.d (.int .i64 0)) [(0, 0)] [(0, rdC s r)] ?_ rfl rfl ?_ ⟨rfl, rfl⟩
  · simp [resA, resVs, resV, fget]
  · simp [entM, pinv, mget, mset, renL, AV.ren, rdC, pget]

theorem loc_dead : ACalls Tryd.prog 57 [.ptr 0 0] [(0, rdC s r)] fun v m' => v = .d (.int .i64 0) ∧ m' = [(0, rdC s r)] := by
  refine acalls_of Tryd.func57 ac57_ok Tryd.ntmps57 Tryd.results57 rfl ?_
  unfold ac57
  refine bwp_seq fun K hK => bwp_region rfl ?_
  simp -implicitDefEqProofs only [go_sem, ↓reduceIte, Nat.reduceEqDiff, Nat.reduceAdd, Nat.reduceLeDiff, Nat.reduceMul, Nat.reduceSub, Int.reduceLE, Int.reduceLT, Int.reduceEq, Int.reduceToNat, Int.reducePow, Int.reduceNeg]
  refine hK _ ?_; clear hK
  refine bwp_seq fun K hK => bwp_region rfl ?_
  simp -implicitDefEqProofs only [go_sem, ↓reduceIte, Nat.reduceEqDiff, Nat.reduceAdd, Nat.reduceLeDiff, Nat.reduceMul, Nat.reduceSub, Int.reduceLE, Int.reduceLT, Int.reduceEq, Int.reduceToNat, Int.reducePow, Int.reduceNeg]
  refine dead_callK (look_dead hc) rfl rfl rfl ?_
  simp -implicitDefEqProofs only [go_sem, ↓reduceIte, Nat.reduceEqDiff, Nat.reduceAdd, Nat.reduceLeDiff, Nat.reduceMul, Nat.reduceSub, Int.reduceLE, Int.reduceLT, Int.reduceEq, Int.reduceToNat, Int.reducePow, Int.reduceNeg, mset]
  refine hK _ ?_; clear hK
  refine bwp_seq fun K1 hK1 => ?_
  refine bwp_block ?_
  refine bwp_seq fun K hK => bwp_region rfl ?_
  simp -implicitDefEqProofs only [go_sem, ↓reduceIte, Nat.reduceEqDiff, Nat.reduceAdd, Nat.reduceLeDiff, Nat.reduceMul, Nat.reduceSub, Int.reduceLE, Int.reduceLT, Int.reduceEq, Int.reduceToNat, Int.reducePow, Int.reduceNeg, eq_false hc, rdC, decide_true, decide_false]
  refine hK _ ?_; clear hK
  refine bwp_cond true (by simp [ev, fget]) (fun _ => ?_) (fun h => nomatch h)
  refine bwp_seq fun K hK => bwp_region rfl ?_
  simp -implicitDefEqProofs only [go_sem, ↓reduceIte, Nat.reduceEqDiff, Nat.reduceAdd, Nat.reduceLeDiff, Nat.reduceMul, Nat.reduceSub, Int.reduceLE, Int.reduceLT, Int.reduceEq, Int.reduceToNat, Int.reducePow, Int.reduceNeg]
  refine hK _ ?_; clear hK
  refine bwp_ret ?_
  simp only [go_sem]
  refine aend_mem (.d (.int .i64 0)) [(0, 0)] [(0, rdC s r)] ?_ rfl rfl ?_ ⟨rfl, rfl⟩
  · simp [resA, resVs, resV, fget]
  · simp [entM, pinv, mget, mset, renL, AV.ren, rdC, pget]

theorem register_dead : ACalls Tryd.prog 78 [.ptr 0 0] [(0, rdC s r)] fun v m' => v = .d (.int .i64 0) ∧ m' = [(0, rdC s r)] := by
  refine acalls_of Tryd.func78 ac78_ok Tryd.ntmps78 Tryd.results78 rfl ?_
  unfold ac78
  refine bwp_seq fun K hK => bwp_region rfl ?_
  simp -implicitDefEqProofs only [go_sem, ↓reduceIte, Nat.reduceEqDiff, Nat.reduceAdd, Nat.reduceLeDiff, Nat.reduceMul, Nat.reduceSub, Int.reduceLE, Int.reduceLT, Int.reduceEq, Int.reduceToNat, Int.reducePow, Int.reduceNeg]
  refine hK _ ?_; clear hK
  refine bwp_seq fun K hK => bwp_region rfl ?_
  simp -implicitDefEqProofs only [go_sem, ↓reduceIte, Nat.reduceEqDiff, Nat.reduceAdd, Nat.reduceLeDiff, Nat.reduceMul, Nat.reduceSub, Int.reduceLE, Int.reduceLT, Int.reduceEq, Int.reduceToNat, Int.reducePow, Int.reduceNeg]
  refine dead_callK (look_dead hc) rfl rfl rfl ?_
  simp -implicitDefEqProofs only [go_sem, ↓reduceIte, Nat.reduceEqDiff, Nat.reduceAdd, Nat.reduceLeDiff, Nat.reduceMul, Nat.reduceSub, Int.reduceLE, Int.reduceLT, Int.reduceEq, Int.reduceToNat, Int.reducePow, Int.reduceNeg, mset]
  refine hK _ ?_; clear hK
  refine bwp_seq fun K1 hK1 => ?_
  refine bwp_block ?_
  refine bwp_seq fun K hK => bwp_region rfl ?_
  simp -implicitDefEqProofs only [go_sem, ↓reduceIte, Nat.reduceEqDiff, Nat.reduceAdd, Nat.reduceLeDiff, Nat.reduceMul, Nat.reduceSub, Int.reduceLE, Int.reduceLT, Int.reduceEq, Int.reduceToNat, Int.reducePow, Int.reduceNeg, eq_false hc, rdC, decide_true, decide_false]
  refine hK _ ?_; clear hK
  refine bwp_cond true (by simp [ev, fget]) (fun _ => ?_) (fun h => nomatch h)
  refine bwp_seq fun K hK => bwp_region rfl ?_
  simp -implicitDefEqProofs only [go_sem, ↓reduceIte, Nat.reduceEqDiff, Nat.reduceAdd, Nat.reduceLeDiff, Nat.reduceMul, Nat.reduceSub, Int.reduceLE, Int.reduceLT, Int.reduceEq, Int.reduceToNat, Int.reducePow, Int.reduceNeg]
  refine hK _ ?_; clear hK
  refine bwp_ret ?_
  simp only [go_sem]
  refine aend_mem (.d (.int .i64 0)) [(0, 0)] [(0, rdC s r)] ?_ rfl rfl ?_ ⟨rfl, rfl⟩
  · simp [resA, resVs, resV, fget]
  · simp [entM, pinv, mget, mset, renL, AV.ren, rdC, pget]

theorem operand_dead : ACalls Tryd.prog 77 [.ptr 0 0] [(0, rdC s r)] fun v m' => v = .agg [.d (.int .i64 0), .d (.int .i64 0)] ∧ m' = [(0, rdC s r)] := by
  have h84 : ldk Tryd.prog 84 = some (some 2) := by kernel_rfl
  refine acalls_of Tryd.func77 ac77_ok Tryd.ntmps77 Tryd.results77 rfl ?_
  unfold ac77
  refine bwp_seq fun K hK => bwp_region rfl ?_
  simp -implicitDefEqProofs only [go_sem, ↓reduceIte, Nat.reduceEqDiff, Nat.reduceAdd, Nat.reduceLeDiff, Nat.reduceMul, Nat.reduceSub, Int.reduceLE, Int.reduceLT, Int.reduceEq, Int.reduceToNat, Int.reducePow, Int.reduceNeg]
  refine hK _ ?_; clear hK
  refine bwp_seq fun K hK => bwp_region rfl ?_
  simp -implicitDefEqProofs only [go_sem, ↓reduceIte, Nat.reduceEqDiff, Nat.reduceAdd, Nat.reduceLeDiff, Nat.reduceMul, Nat.reduceSub, Int.reduceLE, Int.reduceLT, Int.reduceEq, Int.reduceToNat, Int.reducePow, Int.reduceNeg]
  refine dead_callK (look_dead hc) rfl rfl rfl ?_
  simp -implicitDefEqProofs only [go_sem, ↓reduceIte, Nat.reduceEqDiff, Nat.reduceAdd, Nat.reduceLeDiff, Nat.reduceMul, Nat.reduceSub, Int.reduceLE, Int.reduceLT, Int.reduceEq, Int.reduceToNat, Int.reducePow, Int.reduceNeg, mset]
  refine hK _ ?_; clear hK
  refine bwp_seq fun K1 hK1 => ?_
  refine bwp_seq fun K hK => bwp_region rfl ?_
  simp -implicitDefEqProofs only [go_sem, ↓reduceIte, Nat.reduceEqDiff, Nat.reduceAdd, Nat.reduceLeDiff, Nat.reduceMul, Nat.reduceSub, Int.reduceLE, Int.reduceLT, Int.reduceEq, Int.reduceToNat, Int.reducePow, Int.reduceNeg, eq_false hc, rdC, decide_false]
  refine hK _ ?_; clear hK
  refine bwp_cond false (by simp [ev, fget]) (fun h => nomatch h) (fun _ => ?_)
  refine bwp_skip ?_
  refine hK1 _ ?_; clear hK1
  refine bwp_seq fun K hK => bwp_region rfl ?_
  simp -implicitDefEqProofs only [go_sem, ↓reduceIte, Nat.reduceEqDiff, Nat.reduceAdd, Nat.reduceLeDiff, Nat.reduceMul, Nat.reduceSub, Int.reduceLE, Int.reduceLT, Int.reduceEq, Int.reduceToNat, Int.reducePow, Int.reduceNeg]
  refine dead_callK (register_dead hc) rfl rfl rfl ?_
  simp -implicitDefEqProofs only [go_sem, ↓reduceIte, Nat.reduceEqDiff, Nat.reduceAdd, Nat.reduceLeDiff, Nat.reduceMul, Nat.reduceSub, Int.reduceLE, Int.reduceLT, Int.reduceEq, Int.reduceToNat, Int.reducePow, Int.reduceNeg, mset]
  refine hK _ ?_; clear hK
  refine bwp_ret ?_
  simp only [go_sem]
  refine aend_mem (.agg [.d (.int .i64 0), .d (.int .i64 0)]) [(0, 0)] [(0, rdC s r)] ?_ rfl rfl ?_ ⟨rfl, rfl⟩
  · simp [resA, resVs, resV, fget, mget, mset, loadA, h84]
  · simp [entM, pinv, mget, mset, renL, AV.ren, rdC, pget]

set_option maxHeartbeats 16000000 in
theorem ins_dead : ACalls Tryd.prog 59 [.ptr 0 0] [(0, rdC s r)] fun v m' => v = .agg (insC ⟨5, 0, 0, ⟨0, 0⟩, 0, ⟨-1, 0⟩, 0⟩) ∧ m' = [(0, rdC s r)] := by
  have hld : ldk Tryd.prog 86 = some (some 9) := by kernel_rfl
  refine acalls_of Tryd.func59 ac59_ok Tryd.ntmps59 Tryd.results59 rfl ?_
  unfold ac59
  refine bwp_seq fun K hK => bwp_region rfl ?_
  simp -implicitDefEqProofs only [go_sem, ↓reduceIte, Nat.reduceEqDiff, Nat.reduceAdd, Nat.reduceLeDiff, Nat.reduceMul, Nat.reduceSub, Int.reduceLE, Int.reduceLT, Int.reduceEq, Int.reduceToNat, Int.reducePow, Int.reduceNeg]
  refine hK _ ?_; clear hK
  refine bwp_seq fun K hK => bwp_region rfl ?_
  simp -implicitDefEqProofs only [go_sem, ↓reduceIte, Nat.reduceEqDiff, Nat.reduceAdd, Nat.reduceLeDiff, Nat.reduceMul, Nat.reduceSub, Int.reduceLE, Int.reduceLT, Int.reduceEq, Int.reduceToNat, Int.reducePow, Int.reduceNeg]
  refine hK _ ?_; clear hK
  refine bwp_seq fun K0 hK0 => ?_
  refine bwp_block ?_
  refine bwp_seq fun K hK => bwp_region rfl ?_
  simp -implicitDefEqProofs only [go_sem, ↓reduceIte, Nat.reduceEqDiff, Nat.reduceAdd, Nat.reduceLeDiff, Nat.reduceMul, Nat.reduceSub, Int.reduceLE, Int.reduceLT, Int.reduceEq, Int.reduceToNat, Int.reducePow, Int.reduceNeg]
  refine dead_callK (is_dead hc wStore) rfl rfl rfl ?_
  simp -implicitDefEqProofs only [go_sem, ↓reduceIte, Nat.reduceEqDiff, Nat.reduceAdd, Nat.reduceLeDiff, Nat.reduceMul, Nat.reduceSub, Int.reduceLE, Int.reduceLT, Int.reduceEq, Int.reduceToNat, Int.reducePow, Int.reduceNeg, mset]
  refine hK _ ?_; clear hK
  refine bwp_cond false (by simp [ev, fget]) (fun h => nomatch h) (fun _ => ?_)
  refine bwp_seq fun K hK => bwp_region rfl ?_
  simp -implicitDefEqProofs only [go_sem, ↓reduceIte, Nat.reduceEqDiff, Nat.reduceAdd, Nat.reduceLeDiff, Nat.reduceMul, Nat.reduceSub, Int.reduceLE, Int.reduceLT, Int.reduceEq, Int.reduceToNat, Int.reducePow, Int.reduceNeg]
  refine dead_callK (is_dead hc wFence) rfl rfl rfl ?_
  simp -implicitDefEqProofs only [go_sem, ↓reduceIte, Nat.reduceEqDiff, Nat.reduceAdd, Nat.reduceLeDiff, Nat.reduceMul, Nat.reduceSub, Int.reduceLE, Int.reduceLT, Int.reduceEq, Int.reduceToNat, Int.reducePow, Int.reduceNeg, mset]
  refine hK _ ?_; clear hK
  refine bwp_cond false (by simp [ev, fget]) (fun h => nomatch h) (fun _ => ?_)
  refine bwp_seq fun K hK => bwp_region rfl ?_
  simp -implicitDefEqProofs only [go_sem, ↓reduceIte, Nat.reduceEqDiff, Nat.reduceAdd, Nat.reduceLeDiff, Nat.reduceMul, Nat.reduceSub, Int.reduceLE, Int.reduceLT, Int.reduceEq, Int.reduceToNat, Int.reducePow, Int.reduceNeg]
  refine dead_callK (is_dead hc wSkip) rfl rfl rfl ?_
  simp -implicitDefEqProofs only [go_sem, ↓reduceIte, Nat.reduceEqDiff, Nat.reduceAdd, Nat.reduceLeDiff, Nat.reduceMul, Nat.reduceSub, Int.reduceLE, Int.reduceLT, Int.reduceEq, Int.reduceToNat, Int.reducePow, Int.reduceNeg, mset]
  refine hK _ ?_; clear hK
  refine bwp_cond false (by simp [ev, fget]) (fun h => nomatch h) (fun _ => ?_)
  refine bwp_seq fun K hK => bwp_region rfl ?_
  simp -implicitDefEqProofs only [go_sem, ↓reduceIte, Nat.reduceEqDiff, Nat.reduceAdd, Nat.reduceLeDiff, Nat.reduceMul, Nat.reduceSub, Int.reduceLE, Int.reduceLT, Int.reduceEq, Int.reduceToNat, Int.reducePow, Int.reduceNeg]
  refine dead_callK (register_dead hc) rfl rfl rfl ?_
  simp -implicitDefEqProofs only [go_sem, ↓reduceIte, Nat.reduceEqDiff, Nat.reduceAdd, Nat.reduceLeDiff, Nat.reduceMul, Nat.reduceSub, Int.reduceLE, Int.reduceLT, Int.reduceEq, Int.reduceToNat, Int.reducePow, Int.reduceNeg, mset]
  refine hK _ ?_; clear hK
  refine bwp_seq fun K hK => bwp_region rfl ?_
  simp -implicitDefEqProofs only [go_sem, ↓reduceIte, Nat.reduceEqDiff, Nat.reduceAdd, Nat.reduceLeDiff, Nat.reduceMul, Nat.reduceSub, Int.reduceLE, Int.reduceLT, Int.reduceEq, Int.reduceToNat, Int.reducePow, Int.reduceNeg]
  refine dead_callK (eat_dead hc [61]) rfl rfl rfl ?_
  simp -implicitDefEqProofs only [go_sem, ↓reduceIte, Nat.reduceEqDiff, Nat.reduceAdd, Nat.reduceLeDiff, Nat.reduceMul, Nat.reduceSub, Int.reduceLE, Int.reduceLT, Int.reduceEq, Int.reduceToNat, Int.reducePow, Int.reduceNeg, mset]
  refine hK _ ?_; clear hK
  refine bwp_block ?_
  refine bwp_seq fun K hK => bwp_region rfl ?_
  simp -implicitDefEqProofs only [go_sem, ↓reduceIte, Nat.reduceEqDiff, Nat.reduceAdd, Nat.reduceLeDiff, Nat.reduceMul, Nat.reduceSub, Int.reduceLE, Int.reduceLT, Int.reduceEq, Int.reduceToNat, Int.reducePow, Int.reduceNeg]
  refine dead_callK (is_dead hc wLoad) rfl rfl rfl ?_
  simp -implicitDefEqProofs only [go_sem, ↓reduceIte, Nat.reduceEqDiff, Nat.reduceAdd, Nat.reduceLeDiff, Nat.reduceMul, Nat.reduceSub, Int.reduceLE, Int.reduceLT, Int.reduceEq, Int.reduceToNat, Int.reducePow, Int.reduceNeg, mset]
  refine hK _ ?_; clear hK
  refine bwp_cond false (by simp [ev, fget]) (fun h => nomatch h) (fun _ => ?_)
  refine bwp_seq fun K hK => bwp_region rfl ?_
  simp -implicitDefEqProofs only [go_sem, ↓reduceIte, Nat.reduceEqDiff, Nat.reduceAdd, Nat.reduceLeDiff, Nat.reduceMul, Nat.reduceSub, Int.reduceLE, Int.reduceLT, Int.reduceEq, Int.reduceToNat, Int.reducePow, Int.reduceNeg]
  refine dead_callK (is_dead hc wCas) rfl rfl rfl ?_
  simp -implicitDefEqProofs only [go_sem, ↓reduceIte, Nat.reduceEqDiff, Nat.reduceAdd, Nat.reduceLeDiff, Nat.reduceMul, Nat.reduceSub, Int.reduceLE, Int.reduceLT, Int.reduceEq, Int.reduceToNat, Int.reducePow, Int.reduceNeg, mset]
  refine hK _ ?_; clear hK
  refine bwp_cond false (by simp [ev, fget]) (fun h => nomatch h) (fun _ => ?_)
  refine bwp_seq fun K hK => bwp_region rfl ?_
  simp -implicitDefEqProofs only [go_sem, ↓reduceIte, Nat.reduceEqDiff, Nat.reduceAdd, Nat.reduceLeDiff, Nat.reduceMul, Nat.reduceSub, Int.reduceLE, Int.reduceLT, Int.reduceEq, Int.reduceToNat, Int.reducePow, Int.reduceNeg]
  refine dead_callK (operand_dead hc) rfl rfl rfl ?_
  simp -implicitDefEqProofs only [go_sem, ↓reduceIte, Nat.reduceEqDiff, Nat.reduceAdd, Nat.reduceLeDiff, Nat.reduceMul, Nat.reduceSub, Int.reduceLE, Int.reduceLT, Int.reduceEq, Int.reduceToNat, Int.reducePow, Int.reduceNeg, mset]
  refine hK _ ?_; clear hK
  refine bwp_seq fun K hK => bwp_region rfl ?_
  simp -implicitDefEqProofs only [go_sem, ↓reduceIte, Nat.reduceEqDiff, Nat.reduceAdd, Nat.reduceLeDiff, Nat.reduceMul, Nat.reduceSub, Int.reduceLE, Int.reduceLT, Int.reduceEq, Int.reduceToNat, Int.reducePow, Int.reduceNeg]
  refine hK _ ?_; clear hK
  refine bwp_seq fun K hK => bwp_region rfl ?_
  simp -implicitDefEqProofs only [go_sem, ↓reduceIte, Nat.reduceEqDiff, Nat.reduceAdd, Nat.reduceLeDiff, Nat.reduceMul, Nat.reduceSub, Int.reduceLE, Int.reduceLT, Int.reduceEq, Int.reduceToNat, Int.reducePow, Int.reduceNeg]
  refine dead_callK (look_dead hc) rfl rfl rfl ?_
  simp -implicitDefEqProofs only [go_sem, ↓reduceIte, Nat.reduceEqDiff, Nat.reduceAdd, Nat.reduceLeDiff, Nat.reduceMul, Nat.reduceSub, Int.reduceLE, Int.reduceLT, Int.reduceEq, Int.reduceToNat, Int.reducePow, Int.reduceNeg, mset]
  refine hK _ ?_; clear hK
  refine bwp_seq fun K hK => bwp_region rfl ?_
  simp -implicitDefEqProofs only [go_sem, ↓reduceIte, Nat.reduceEqDiff, Nat.reduceAdd, Nat.reduceLeDiff, Nat.reduceMul, Nat.reduceSub, Int.reduceLE, Int.reduceLT, Int.reduceEq, Int.reduceToNat, Int.reducePow, Int.reduceNeg]
  refine hK _ ?_; clear hK
  refine bwp_cond false (by simp [ev, fget]) (fun h => nomatch h) (fun _ => ?_)
  refine bwp_skip ?_
  refine hK0 _ ?_; clear hK0
  refine bwp_seq fun K hK => bwp_region rfl ?_
  simp -implicitDefEqProofs only [go_sem, ↓reduceIte, Nat.reduceEqDiff, Nat.reduceAdd, Nat.reduceLeDiff, Nat.reduceMul, Nat.reduceSub, Int.reduceLE, Int.reduceLT, Int.reduceEq, Int.reduceToNat, Int.reducePow, Int.reduceNeg]
  refine dead_callK (eat_dead hc [59]) rfl rfl rfl ?_
  simp -implicitDefEqProofs only [go_sem, ↓reduceIte, Nat.reduceEqDiff, Nat.reduceAdd, Nat.reduceLeDiff, Nat.reduceMul, Nat.reduceSub, Int.reduceLE, Int.reduceLT, Int.reduceEq, Int.reduceToNat, Int.reducePow, Int.reduceNeg, mset]
  refine hK _ ?_; clear hK
  refine bwp_seq fun K hK => bwp_region rfl ?_
  simp -implicitDefEqProofs only [go_sem, ↓reduceIte, Nat.reduceEqDiff, Nat.reduceAdd, Nat.reduceLeDiff, Nat.reduceMul, Nat.reduceSub, Int.reduceLE, Int.reduceLT, Int.reduceEq, Int.reduceToNat, Int.reducePow, Int.reduceNeg]
  refine hK _ ?_; clear hK
  refine bwp_ret ?_
  simp only [go_sem]
  refine aend_mem (.agg (insC ⟨5, 0, 0, ⟨0, 0⟩, 0, ⟨-1, 0⟩, 0⟩)) [(0, 0)] [(0, rdC s r)] ?_ rfl rfl ?_ ⟨rfl, rfl⟩
  · simp [resA, resVs, resV, fget, mget, mset, loadA, hld, insC, Ins.cells]
  · simp [entM, pinv, mget, mset, renL, AV.ren, rdC, pget]

end

end Go.Proofs.YtpfbljkfbjjlkaaDoor

/- The parser's threads. -/
namespace Go.Proofs.YtpfbljkfbjjlkaaDoor
open Go Go.Jq
set_option maxRecDepth 100000
set_option linter.unusedSimpArgs false

/-- How far the loop over threads is. -/
structure TI (s : List UInt8) (σ0 : PR Nat) (f0 : Nat) (acc : List (List Ins)) (q : PSt) (σ : PR Nat) (f : Nat) : Prop where
  ps : PS s σ q
  to : ∀ l qf, PQ s (thn σ ((tThreads f).run s)) l qf → PQ s (thn σ0 ((tThreads f0).run s)) (acc ++ l) qf
  fuel : ∀ a, σ = .ok a → s.length - a < f
  len : acc.length + f ≤ f0 ∨ (∃ e, σ = .error e) ∧ acc.length ≤ f0
  rows : ∀ l ∈ acc, l.length ≤ 4001

theorem TI.next {s : List UInt8} {σ0 : PR Nat} {f0 : Nat} {acc : List (List Ins)} {q : PSt} {σ : PR Nat} {f : Nat} (h : TI s σ0 f0 acc q σ f) (hb : tkB q wThread = true) {x : List Ins} (hx : x.length ≤ 4001) {q' : PSt} (hq : PQ s (thn (thn σ (eatW s)) (tThread.run s)) x q') :
    ∃ f', f = f' + 1 ∧ TI s σ0 f0 (acc ++ [x]) q' (posR (thn (thn σ (eatW s)) (tThread.run s))) f' := by
  obtain ⟨a, rfl, h4⟩ := tkB_ok h.ps hb
  have hf := h.fuel a rfl
  obtain ⟨f', rfl⟩ : ∃ f', f = f' + 1 := ⟨f - 1, by omega⟩
  refine ⟨f', rfl, ⟨hq.ps, fun l qf hl => ?_, fun b hb' => ?_, ?_, fun l hl => ?_⟩⟩
  · have : PQ s (thn (.ok a) ((tThreads (f' + 1)).run s)) (x :: l) qf := PQ.take_yes h.ps hb (PQ.bind hq (PQ.bind hl (PQ.ret hl.ps)))
    have := h.to _ _ this
    simpa using this
  · obtain ⟨y, hy⟩ := posR_ok hb'
    obtain ⟨c, hc, hy'⟩ := thn_ok hy
    have h1 := eatW_lt h.ps.1 h.ps.2.1 h4 hc
    have h2 := tThread.run_le h1.2 hy'
    omega
  · rcases h.len with hl | ⟨⟨e, he⟩, _⟩
    · left
      simp only [List.length_append, List.length_cons, List.length_nil]
      omega
    · cases he
  · rcases List.mem_append.1 hl with h' | h'
    · exact h.rows l h'
    · simp only [List.mem_cons, List.not_mem_nil, or_false] at h'
      subst h'
      exact hx

theorem TI.done {s : List UInt8} {σ0 : PR Nat} {f0 : Nat} {acc : List (List Ins)} {q : PSt} {σ : PR Nat} {f : Nat} (h : TI s σ0 f0 acc q σ f) (hb : tkB q wThread = false) : PQ s (thn σ0 ((tThreads f0).run s)) acc q := by
  have : PQ s (thn σ ((tThreads f).run s)) [] q := by
    cases σ with
    | error e => exact h.ps
    | ok a =>
      have hf := h.fuel a rfl
      obtain ⟨f', rfl⟩ : ∃ f', f = f' + 1 := ⟨f - 1, by omega⟩
      exact PQ.take_no h.ps hb (PQ.ret h.ps)
  have := h.to _ _ this
  simpa using this

theorem TI.start {s : List UInt8} {σ : PR Nat} {q : PSt} (hs : s.length ≤ 4000) (h : PS s σ q) : TI s σ fuelP [] q σ fuelP :=
  ⟨h, fun l qf hl => hl, fun a _ => by unfold fuelP; omega, .inl (by simp), fun l hl => by cases hl⟩

theorem TI.short {s : List UInt8} {σ0 σ : PR Nat} {acc : List (List Ins)} {q : PSt} {f : Nat} (h : TI s σ0 fuelP acc q σ f) : acc.length ≤ 4001 := by
  rcases h.len with h | h
  · unfold fuelP at h; omega
  · exact h.2

def thrC (ts : List (List Ins)) : List DV := ts.map (slD Ins.cells)
theorem thrC_len (ts : List (List Ins)) : (thrC ts).length = ts.length := by simp [thrC]
theorem thrC_snoc (ts : List (List Ins)) (l : List Ins) : thrC (ts ++ [l]) = thrC ts ++ [slD Ins.cells l] := by simp [thrC]
def thrD (ts : List (List Ins)) : DV := .sl ts.length (thrC ts)

def ptS (s : List UInt8) (nm : List UInt8) (I : DV) (ts : List (List Ins)) (q : PSt) : St :=
  ⟨[(5, .ptr 0 0), (6, .ptr 2 0), (2, .ptr 4 0), (3, .ptr 5 0)], [(0, parC q), (1, lexQ s q), (2, [.d (.str nm), .d I, .sl 3 1 0 ts.length, .d (.int .i64 0), .d (.sl 0 [])]), (3, (thrC ts).map .d), (4, [.d (.str []), .d .nsl, .d .nsl, .d (.int .i64 0), .d .nsl]), (5, [.d (.int .i64 0), .d (.int .i64 0)])], 6⟩

set_option maxHeartbeats 32000000 in
theorem ppa_loop {s : List UInt8} (hs : s.length ≤ 4000) {nm : List UInt8} {I : DV} {σ0 : PR Nat} {q0 : PSt} (h0 : PS s σ0 q0) {Q : Exit → St → Prop}
    (hQ : ∀ acc q', acc.length ≤ 4001 → (∀ l ∈ acc, l.length ≤ 4001) → PQ s (thn σ0 ((tThreads fuelP).run s)) acc q' → Q (.exit 0) (ptS s nm I acc q')) :
    BWP Tryd.prog (mbound []) 77 (.loop ac25L0) (ptS s nm I [] q0) Q := by
  have hs' : s.length ≤ 140737488351232 := by omega
  refine bwp_fam (ι := { p : List (List Ins) × PSt × PR Nat × Nat // TI s σ0 fuelP p.1 p.2.1 p.2.2.1 p.2.2.2 }) (fun p => ptS s nm I p.1.1 p.1.2.1) (fun p => if p.1.2.1.code = 0 then p.1.2.2.2 + 1 else 0) ⟨([], q0, σ0, fuelP), TI.start hs h0⟩ ?_
  rintro ⟨⟨acc, q, σ, f⟩, hI⟩
  simp only at hI ⊢
  unfold ac25L0 ptS
  have hshort := hI.short
  have hcl : ((thrC acc).map AV.d).length = acc.length := by rw [List.length_map, thrC_len]
  have hcr : ∀ π, renL π ((thrC acc).map AV.d) = (thrC acc).map .d := fun π => renL_d _ _
  have hb1 : (acc.length + 1) * 24 ≤ 140737488351232 := by omega
  generalize hcs : (thrC acc).map AV.d = cs at *
  refine bwp_seq fun K1 hK1 => ?_
  refine bwp_seq fun K hK => bwp_region rfl ?_
  simp -implicitDefEqProofs only [go_sem, ↓reduceIte, Nat.reduceEqDiff, Nat.reduceAdd, Nat.reduceLeDiff, Nat.reduceMul, Nat.reduceSub, Int.reduceLE, Int.reduceLT, Int.reduceEq, Int.reduceToNat, Int.reducePow, Int.reduceNeg]
  refine ptake_callK hs' hI.ps wThread rfl rfl ?_
  intro q1 hy hn
  cases hb : tkB q wThread with
  | false =>
    have hq1 := hn hb
    subst hq1
    simp -implicitDefEqProofs only [go_sem, ↓reduceIte, Nat.reduceEqDiff, Nat.reduceAdd, Nat.reduceLeDiff, Nat.reduceMul, Nat.reduceSub, Int.reduceLE, Int.reduceLT, Int.reduceEq, Int.reduceToNat, Int.reducePow, Int.reduceNeg, mset]
    refine hK _ ?_; clear hK
    refine bwp_cond false (by simp [ev, fget]) (fun h => nomatch h) (fun _ => ?_)
    refine bwp_leads (S' := ptS s nm I acc q1) (Leads.ent [(0, 0), (1, 1), (2, 2), (3, 3), (4, 4), (5, 5)] ⟨by simp [ptS, entT, fget, AV.ren, renL, pget], ?_, rfl, rfl⟩) ?_
    · simp [ptS, entM, pinv, mget, mset, renL, AV.ren, pget, renL_append, -List.map_map, parC, lexQ, lexC, hcs, hcr]
    exact bwp_exit (hQ acc q1 hshort hI.rows (hI.done hb))
  | true =>
    have h1 := hy hb
    have hc : q.code = 0 := by
      obtain ⟨a, ha, _⟩ := tkB_ok hI.ps hb
      have := hI.ps
      rw [ha] at this
      exact this.code
    simp -implicitDefEqProofs only [go_sem, ↓reduceIte, Nat.reduceEqDiff, Nat.reduceAdd, Nat.reduceLeDiff, Nat.reduceMul, Nat.reduceSub, Int.reduceLE, Int.reduceLT, Int.reduceEq, Int.reduceToNat, Int.reducePow, Int.reduceNeg, mset]
    refine hK _ ?_; clear hK
    refine bwp_cond true (by simp [ev, fget]) (fun _ => ?_) (fun h => nomatch h)
    refine bwp_skip ?_
    refine hK1 _ ?_; clear hK1
    refine bwp_block ?_
    refine bwp_region_any rfl rfl ?_
    repeat' (first
      | (refine runAny_two rfl rfl rfl ?_ ?_ <;> simp -implicitDefEqProofs only [go_sem, ↓reduceIte, Nat.reduceEqDiff, Nat.reduceAdd, Nat.reduceLeDiff, Nat.reduceMul, Nat.reduceSub, Int.reduceLE, Int.reduceLT, Int.reduceEq, Int.reduceToNat, Int.reducePow, Int.reduceNeg, mset, hcl, hb1, List.length_append, List.length_map, List.length_cons, List.length_nil])
      | (refine runAny_one rfl rfl ?_; simp -implicitDefEqProofs only [go_sem, ↓reduceIte, Nat.reduceEqDiff, Nat.reduceAdd, Nat.reduceLeDiff, Nat.reduceMul, Nat.reduceSub, Int.reduceLE, Int.reduceLT, Int.reduceEq, Int.reduceToNat, Int.reducePow, Int.reduceNeg, mset, hcl, hb1, List.length_append, List.length_map, List.length_cons, List.length_nil])
      | (refine pthread_callK hs h1 rfl rfl ?_; intro l q2 hl h2; simp -implicitDefEqProofs only [go_sem, ↓reduceIte, Nat.reduceEqDiff, Nat.reduceAdd, Nat.reduceLeDiff, Nat.reduceMul, Nat.reduceSub, Int.reduceLE, Int.reduceLT, Int.reduceEq, Int.reduceToNat, Int.reducePow, Int.reduceNeg, mset, hcl, hb1, List.length_append, List.length_map, List.length_cons, List.length_nil]))
    all_goals refine runAny_done rfl ?_
    all_goals
      obtain ⟨f', rfl, hN⟩ := hI.next hb hl h2
      have hsn := thrC_snoc acc l
      refine ⟨⟨(acc ++ [l], q2, _, f'), hN⟩, ?_, ?_⟩
      · simp only [hc, if_true]
        split <;> omega
      · refine Leads.ent [(0, 0), (1, 1), (2, 2), (11, 3), (4, 4), (5, 5)] ⟨by simp [entT, fget, AV.ren, renL, pget], ?_, rfl, rfl⟩
        simp only [hsn, List.map_append, hcs]
        simp [entM, pinv, mget, mset, renL, AV.ren, pget, renL_append, -List.map_map, parC, lexQ, lexC, hcr]

theorem pcond_callK {s : List UInt8} (hs : s.length ≤ 4000) {σ : PR Nat} {q : PSt} (h : PS s σ q) (kind : Int) {dst : Option Nat} {ops : List AOper} {K : St → Prop} {t : Fr} {m : Mem} {n : Nat} (hm0 : mget m 0 = some (parC q)) (hm1 : mget m 1 = some (lexQ s q))
    (hk : ∀ (rows : List (List Atom)) q', (rows.length ≤ 4002 ∧ ∀ l ∈ rows, l.length ≤ 4002) → PQ s (thn σ ((tAsk kind).run s)) (kind, rows) q' → runOps Tryd.prog ops ⟨putF t dst (.agg [.d (.int .i64 kind), .d (rowsD rows)]), mset (mset m 0 (parC q')) 1 (lexQ s q'), n + 2⟩ K) : callK Tryd.prog 50 [.ptr 0 0, .d (.int .i64 kind)] dst ops K t m n := by
  refine par_callK (rest := [.d (.int .i64 kind)]) (Q := fun r q' => ∃ rows : List (List Atom), (rows.length ≤ 4002 ∧ ∀ l ∈ rows, l.length ≤ 4002) ∧ r = .agg [.d (.int .i64 kind), .d (rowsD rows)] ∧ PQ s (thn σ ((tAsk kind).run s)) (kind, rows) q') (pcond_calls hs h kind) rfl ?_ hm0 hm1 ?_
  · rintro _ _ ⟨_, _, rfl, _⟩; rfl
  · rintro _ q' ⟨l, h1, rfl, h⟩; exact hk l q' h1 h

/-- The first token. -/
theorem pnext0_calls {s : List UInt8} (hs : s.length ≤ 140737488351232) :
    ACalls Tryd.prog 44 [.ptr 0 0] [(0, parC ⟨noTok, 0, 0, 0, 0, 0, 0⟩), (1, lexQ s ⟨noTok, 0, 0, 0, 0, 0, 0⟩)] fun r m' => ∃ q', m' = [(0, parC q'), (1, lexQ s q')] ∧ (r = .tup [] ∧ PS s (goW s 0) q') := by
  refine acalls_of Tryd.func44 ac44_ok Tryd.ntmps44 Tryd.results44 rfl ?_
  unfold ac44
  refine bwp_seq fun K hK => bwp_region rfl ?_
  simp -implicitDefEqProofs only [go_sem, ↓reduceIte, Nat.reduceEqDiff, Nat.reduceAdd, Nat.reduceLeDiff, Nat.reduceMul, Nat.reduceSub, Int.reduceLE, Int.reduceLT, Int.reduceEq, Int.reduceToNat, Int.reducePow, Int.reduceNeg, parC]
  refine hK _ ?_; clear hK
  refine bwp_cond true (by simp [ev, fget]) (fun _ => ?_) (fun h => nomatch h)
  refine bwp_region rfl ?_
  simp -implicitDefEqProofs only [go_sem, ↓reduceIte, Nat.reduceEqDiff, Nat.reduceAdd, Nat.reduceLeDiff, Nat.reduceMul, Nat.reduceSub, Int.reduceLE, Int.reduceLT, Int.reduceEq, Int.reduceToNat, Int.reducePow, Int.reduceNeg]
  refine next_callK hs (Nat.zero_le _) ⟨Nat.le_refl _, Nat.zero_le _⟩ rfl ?_
  intro rd' hrd'
  by_cases h0 : (nextW s 0).2.2 = 0
  · have he : nextW s 0 = ((nextW s 0).1, (nextW s 0).2.1, 0) := by rw [← h0]
    have hee : errAt s 0 = 0 := by unfold errAt; rw [if_pos h0]
    have hgo : goW s 0 = .ok 0 := by unfold goW; rw [if_pos h0]
    rw [nxR_ok he, hee, h0]
    simp -implicitDefEqProofs only [go_sem, ↓reduceIte, Nat.reduceEqDiff, Nat.reduceAdd, Nat.reduceLeDiff, Nat.reduceMul, Nat.reduceSub, Int.reduceLE, Int.reduceLT, Int.reduceEq, Int.reduceToNat, Int.reducePow, Int.reduceNeg, mset, lexQ, lexC]
    refine ⟨.tup [], rfl, [(0, 0), (1, 1)], [(0, parC ⟨(nextW s 0).1, 0, 0, (nextW s 0).2.1, rd', 0, 0⟩), (1, lexQ s ⟨(nextW s 0).1, 0, 0, (nextW s 0).2.1, rd', 0, 0⟩)], rfl, rfl, ?_, ⟨_, rfl, rfl, ?_⟩⟩
    · simp [entM, pinv, mget, mset, renL, AV.ren, parC, lexQ, lexC, pget]
    · rw [hgo]
      exact ⟨Nat.zero_le _, h0, rfl, rfl, rfl, rfl, hrd'.2.2.1, hrd'.2.1, rfl, rfl⟩
  · have hbad := curT_noTok h0
    have hgo : goW s 0 = .error ((nextW s 0).2.2, skipA s 0) := by unfold goW; rw [if_neg h0]
    have hee : errAt s 0 = skipA s 0 := by unfold errAt; rw [if_neg h0]
    rw [nxR_bad h0 hbad, hee]
    simp -implicitDefEqProofs only [go_sem, ↓reduceIte, Nat.reduceEqDiff, Nat.reduceAdd, Nat.reduceLeDiff, Nat.reduceMul, Nat.reduceSub, Int.reduceLE, Int.reduceLT, Int.reduceEq, Int.reduceToNat, Int.reducePow, Int.reduceNeg, mset, lexQ, lexC]
    refine ⟨.tup [], rfl, [(0, 0), (1, 1)], [(0, parC ⟨noTok, (nextW s 0).2.2, skipA s 0, (nextW s 0).2.1, rd', (nextW s 0).2.2, skipA s 0⟩), (1, lexQ s ⟨noTok, (nextW s 0).2.2, skipA s 0, (nextW s 0).2.1, rd', (nextW s 0).2.2, skipA s 0⟩)], rfl, rfl, ?_, ⟨_, rfl, rfl, ?_⟩⟩
    · simp [entM, pinv, mget, mset, renL, AV.ren, parC, lexQ, lexC, pget, noTok]
    · rw [hgo]
      exact ⟨rfl, h0, rfl, (fun h => by cases h), Nat.zero_le _⟩

theorem pnext0_callK {s : List UInt8} (hs : s.length ≤ 140737488351232) {dst : Option Nat} {ops : List AOper} {K : St → Prop} {t : Fr} {m : Mem} {n : Nat} (hm0 : mget m 0 = some (parC ⟨noTok, 0, 0, 0, 0, 0, 0⟩)) (hm1 : mget m 1 = some (lexQ s ⟨noTok, 0, 0, 0, 0, 0, 0⟩))
    (hk : ∀ q', PS s (goW s 0) q' → runOps Tryd.prog ops ⟨putF t dst (.tup []), mset (mset m 0 (parC q')) 1 (lexQ s q'), n + 2⟩ K) : callK Tryd.prog 44 [.ptr 0 0] dst ops K t m n := by
  refine par_callK (rest := []) (Q := fun r q' => r = .tup [] ∧ PS s (goW s 0) q') (pnext0_calls hs) rfl ?_ hm0 hm1 ?_
  · rintro _ _ ⟨rfl, _⟩; rfl
  · rintro _ q' ⟨rfl, h⟩; exact hk q' h

/-! ### The whole -/

theorem pTest_eq {s : List UInt8} (h : s.length ≤ 4000) : pTest s = match thn (goW s 0) (tTest.run s) with
    | .ok (t, _) => .ok t
    | .error e => .error e := by
  unfold pTest
  rw [if_neg (by omega)]
  cases goW s 0 <;> rfl

/-- A test as data, spelt out. -/
def testD (t : Test) : List DV := [.str t.name, slD Init.cells t.inits, thrD t.threads, .int .i64 t.kind, rowsD t.rows]
def testD0 : List DV := [.str [], .nsl, .nsl, .int .i64 0, .nsl]

/-- What Parse comes to. -/
def parseV : PR Test → AV
  | .ok t => .tup [.agg ((testD t).map .d), .agg [.d (.int .i64 0), .d (.int .i64 0)]]
  | .error e => .tup [.agg (testD0.map .d), .agg [.d (.int .i64 e.1), .d (.int .i64 e.2)]]

end Go.Proofs.YtpfbljkfbjjlkaaDoor

/- The document's reader: its loops over what locations begin with, and over instructions. -/
namespace Go.Proofs.YtpfbljkfbjjlkaaDoor
open Go Go.Jq
set_option maxRecDepth 100000
set_option linter.unusedSimpArgs false

/-- How far a loop up to a closing brace is. -/
structure NI {α : Type} (s : List UInt8) (one : PT α) (σ0 : PR Nat) (f0 : Nat) (acc : List α) (r : RSt) (σ : PR Nat) (f : Nat) : Prop where
  rs : RS s σ r
  to : ∀ l rf, RQ s (thn σ ((tMany one f).run s)) l rf → RQ s (thn σ0 ((tMany one f0).run s)) (acc ++ l) rf
  fuel : ∀ a, σ = .ok a → s.length - a < f
  len : acc.length + f ≤ f0 ∨ (r.code ≠ 0 ∧ acc.length ≤ f0 + 1)

theorem RL.okPos {s : List UInt8} {a : Nat} {r : RSt} (h : RL s (.ok a) r) : a ≤ s.length ∧ (nextW s a).2.2 = 0 := ⟨h.2.2.1, h.2.2.2.1⟩

theorem NI.next {α : Type} {s : List UInt8} {one : PT α} (hp : one.Prog) {σ0 : PR Nat} {f0 : Nat} {acc : List α} {r q : RSt} {a f : Nat} (h : NI s one σ0 f0 acc r (.ok a) f) (hc : r.code = 0) (hl : RL s (.ok a) q) (hb : ikB q [125] = false) {x : α} {q' : RSt} (hq : RQ s (one.run s a) x q') :
    ∃ f', f = f' + 1 ∧ NI s one σ0 f0 (acc ++ [x]) q' (posR (one.run s a)) f' := by
  have hf := h.fuel a rfl
  obtain ⟨f', rfl⟩ : ∃ f', f = f' + 1 := ⟨f - 1, by omega⟩
  refine ⟨f', rfl, ⟨hq.rs, fun l qf hl' => ?_, fun b hb' => ?_, ?_⟩⟩
  · have : RQ s (thn (.ok a) ((tMany one (f' + 1)).run s)) (x :: l) qf := by
      refine RQ.take_no hl hb ?_
      refine RQ.bind (σ := .ok a) hq (RQ.bind hl' ?_)
      exact RQ.ret hl'.rs
    have := h.to _ _ this
    simpa using this
  · obtain ⟨y, hy⟩ := posR_ok hb'
    have h1 := hp s a y b hl.okPos.1 hl.okPos.2 hy
    have h2 := one.run_le hl.okPos.1 hy
    omega
  · left
    rcases h.len with hl' | ⟨he, _⟩
    · simp only [List.length_append, List.length_cons, List.length_nil]
      omega
    · exact absurd hc he

theorem NI.dead {α : Type} {s : List UInt8} {one : PT α} {σ0 : PR Nat} {f0 : Nat} {acc : List α} {r q : RSt} {e : PE} {f : Nat} (h : NI s one σ0 f0 acc r (.error e) f) (hc : r.code = 0) (hl : RL s (.error e) q) (x : α) :
    NI s one σ0 f0 (acc ++ [x]) q (.error e) 0 := by
  refine ⟨hl.rs, fun l qf hl' => ?_, (fun a ha => by cases ha), ?_⟩
  · have := h.to (x :: l) qf hl'
    simpa using this
  · right
    refine ⟨hl.codeE, ?_⟩
    rcases h.len with hl' | ⟨he, _⟩
    · simp only [List.length_append, List.length_cons, List.length_nil]
      omega
    · exact absurd hc he

theorem NI.done {α : Type} {s : List UInt8} {one : PT α} {σ0 : PR Nat} {f0 : Nat} {acc : List α} {r q : RSt} {a f : Nat} (h : NI s one σ0 f0 acc r (.ok a) f) (hl : RL s (.ok a) q) (hb : ikB q [125] = true) {q' : RSt} (hq : RQ s (thn (.ok a) ((tMust [125]).run s)) () q') :
    RQ s (thn σ0 ((tMany one f0).run s)) acc q' := by
  have hf := h.fuel a rfl
  obtain ⟨f', rfl⟩ : ∃ f', f = f' + 1 := ⟨f - 1, by omega⟩
  have hk : isK (curT s a).kd (curT s a).tx [125] = true := by
    unfold ikB at hb
    simp only [Bool.and_eq_true] at hb
    rw [← hl.2.2.2.2.1]
    exact hb.2
  have : RQ s (thn (.ok a) ((tMany one (f' + 1)).run s)) [] q' := by
    unfold tMust at hq
    unfold tMany tTake
    simp only [thn, PT.run] at hq ⊢
    rw [if_pos hk] at hq ⊢
    simp only [PT.run] at hq ⊢
    cases he : eatW s a with
    | ok b => rw [he] at hq; exact ⟨rfl, hq.2⟩
    | error e => rw [he] at hq; exact hq
  have := h.to _ _ this
  simpa using this

theorem NI.err {α : Type} {s : List UInt8} {one : PT α} {σ0 : PR Nat} {f0 : Nat} {acc : List α} {r : RSt} {e : PE} {f : Nat} (h : NI s one σ0 f0 acc r (.error e) f) {q' : RSt} (hq : RQ s (thn (.error e) ((tMust [125]).run s)) () q') : RQ s (thn σ0 ((tMany one f0).run s)) acc q' := by
  have := h.to [] q' hq
  simpa using this

theorem NI.start {α : Type} {s : List UInt8} {one : PT α} {σ : PR Nat} {r : RSt} (hs : s.length ≤ 4000) (h : RS s σ r) : NI s one σ fuelP [] r σ fuelP :=
  ⟨h, fun l qf hl => hl, fun a _ => by unfold fuelP; omega, .inl (by simp)⟩

theorem NI.short {α : Type} {s : List UInt8} {one : PT α} {σ0 σ : PR Nat} {acc : List α} {r : RSt} {f : Nat} (h : NI s one σ0 fuelP acc r σ f) : acc.length ≤ 4002 := by
  rcases h.len with h | h
  · unfold fuelP at h; omega
  · exact h.2

/-- Behind the loop, ahead of the brace. -/
def NE {α : Type} (s : List UInt8) (one : PT α) (σ0 : PR Nat) (acc : List α) (r : RSt) : Prop :=
  acc.length ≤ 4002 ∧ ∃ σ1, RS s σ1 r ∧ ∀ r', RQ s (thn σ1 ((tMust [125]).run s)) () r' → RQ s (thn σ0 ((tMany one fuelP).run s)) acc r'

theorem RS.codeE {s : List UInt8} {σ : PR Nat} {r : RSt} (h : RS s σ r) (hc : ¬ r.code = 0) : ∃ e, σ = .error e ∧ RL s (.error e) r := by
  rcases h with ⟨h, _⟩ | ⟨e, rfl, h⟩
  · exact absurd h hc
  · exact ⟨e, rfl, h⟩

/-- Where Tree stands. -/
def trS (s : List UInt8) (nm : List UInt8) (I : List Init) (T : List (List Ins)) (k : Int) (R : List (List Atom)) (r : RSt) : St :=
  ⟨[(4, .ptr 0 0), (5, .ptr 1 0), (2, .ptr 2 0), (3, .ptr 3 0)], [(0, rdC s r), (1, [.d (.str nm), .sl 4 2 0 I.length, .sl 5 1 0 T.length, .d (.int .i64 k), .sl 6 1 0 R.length]), (2, testD0.map .d), (3, [.d (.int .i64 0), .d (.int .i64 0)]), (4, (I.flatMap Init.cells).map .d), (5, (thrC T).map .d), (6, (rowsC R).map .d)], 7⟩

set_option maxHeartbeats 32000000 in
theorem tr0_loop {s : List UInt8} (hs : s.length ≤ 4000) {nm : List UInt8} {σ0 : PR Nat} {r0 : RSt} (h0 : RS s σ0 r0) {Q : Exit → St → Prop}
    (hQ : ∀ acc r', NE s tInit σ0 acc r' → Q (.exit 0) (trS s nm acc [] 0 [] r')) :
    BWP Tryd.prog (mbound []) Tryd.f26.ntmps (.loop ac26L0) (trS s nm [] [] 0 [] r0) Q := by
  have hs' : s.length ≤ 140737488351232 := by omega
  refine bwp_fam (ι := { p : List Init × RSt × PR Nat × Nat // NI s tInit σ0 fuelP p.1 p.2.1 p.2.2.1 p.2.2.2 }) (fun p => trS s nm p.1.1 [] 0 [] p.1.2.1) (fun p => if p.1.2.1.code = 0 then p.1.2.2.2 + 1 else 0) ⟨([], r0, σ0, fuelP), NI.start hs h0⟩ ?_
  rintro ⟨⟨acc, r, σ, f⟩, hI⟩
  simp only at hI ⊢
  unfold ac26L0 trS
  have hshort := hI.short
  have hfl : ((acc.flatMap Init.cells).map AV.d).length = acc.length * 2 := by rw [List.length_map, init_flat]
  have hb1 : (acc.length + 1) * 16 ≤ 140737488351232 := by omega
  refine bwp_seq fun K1 hK1 => ?_
  by_cases hc : r.code = 0
  · refine bwp_seq fun K hK => bwp_region rfl ?_
    simp only [go_sem, ↓reduceIte, Nat.reduceEqDiff, Nat.reduceAdd, rdC, eq_true hc, decide_true]
    refine is2_callK (r := r) hs' hI.rs [125] rfl ?_
    intro q hq
    simp only [go_sem, ↓reduceIte, Nat.reduceEqDiff, Nat.reduceAdd, mset]
    refine hK _ ?_; clear hK
    cases hb : ikB q [125] with
    | true =>
      refine bwp_cond false (by simp [ev, fget]) (fun h => nomatch h) (fun _ => ?_)
      refine bwp_leads (S' := trS s nm acc [] 0 [] q) (Leads.ent [(0, 0), (1, 1), (2, 2), (3, 3), (4, 4), (5, 5), (6, 6)] ⟨by simp [entT, fget, AV.ren, renL, pget, trS, rdC, testD0], by simp [entM, pinv, mget, mset, renL, AV.ren, pget, renL_append, -List.map_map, trS, rdC, testD0], rfl, rfl⟩) ?_
      obtain ⟨a, rfl, _, _⟩ := ikB_ok hq hb
      exact bwp_exit (hQ acc q ⟨hshort, _, hq.rs, fun r' hr' => hI.done hq hb hr'⟩)
    | false =>
      refine bwp_cond true (by simp [ev, fget]) (fun _ => ?_) (fun h => nomatch h)
      refine bwp_skip ?_
      refine hK1 _ ?_; clear hK1
      refine bwp_block ?_
      by_cases hcq : q.code = 0
      · obtain ⟨a, rfl⟩ : ∃ a, σ = .ok a := by
          cases σ with
          | ok a => exact ⟨a, rfl⟩
          | error e => exact absurd hcq hq.codeE
        refine bwp_seq fun K hK => bwp_region rfl ?_
        simp only [go_sem, ↓reduceIte, Nat.reduceEqDiff, Nat.reduceAdd]
        refine loc2_callK (r := q) hs' hq.rs rfl ?_
        intro l q2 h2
        simp only [go_sem, ↓reduceIte, Nat.reduceEqDiff, Nat.reduceAdd, mset]
        refine hK _ ?_; clear hK
        refine bwp_seq fun K hK => bwp_region rfl ?_
        simp only [go_sem, ↓reduceIte, Nat.reduceEqDiff, Nat.reduceAdd]
        refine eat2_callK hs' h2.rs [61] rfl ?_
        intro q3 h3
        simp only [go_sem, ↓reduceIte, Nat.reduceEqDiff, Nat.reduceAdd, mset]
        refine hK _ ?_; clear hK
        refine bwp_seq fun K hK => bwp_region rfl ?_
        simp only [go_sem, ↓reduceIte, Nat.reduceEqDiff, Nat.reduceAdd]
        refine num2_callK hs h3.rs rfl ?_
        intro v q4 h4 _
        simp only [go_sem, ↓reduceIte, Nat.reduceEqDiff, Nat.reduceAdd, mset]
        refine hK _ ?_; clear hK
        refine bwp_seq fun K hK => bwp_region rfl ?_
        simp only [go_sem, ↓reduceIte, Nat.reduceEqDiff, Nat.reduceAdd]
        refine eat2_callK hs' h4.rs [59] rfl ?_
        intro q5 h5
        simp only [go_sem, ↓reduceIte, Nat.reduceEqDiff, Nat.reduceAdd, mset]
        refine hK _ ?_; clear hK
        refine bwp_region rfl ?_
        simp only [go_sem, ↓reduceIte, Nat.reduceEqDiff, Nat.reduceAdd, Nat.reduceLeDiff, Nat.reduceMul, Int.reduceEq, hfl, hb1, mset, List.length_append, List.length_map, List.length_cons, List.length_nil]
        obtain ⟨f', rfl, hN⟩ := hI.next prog_init hc hq hb (RQ.bind (σ := .ok a) h2 (RQ.bind h3 (RQ.bind h4 (RQ.bind h5 (RQ.ret h5.rs)))))
        refine ⟨⟨(acc ++ [⟨l, v⟩], q5, _, f'), hN⟩, ?_, ?_⟩
        · simp only [hc, if_true]
          split <;> omega
        · exact Leads.ent [(0, 0), (1, 1), (2, 2), (3, 3), (14, 4), (5, 5), (6, 6)] ⟨by simp [trS, entT, fget, AV.ren, renL, pget], by simp [trS, entM, pinv, mget, mset, renL, AV.ren, pget, renL_append, -List.map_map, rdC, testD0, Init.cells], rfl, rfl⟩
      · obtain ⟨e, rfl⟩ : ∃ e, σ = .error e := by
          cases σ with
          | ok a => exact absurd hq.code hcq
          | error e => exact ⟨e, rfl⟩
        refine bwp_seq fun K hK => bwp_region rfl ?_
        simp only [go_sem, ↓reduceIte, Nat.reduceEqDiff, Nat.reduceAdd]
        refine dead_callK (loc_dead hcq) rfl rfl rfl ?_
        simp only [go_sem, ↓reduceIte, Nat.reduceEqDiff, Nat.reduceAdd, mset]
        refine hK _ ?_; clear hK
        refine bwp_seq fun K hK => bwp_region rfl ?_
        simp only [go_sem, ↓reduceIte, Nat.reduceEqDiff, Nat.reduceAdd]
        refine dead_callK (eat_dead hcq [61]) rfl rfl rfl ?_
        simp only [go_sem, ↓reduceIte, Nat.reduceEqDiff, Nat.reduceAdd, mset]
        refine hK _ ?_; clear hK
        refine bwp_seq fun K hK => bwp_region rfl ?_
        simp only [go_sem, ↓reduceIte, Nat.reduceEqDiff, Nat.reduceAdd]
        refine dead_callK (num_dead hcq) rfl rfl rfl ?_
        simp only [go_sem, ↓reduceIte, Nat.reduceEqDiff, Nat.reduceAdd, mset]
        refine hK _ ?_; clear hK
        refine bwp_seq fun K hK => bwp_region rfl ?_
        simp only [go_sem, ↓reduceIte, Nat.reduceEqDiff, Nat.reduceAdd]
        refine dead_callK (eat_dead hcq [59]) rfl rfl rfl ?_
        simp only [go_sem, ↓reduceIte, Nat.reduceEqDiff, Nat.reduceAdd, mset]
        refine hK _ ?_; clear hK
        refine bwp_region rfl ?_
        simp only [go_sem, ↓reduceIte, Nat.reduceEqDiff, Nat.reduceAdd, Nat.reduceLeDiff, Nat.reduceMul, Int.reduceEq, hfl, hb1, mset, List.length_append, List.length_map, List.length_cons, List.length_nil]
        refine ⟨⟨(acc ++ [⟨0, 0⟩], q, _, 0), hI.dead hc hq _⟩, ?_, ?_⟩
        · simp only [hc, hcq, if_true, if_false]
          omega
        · exact Leads.ent [(0, 0), (1, 1), (2, 2), (3, 3), (14, 4), (5, 5), (6, 6)] ⟨by simp [trS, entT, fget, AV.ren, renL, pget], by simp [trS, entM, pinv, mget, mset, renL, AV.ren, pget, renL_append, -List.map_map, rdC, testD0, Init.cells], rfl, rfl⟩
  · refine bwp_seq fun K hK => bwp_region rfl ?_
    simp only [go_sem, ↓reduceIte, Nat.reduceEqDiff, Nat.reduceAdd, rdC, eq_false hc, decide_false]
    refine hK _ ?_; clear hK
    refine bwp_cond false (by simp [ev, fget]) (fun h => nomatch h) (fun _ => ?_)
    refine bwp_leads (S' := trS s nm acc [] 0 [] r) (Leads.ent [(0, 0), (1, 1), (2, 2), (3, 3), (4, 4), (5, 5), (6, 6)] ⟨by simp [entT, fget, AV.ren, renL, pget, trS, rdC, testD0], by simp [entM, pinv, mget, mset, renL, AV.ren, pget, renL_append, -List.map_map, trS, rdC, testD0], rfl, rfl⟩) ?_
    obtain ⟨e, rfl, he⟩ := hI.rs.codeE hc
    exact bwp_exit (hQ acc r ⟨hshort, _, he.rs, fun r' hr' => hI.err hr'⟩)

/-- Within a thread. -/
def tlS (s : List UInt8) (nm : List UInt8) (I : List Init) (T : List (List Ins)) (acc : List Ins) (r : RSt) : St :=
  ⟨[(7, .sl 7 9 0 acc.length), (4, .ptr 0 0), (5, .ptr 1 0), (2, .ptr 2 0), (3, .ptr 3 0)], [(0, rdC s r), (1, [.d (.str nm), .sl 4 2 0 I.length, .sl 5 1 0 T.length, .d (.int .i64 0), .sl 6 1 0 0]), (2, testD0.map .d), (3, [.d (.int .i64 0), .d (.int .i64 0)]), (4, (I.flatMap Init.cells).map .d), (5, (thrC T).map .d), (6, []), (7, (acc.flatMap Ins.cells).map .d)], 8⟩

set_option maxHeartbeats 32000000 in
theorem tr1_loop {s : List UInt8} (hs : s.length ≤ 4000) {nm : List UInt8} {I : List Init} {T : List (List Ins)} {σ0 : PR Nat} {r0 : RSt} (h0 : RS s σ0 r0) {Q : Exit → St → Prop}
    (hQ : ∀ acc r', NE s tInsE σ0 acc r' → Q (.exit 4) (tlS s nm I T acc r')) :
    BWP Tryd.prog (mbound []) Tryd.f26.ntmps (.loop ac26L1) (tlS s nm I T [] r0) Q := by
  have hs' : s.length ≤ 140737488351232 := by omega
  refine bwp_fam (ι := { p : List Ins × RSt × PR Nat × Nat // NI s tInsE σ0 fuelP p.1 p.2.1 p.2.2.1 p.2.2.2 }) (fun p => tlS s nm I T p.1.1 p.1.2.1) (fun p => if p.1.2.1.code = 0 then p.1.2.2.2 + 1 else 0) ⟨([], r0, σ0, fuelP), NI.start hs h0⟩ ?_
  rintro ⟨⟨acc, r, σ, f⟩, hI⟩
  simp only at hI ⊢
  unfold ac26L1 tlS
  have hshort := hI.short
  have hfl : ((acc.flatMap Ins.cells).map AV.d).length = acc.length * 9 := by rw [List.length_map, ins_flat]
  have hb1 : (acc.length + 1) * 72 ≤ 140737488351232 := by omega
  generalize hi : (I.flatMap Init.cells).map AV.d = ci
  have hir : ∀ π, renL π ci = ci := fun π => by rw [← hi]; exact renL_d _ _
  generalize ht : (thrC T).map AV.d = ct
  have htr : ∀ π, renL π ct = ct := fun π => by rw [← ht]; exact renL_d _ _
  refine bwp_seq fun K1 hK1 => ?_
  by_cases hc : r.code = 0
  · refine bwp_seq fun K hK => bwp_region rfl ?_
    simp only [go_sem, ↓reduceIte, Nat.reduceEqDiff, Nat.reduceAdd, rdC, eq_true hc, decide_true]
    refine is2_callK (r := r) hs' hI.rs [125] rfl ?_
    intro q hq
    simp only [go_sem, ↓reduceIte, Nat.reduceEqDiff, Nat.reduceAdd, mset]
    refine hK _ ?_; clear hK
    cases hb : ikB q [125] with
    | true =>
      refine bwp_cond false (by simp [ev, fget]) (fun h => nomatch h) (fun _ => ?_)
      refine bwp_leads (S' := tlS s nm I T acc q) (Leads.ent [(0, 0), (1, 1), (2, 2), (3, 3), (4, 4), (5, 5), (6, 6), (7, 7)] ⟨by simp [entT, fget, AV.ren, renL, pget, tlS, rdC, testD0, hi, hir, ht, htr], by simp [entM, pinv, mget, mset, renL, AV.ren, pget, renL_append, -List.map_map, tlS, rdC, testD0, hi, hir, ht, htr], rfl, rfl⟩) ?_
      obtain ⟨a, rfl, _, _⟩ := ikB_ok hq hb
      exact bwp_exit (hQ acc q ⟨hshort, _, hq.rs, fun r' hr' => hI.done hq hb hr'⟩)
    | false =>
      refine bwp_cond true (by simp [ev, fget]) (fun _ => ?_) (fun h => nomatch h)
      refine bwp_skip ?_
      refine hK1 _ ?_; clear hK1
      refine bwp_block ?_
      by_cases hcq : q.code = 0
      · obtain ⟨a, rfl⟩ : ∃ a, σ = .ok a := by
          cases σ with
          | ok a => exact ⟨a, rfl⟩
          | error e => exact absurd hcq hq.codeE
        refine bwp_region rfl ?_
        simp only [go_sem, ↓reduceIte, Nat.reduceEqDiff, Nat.reduceAdd]
        refine ins2_callK (r := q) hs hq.rs rfl ?_
        intro x q2 h2
        simp only [go_sem, ↓reduceIte, Nat.reduceEqDiff, Nat.reduceAdd, insC, Ins.cells, hfl, hb1, mset, List.length_append, List.length_map, List.length_cons, List.length_nil]
        obtain ⟨f', rfl, hN⟩ := hI.next prog_insE hc hq hb h2
        refine ⟨⟨(acc ++ [x], q2, _, f'), hN⟩, ?_, ?_⟩
        · simp only [hc, if_true]
          split <;> omega
        · exact Leads.ent [(0, 0), (1, 1), (2, 2), (3, 3), (4, 4), (5, 5), (6, 6), (11, 7)] ⟨by simp [tlS, entT, fget, AV.ren, renL, pget], by simp [tlS, entM, pinv, mget, mset, renL, AV.ren, pget, renL_append, -List.map_map, rdC, testD0, Ins.cells, hi, hir, ht, htr], rfl, rfl⟩
      · obtain ⟨e, rfl⟩ : ∃ e, σ = .error e := by
          cases σ with
          | ok a => exact absurd hq.code hcq
          | error e => exact ⟨e, rfl⟩
        refine bwp_region rfl ?_
        simp only [go_sem, ↓reduceIte, Nat.reduceEqDiff, Nat.reduceAdd]
        refine dead_callK (ins_dead hcq) rfl rfl rfl ?_
        simp only [go_sem, ↓reduceIte, Nat.reduceEqDiff, Nat.reduceAdd, insC, Ins.cells, hfl, hb1, mset, List.length_append, List.length_map, List.length_cons, List.length_nil]
        refine ⟨⟨(acc ++ [⟨5, 0, 0, ⟨0, 0⟩, 0, ⟨-1, 0⟩, 0⟩], q, _, 0), hI.dead hc hq _⟩, ?_, ?_⟩
        · simp only [hc, hcq, if_true, if_false]
          omega
        · exact Leads.ent [(0, 0), (1, 1), (2, 2), (3, 3), (4, 4), (5, 5), (6, 6), (11, 7)] ⟨by simp [tlS, entT, fget, AV.ren, renL, pget], by simp [tlS, entM, pinv, mget, mset, renL, AV.ren, pget, renL_append, -List.map_map, rdC, testD0, Ins.cells, hi, hir, ht, htr], rfl, rfl⟩
  · refine bwp_seq fun K hK => bwp_region rfl ?_
    simp only [go_sem, ↓reduceIte, Nat.reduceEqDiff, Nat.reduceAdd, rdC, eq_false hc, decide_false]
    refine hK _ ?_; clear hK
    refine bwp_cond false (by simp [ev, fget]) (fun h => nomatch h) (fun _ => ?_)
    refine bwp_leads (S' := tlS s nm I T acc r) (Leads.ent [(0, 0), (1, 1), (2, 2), (3, 3), (4, 4), (5, 5), (6, 6), (7, 7)] ⟨by simp [entT, fget, AV.ren, renL, pget, tlS, rdC, testD0, hi, hir, ht, htr], by simp [entM, pinv, mget, mset, renL, AV.ren, pget, renL_append, -List.map_map, tlS, rdC, testD0, hi, hir, ht, htr], rfl, rfl⟩) ?_
    obtain ⟨e, rfl, he⟩ := hI.rs.codeE hc
    exact bwp_exit (hQ acc r ⟨hshort, _, he.rs, fun r' hr' => hI.err hr'⟩)

end Go.Proofs.YtpfbljkfbjjlkaaDoor

/- The document's reader: its loop over threads. -/
namespace Go.Proofs.YtpfbljkfbjjlkaaDoor
open Go Go.Jq
set_option maxRecDepth 100000
set_option linter.unusedSimpArgs false

structure TN (s : List UInt8) (σ0 : PR Nat) (f0 : Nat) (acc : List (List Ins)) (r : RSt) (σ : PR Nat) (f : Nat) : Prop where
  rs : RS s σ r
  to : ∀ l rf, RQ s (thn σ ((tThreads f).run s)) l rf → RQ s (thn σ0 ((tThreads f0).run s)) (acc ++ l) rf
  fuel : ∀ a, σ = .ok a → s.length - a < f
  len : acc.length + f ≤ f0

theorem TN.next {s : List UInt8} {σ0 : PR Nat} {f0 : Nat} {acc : List (List Ins)} {r q : RSt} {a : Nat} {f : Nat} (h : TN s σ0 f0 acc r (.ok a) f) (hl : RL s (.ok a) q) (hb : ikB q wThread = true) {x : List Ins} {q' : RSt} (hq : RQ s (thn (thn (.ok a) (eatW s)) (tThread.run s)) x q') :
    ∃ f', f = f' + 1 ∧ TN s σ0 f0 (acc ++ [x]) q' (posR (thn (thn (.ok a) (eatW s)) (tThread.run s))) f' := by
  have h4 := ikB_ok hl hb
  obtain ⟨a', ha, h4, _⟩ := h4
  cases ha
  have hf := h.fuel a rfl
  obtain ⟨f', rfl⟩ : ∃ f', f = f' + 1 := ⟨f - 1, by omega⟩
  have hlen := h.len
  refine ⟨f', rfl, ⟨hq.rs, fun l qf hl' => ?_, fun b hb' => ?_, ?_⟩⟩
  · have : RQ s (thn (.ok a) ((tThreads (f' + 1)).run s)) (x :: l) qf := RQ.take_yes hl hb (RQ.bind hq (RQ.bind hl' (RQ.ret hl'.rs)))
    have := h.to _ _ this
    simpa using this
  · obtain ⟨y, hy⟩ := posR_ok hb'
    obtain ⟨c, hc, hy'⟩ := thn_ok hy
    have h1 := eatW_lt hl.okPos.1 hl.okPos.2 h4 hc
    have h2 := tThread.run_le h1.2 hy'
    omega
  · simp only [List.length_append, List.length_cons, List.length_nil]
    omega

theorem TN.done {s : List UInt8} {σ0 : PR Nat} {f0 : Nat} {acc : List (List Ins)} {r q : RSt} {σ : PR Nat} {f : Nat} (h : TN s σ0 f0 acc r σ f) (hl : RL s σ q) (hb : ikB q wThread = false) : RQ s (thn σ0 ((tThreads f0).run s)) acc q := by
  have : RQ s (thn σ ((tThreads f).run s)) [] q := by
    cases σ with
    | error e => exact hl.rs
    | ok a =>
      have hf := h.fuel a rfl
      obtain ⟨f', rfl⟩ : ∃ f', f = f' + 1 := ⟨f - 1, by omega⟩
      exact RQ.take_no hl hb (RQ.ret hl.rs)
  have := h.to _ _ this
  simpa using this

theorem TN.start {s : List UInt8} {σ : PR Nat} {r : RSt} (hs : s.length ≤ 4000) (h : RS s σ r) : TN s σ fuelP [] r σ fuelP :=
  ⟨h, fun l qf hl => hl, fun a _ => by unfold fuelP; omega, by simp⟩

theorem TN.short {s : List UInt8} {σ0 σ : PR Nat} {acc : List (List Ins)} {r : RSt} {f : Nat} (h : TN s σ0 fuelP acc r σ f) : acc.length ≤ 4001 := by
  have := h.len
  unfold fuelP at this; omega

set_option maxHeartbeats 32000000 in
theorem tr2_loop {s : List UInt8} (hs : s.length ≤ 4000) {nm : List UInt8} {I : List Init} {σ0 : PR Nat} {r0 : RSt} (h0 : RS s σ0 r0) {Q : Exit → St → Prop}
    (hQ : ∀ acc r', acc.length ≤ 4001 → RQ s (thn σ0 ((tThreads fuelP).run s)) acc r' → Q (.exit 2) (trS s nm I acc 0 [] r')) :
    BWP Tryd.prog (mbound []) Tryd.f26.ntmps (.loop ac26L2) (trS s nm I [] 0 [] r0) Q := by
  have hs' : s.length ≤ 140737488351232 := by omega
  refine bwp_fam (ι := { p : List (List Ins) × RSt × PR Nat × Nat // TN s σ0 fuelP p.1 p.2.1 p.2.2.1 p.2.2.2 }) (fun p => trS s nm I p.1.1 0 [] p.1.2.1) (fun p => p.1.2.2.2) ⟨([], r0, σ0, fuelP), TN.start hs h0⟩ ?_
  rintro ⟨⟨acc, r, σ, f⟩, hI⟩
  simp only at hI ⊢
  unfold ac26L2 trS
  have hshort := hI.short
  have hcl : ((thrC acc).map AV.d).length = acc.length := by rw [List.length_map, thrC_len]
  have hcr : ∀ π, renL π ((thrC acc).map AV.d) = (thrC acc).map .d := fun π => renL_d _ _
  have hb1 : (acc.length + 1) * 24 ≤ 140737488351232 := by omega
  have hir : ∀ π, renL π ((I.flatMap Init.cells).map AV.d) = (I.flatMap Init.cells).map .d := fun π => renL_d _ _
  refine bwp_seq fun K1 hK1 => ?_
  refine bwp_seq fun K hK => bwp_region rfl ?_
  simp -implicitDefEqProofs only [go_sem, ↓reduceIte, Nat.reduceEqDiff, Nat.reduceAdd, Nat.reduceLeDiff, Nat.reduceMul, Nat.reduceSub, Int.reduceLE, Int.reduceLT, Int.reduceEq, Int.reduceToNat, Int.reducePow, Int.reduceNeg, rdC]
  refine is2_callK (r := r) hs' hI.rs wThread rfl ?_
  intro q hq
  simp -implicitDefEqProofs only [go_sem, ↓reduceIte, Nat.reduceEqDiff, Nat.reduceAdd, Nat.reduceLeDiff, Nat.reduceMul, Nat.reduceSub, Int.reduceLE, Int.reduceLT, Int.reduceEq, Int.reduceToNat, Int.reducePow, Int.reduceNeg, mset]
  refine hK _ ?_; clear hK
  cases hb : ikB q wThread with
  | false =>
    refine bwp_cond false (by simp [ev, fget]) (fun h => nomatch h) (fun _ => ?_)
    refine bwp_leads (S' := trS s nm I acc 0 [] q) (Leads.ent [(0, 0), (1, 1), (2, 2), (3, 3), (4, 4), (5, 5), (6, 6)] ⟨by simp [trS, entT, fget, AV.ren, renL, pget], ?_, rfl, rfl⟩) ?_
    · simp [trS, entM, pinv, mget, mset, renL, AV.ren, pget, renL_append, -List.map_map, rdC, testD0, hcr, hir]
    exact bwp_exit (hQ acc q hshort (hI.done hq hb))
  | true =>
    obtain ⟨a, rfl, h4, hc⟩ := ikB_ok hq hb
    have hg := hq.goT hc
    refine bwp_cond true (by simp [ev, fget]) (fun _ => ?_) (fun h => nomatch h)
    refine bwp_skip ?_
    refine hK1 _ ?_; clear hK1
    refine bwp_block ?_
    refine bwp_seq fun K hK => bwp_region rfl ?_
    simp -implicitDefEqProofs only [go_sem, ↓reduceIte, Nat.reduceEqDiff, Nat.reduceAdd, Nat.reduceLeDiff, Nat.reduceMul, Nat.reduceSub, Int.reduceLE, Int.reduceLT, Int.reduceEq, Int.reduceToNat, Int.reducePow, Int.reduceNeg]
    refine go_callK s q rfl ?_
    simp -implicitDefEqProofs only [go_sem, ↓reduceIte, Nat.reduceEqDiff, Nat.reduceAdd, Nat.reduceLeDiff, Nat.reduceMul, Nat.reduceSub, Int.reduceLE, Int.reduceLT, Int.reduceEq, Int.reduceToNat, Int.reducePow, Int.reduceNeg, mset]
    refine hK _ ?_; clear hK
    refine bwp_seq fun K hK => bwp_region rfl ?_
    simp -implicitDefEqProofs only [go_sem, ↓reduceIte, Nat.reduceEqDiff, Nat.reduceAdd, Nat.reduceLeDiff, Nat.reduceMul, Nat.reduceSub, Int.reduceLE, Int.reduceLT, Int.reduceEq, Int.reduceToNat, Int.reducePow, Int.reduceNeg]
    refine eat2_callK hs' hg [123] rfl ?_
    intro q2 h2
    simp -implicitDefEqProofs only [go_sem, ↓reduceIte, Nat.reduceEqDiff, Nat.reduceAdd, Nat.reduceLeDiff, Nat.reduceMul, Nat.reduceSub, Int.reduceLE, Int.reduceLT, Int.reduceEq, Int.reduceToNat, Int.reducePow, Int.reduceNeg, mset]
    refine hK _ ?_; clear hK
    refine bwp_seq fun K hK => bwp_region rfl ?_
    simp -implicitDefEqProofs only [go_sem, ↓reduceIte, Nat.reduceEqDiff, Nat.reduceAdd, Nat.reduceLeDiff, Nat.reduceMul, Nat.reduceSub, Int.reduceLE, Int.reduceLT, Int.reduceEq, Int.reduceToNat, Int.reducePow, Int.reduceNeg]
    refine hK _ ?_; clear hK
    refine bwp_seq fun K2 hK2 => ?_
    refine bwp_block ?_
    refine bwp_leads (S' := tlS s nm I acc [] q2) (Leads.ent [(0, 0), (1, 1), (2, 2), (3, 3), (4, 4), (5, 5), (6, 6), (10, 7)] ⟨by simp [tlS, entT, fget, AV.ren, renL, pget], by simp [tlS, entM, pinv, mget, mset, renL, AV.ren, pget, renL_append, -List.map_map, rdC, testD0, hcr, hir, rowsC], rfl, rfl⟩) ?_
    refine tr1_loop hs h2.rs ?_
    intro l q3 hN
    obtain ⟨hl4, σ1, hr3, hto⟩ := hN
    unfold tlS
    simp -implicitDefEqProofs only [go_sem, ↓reduceIte, Nat.reduceEqDiff, Nat.reduceAdd, Nat.reduceLeDiff, Nat.reduceMul, Nat.reduceSub, Int.reduceLE, Int.reduceLT, Int.reduceEq, Int.reduceToNat, Int.reducePow, Int.reduceNeg]
    refine hK2 _ ?_; clear hK2
    refine bwp_seq fun K hK => bwp_region rfl ?_
    simp -implicitDefEqProofs only [go_sem, ↓reduceIte, Nat.reduceEqDiff, Nat.reduceAdd, Nat.reduceLeDiff, Nat.reduceMul, Nat.reduceSub, Int.reduceLE, Int.reduceLT, Int.reduceEq, Int.reduceToNat, Int.reducePow, Int.reduceNeg]
    refine eat2_callK hs' hr3 [125] rfl ?_
    intro q4 h4'
    have h5 := hto _ h4'
    simp -implicitDefEqProofs only [go_sem, ↓reduceIte, Nat.reduceEqDiff, Nat.reduceAdd, Nat.reduceLeDiff, Nat.reduceMul, Nat.reduceSub, Int.reduceLE, Int.reduceLT, Int.reduceEq, Int.reduceToNat, Int.reducePow, Int.reduceNeg, mset]
    refine hK _ ?_; clear hK
    have htk := ins_take l
    generalize hds : l.flatMap Ins.cells = ds at htk
    refine bwp_leads (Leads.frz (S' := ⟨[(7, .d (.sl l.length ds)), (4, .ptr 0 0), (5, .ptr 1 0), (2, .ptr 2 0), (3, .ptr 3 0)], [(0, rdC s q4), (1, [.d (.str nm), .sl 4 2 0 I.length, .sl 5 1 0 acc.length, .d (.int .i64 0), .sl 6 1 0 0]), (2, testD0.map .d), (3, [.d (.int .i64 0), .d (.int .i64 0)]), (4, (I.flatMap Init.cells).map .d), (5, (thrC acc).map .d), (6, [])], 7⟩) [(0, 0), (1, 1), (2, 2), (3, 3), (4, 4), (5, 5), (6, 6)] [(7, ds)] ⟨?_, ?_, rfl, rfl, ?_⟩) ?_
    · simp [frzT, fget, AV.cv, cvL, zget, pget, htk]
    · simp [frzM, pinv, zget, mget, cvL, AV.cv, rdC, testD0, pget, cvL_d]
    · simp [zokFrom, mget, cvL_d]
    refine bwp_region rfl ?_
    simp -implicitDefEqProofs only [go_sem, ↓reduceIte, Nat.reduceEqDiff, Nat.reduceAdd, Nat.reduceLeDiff, Nat.reduceMul, Nat.reduceSub, Int.reduceLE, Int.reduceLT, Int.reduceEq, Int.reduceToNat, Int.reducePow, Int.reduceNeg, hcl, hb1, mset, List.length_append, List.length_map, List.length_cons, List.length_nil]
    obtain ⟨f', rfl, hN⟩ := hI.next hq hb (RQ.bind h2 h5)
    have hsn := thrC_snoc acc l
    refine ⟨⟨(acc ++ [l], q4, _, f'), hN⟩, ?_, ?_⟩
    · show f' < f' + 1
      omega
    · refine Leads.ent [(0, 0), (1, 1), (2, 2), (3, 3), (4, 4), (8, 5), (6, 6)] ⟨by simp [trS, entT, fget, AV.ren, renL, pget], ?_, rfl, rfl⟩
      simp only [trS, hsn, List.map_append]
      simp [entM, pinv, mget, mset, renL, AV.ren, pget, renL_append, -List.map_map, rdC, testD0, hcr, hir, slD, hds, rowsC]

end Go.Proofs.YtpfbljkfbjjlkaaDoor

/- The document's reader: its loop over a condition's atoms. -/
namespace Go.Proofs.YtpfbljkfbjjlkaaDoor
open Go Go.Jq
set_option maxRecDepth 100000
set_option linter.unusedSimpArgs false

theorem PT.bind_assoc {α β γ : Type} (t : PT α) (f : α → PT β) (g : β → PT γ) : (t.bind f).bind g = t.bind fun x => (f x).bind g := by
  induction t with
  | ret x => rfl
  | bad c => rfl
  | cur k ih =>
    simp only [bind]
    congr 1
    funext d x
    exact ih d x
  | eat k ih => simp only [bind, ih]

theorem tTake_bind {α β : Type} (x : List UInt8) (yes no : PT α) (f : α → PT β) : (tTake x yes no).bind f = tTake x (yes.bind f) (no.bind f) := by
  unfold tTake
  simp only [PT.bind]
  congr 1
  funext d y
  split <;> rfl

/-- What stands behind a row's atoms so far. -/
def tailP (f g : Nat) (row : List Atom) : PT (List (List Atom)) := (tRow g).bind fun l => tTake [124] ((tRows f).bind fun r => .ret ((row ++ l) :: r)) (.ret [row ++ l])

theorem tailP_succ (f g : Nat) (row : List Atom) : tailP f (g + 1) row = tTake [38] (tAtom.bind fun x => tailP f g (row ++ [x])) (tTake [124] ((tRows f).bind fun r => .ret (row :: r)) (.ret [row])) := by
  have e : tRow (g + 1) = tTake [38] (tAtom.bind fun x => (tRow g).bind fun l => .ret (x :: l)) (.ret []) := rfl
  unfold tailP
  rw [e, tTake_bind]
  congr 1
  · rw [PT.bind_assoc]
    congr 1
    funext x
    rw [PT.bind_assoc]
    congr 1
    funext l
    simp only [PT.bind, List.append_assoc, List.cons_append, List.nil_append]
  · simp only [PT.bind, List.append_nil]

theorem tRows_succ (f : Nat) : tRows (f + 1) = tAtom.bind fun x => tailP f fuelP [x] := rfl

def ikV (s : List UInt8) (σ : PR Nat) (x : List UInt8) : Bool := match σ with
  | .ok a => isK (curT s a).kd (curT s a).tx x
  | .error _ => false

theorem RL.ikV {s : List UInt8} {σ : PR Nat} {q : RSt} (h : RL s σ q) (x : List UInt8) : ikB q x = ikV s σ x := by
  cases σ with
  | ok a => simp [ikB, h.code, h.2.2.2.2.1, Proofs.YtpfbljkfbjjlkaaDoor.ikV]
  | error e => simp [ikB, h.codeE, Proofs.YtpfbljkfbjjlkaaDoor.ikV]

theorem ikV_ok {s : List UInt8} {σ : PR Nat} {x : List UInt8} (h : ikV s σ x = true) : ∃ a, σ = .ok a ∧ (curT s a).kd ≠ 4 := by
  cases σ with
  | ok a => exact ⟨a, rfl, isK_kd h⟩
  | error e => cases h

theorem ikV_two {s : List UInt8} {σ : PR Nat} {x y : List UInt8} (h : ikV s σ x = true) (hn : x ≠ y) : ikV s σ y = false := by
  cases σ with
  | error e => rfl
  | ok a =>
    cases hy : ikV s (.ok a) y with
    | false => rfl
    | true =>
      simp only [ikV, isK, Bool.and_eq_true, decide_eq_true_eq] at h hy
      exact absurd (h.2.symm.trans hy.2) hn

/-- How far the loop over atoms is. -/
structure FN (s : List UInt8) (σ0 : PR Nat) (accs : List (List Atom)) (row : List Atom) (r : RSt) (σ : PR Nat) (f g : Nat) : Prop where
  rs : RS s σ r
  to : ∀ y rf, RQ s (thn σ ((tailP f g row).run s)) y rf → RQ s (thn σ0 ((tRows fuelP).run s)) (accs ++ y) rf
  fuel : ∀ a, σ = .ok a → s.length - a < f ∧ s.length - a < g
  len : row.length + g ≤ fuelP + 1 ∧ accs.length + f ≤ fuelP

theorem FN.and {s : List UInt8} {σ0 : PR Nat} {accs : List (List Atom)} {row : List Atom} {r q : RSt} {σ : PR Nat} {f g : Nat} (h : FN s σ0 accs row r σ f g) (hl : RL s σ q) (hb : ikV s σ [38] = true) {x : Atom} {q' : RSt} (hq : RQ s (thn (thn σ (eatW s)) (tAtom.run s)) x q') :
    ∃ g', g = g' + 1 ∧ FN s σ0 accs (row ++ [x]) q' (posR (thn (thn σ (eatW s)) (tAtom.run s))) f g' := by
  obtain ⟨a, rfl, h4⟩ := ikV_ok hb
  have hf := h.fuel a rfl
  obtain ⟨g', rfl⟩ : ∃ g', g = g' + 1 := ⟨g - 1, by omega⟩
  refine ⟨g', rfl, ⟨hq.rs, fun y rf hy => ?_, fun b hb' => ?_, ?_⟩⟩
  · refine h.to y rf ?_
    rw [tailP_succ]
    exact RQ.take_yes hl (by rw [hl.ikV]; exact hb) (RQ.bind hq hy)
  · obtain ⟨y, hy⟩ := posR_ok hb'
    obtain ⟨c, hc, hy'⟩ := thn_ok hy
    have h1 := eatW_lt hl.okPos.1 hl.okPos.2 h4 hc
    have h2 := tAtom.run_le h1.2 hy'
    omega
  · have := h.len
    simp only [List.length_append, List.length_cons, List.length_nil]
    omega

theorem FN.or {s : List UInt8} {σ0 : PR Nat} {accs : List (List Atom)} {row : List Atom} {r q : RSt} {σ : PR Nat} {f g : Nat} (h : FN s σ0 accs row r σ f g) (hl : RL s σ q) (hb : ikV s σ [38] = false) (ho : ikV s σ [124] = true) {x : Atom} {q' : RSt} (hq : RQ s (thn (thn σ (eatW s)) (tAtom.run s)) x q') :
    ∃ f', f = f' + 1 ∧ FN s σ0 (accs ++ [row]) [x] q' (posR (thn (thn σ (eatW s)) (tAtom.run s))) f' fuelP := by
  obtain ⟨a, rfl, h4⟩ := ikV_ok ho
  have hf := h.fuel a rfl
  obtain ⟨f', rfl⟩ : ∃ f', f = f' + 1 := ⟨f - 1, by omega⟩
  obtain ⟨g', rfl⟩ : ∃ g', g = g' + 1 := ⟨g - 1, by omega⟩
  refine ⟨f', rfl, ⟨hq.rs, fun y rf hy => ?_, fun b hb' => ?_, ?_⟩⟩
  · have : RQ s (thn (.ok a) ((tailP (f' + 1) (g' + 1) row).run s)) (row :: y) rf := by
      rw [tailP_succ]
      refine RQ.take_no hl (by rw [hl.ikV]; exact hb) (RQ.take_yes hl (by rw [hl.ikV]; exact ho) ?_)
      rw [tRows_succ, PT.bind_assoc]
      refine RQ.bind hq ?_
      exact RQ.bind hy (RQ.ret hy.rs)
    have := h.to _ _ this
    simpa using this
  · obtain ⟨y, hy⟩ := posR_ok hb'
    obtain ⟨c, hc, hy'⟩ := thn_ok hy
    have h1 := eatW_lt hl.okPos.1 hl.okPos.2 h4 hc
    have h2 := tAtom.run_le h1.2 hy'
    have hl' := h.len
    have e : fuelP = 4001 := rfl
    omega
  · have := h.len
    simp only [List.length_append, List.length_cons, List.length_nil]
    omega

theorem FN.done {s : List UInt8} {σ0 : PR Nat} {accs : List (List Atom)} {row : List Atom} {r q : RSt} {σ : PR Nat} {f g : Nat} (h : FN s σ0 accs row r σ f g) (hl : RL s σ q) (hb : ikV s σ [38] = false) (ho : ikV s σ [124] = false) :
    RQ s (thn σ0 ((tRows fuelP).run s)) (accs ++ [row]) q := by
  refine h.to [row] q ?_
  cases σ with
  | error e => exact hl.rs
  | ok a =>
    have hf := h.fuel a rfl
    obtain ⟨g', rfl⟩ : ∃ g', g = g' + 1 := ⟨g - 1, by omega⟩
    rw [tailP_succ]
    exact RQ.take_no hl (by rw [hl.ikV]; exact hb) (RQ.take_no hl (by rw [hl.ikV]; exact ho) (RQ.ret hl.rs))

theorem RS.okPos {s : List UInt8} {a : Nat} {r : RSt} (h : RS s (.ok a) r) : a ≤ s.length ∧ (nextW s a).2.2 = 0 := by
  rcases h with ⟨_, h1, h2⟩ | ⟨e, h, _⟩
  · obtain ⟨rfl, h3⟩ := goW_ok h2.symm
    exact ⟨h1, h3⟩
  · cases h

theorem FN.start {s : List UInt8} (hs : s.length ≤ 4000) {σ0 : PR Nat} {r0 : RSt} (h0 : RS s σ0 r0) {x : Atom} {r : RSt} (h : RQ s (thn σ0 (tAtom.run s)) x r) : FN s σ0 [] [x] r (posR (thn σ0 (tAtom.run s))) 4000 fuelP := by
  refine ⟨h.rs, fun y rf hy => ?_, fun a ha => ?_, ?_⟩
  · have e : fuelP = 4000 + 1 := rfl
    rw [e, tRows_succ]
    exact RQ.bind h hy
  · obtain ⟨y, hy⟩ := posR_ok ha
    obtain ⟨c, rfl, hy'⟩ := thn_ok hy
    have hp := h0.okPos
    have h1 := prog_atom s c y a hp.1 hp.2 hy'
    have h2 := tAtom.run_le hp.1 hy'
    unfold fuelP
    omega
  · simp [fuelP]

def taS (s : List UInt8) (nm : List UInt8) (I : List Init) (T : List (List Ins)) (k : Int) (accs : List (List Atom)) (row : List Atom) (r : RSt) : St :=
  ⟨[(8, .sl 7 4 0 row.length), (4, .ptr 0 0), (5, .ptr 1 0), (2, .ptr 2 0), (3, .ptr 3 0)], [(0, rdC s r), (1, [.d (.str nm), .sl 4 2 0 I.length, .sl 5 1 0 T.length, .d (.int .i64 k), .sl 6 1 0 accs.length]), (2, testD0.map .d), (3, [.d (.int .i64 0), .d (.int .i64 0)]), (4, (I.flatMap Init.cells).map .d), (5, (thrC T).map .d), (6, (rowsC accs).map .d), (7, (row.flatMap Atom.cells).map .d)], 8⟩

set_option maxHeartbeats 64000000 in
theorem tr3_loop {s : List UInt8} (hs : s.length ≤ 4000) {nm : List UInt8} {I : List Init} {T : List (List Ins)} {k : Int} {σ0 : PR Nat} {rr r0 : RSt} (hr : RS s σ0 rr) {x0 : Atom} (h0 : RQ s (thn σ0 (tAtom.run s)) x0 r0) {Q : Exit → St → Prop}
    (hQ : ∀ accs row r', accs.length ≤ 4001 → RQ s (thn σ0 ((tRows fuelP).run s)) (accs ++ [row]) r' → Q (.exit 6) (taS s nm I T k accs row r')) :
    BWP Tryd.prog (mbound []) Tryd.f26.ntmps (.loop ac26L3) (taS s nm I T k [] [x0] r0) Q := by
  have hs' : s.length ≤ 140737488351232 := by omega
  refine bwp_fam (ι := { p : List (List Atom) × List Atom × RSt × PR Nat × Nat × Nat // FN s σ0 p.1 p.2.1 p.2.2.1 p.2.2.2.1 p.2.2.2.2.1 p.2.2.2.2.2 }) (fun p => taS s nm I T k p.1.1 p.1.2.1 p.1.2.2.1) (fun p => p.1.2.2.2.2.1 * 5000 + p.1.2.2.2.2.2) ⟨([], [x0], r0, _, 4000, fuelP), FN.start hs hr h0⟩ ?_
  rintro ⟨⟨accs, row, r, σ, f, g⟩, hI⟩
  simp only at hI ⊢
  unfold ac26L3 taS
  have hlen := hI.len
  have hfp : fuelP = 4001 := rfl
  have hacl : ((rowsC accs).map AV.d).length = accs.length := by rw [List.length_map, rowsC_len]
  have hacr : ∀ π, renL π ((rowsC accs).map AV.d) = (rowsC accs).map .d := fun π => renL_d _ _
  have hfl : ((row.flatMap Atom.cells).map AV.d).length = row.length * 4 := by rw [List.length_map, atom_flat]
  have hb1 : (row.length + 1) * 32 ≤ 140737488351232 := by omega
  have hb2 : (accs.length + 1) * 24 ≤ 140737488351232 := by omega
  have hir : ∀ π, renL π ((I.flatMap Init.cells).map AV.d) = (I.flatMap Init.cells).map .d := fun π => renL_d _ _
  have htr : ∀ π, renL π ((thrC T).map AV.d) = (thrC T).map .d := fun π => renL_d _ _
  have hrr : ∀ π, renL π ((row.flatMap Atom.cells).map AV.d) = (row.flatMap Atom.cells).map .d := fun π => renL_d _ _
  refine bwp_seq fun K1 hK1 => ?_
  refine bwp_seq fun K hK => bwp_region rfl ?_
  simp -implicitDefEqProofs only [go_sem, ↓reduceIte, Nat.reduceEqDiff, Nat.reduceAdd, Nat.reduceLeDiff, Nat.reduceMul, Nat.reduceSub, Int.reduceLE, Int.reduceLT, Int.reduceEq, Int.reduceToNat, Int.reducePow, Int.reduceNeg, rdC]
  refine is2_callK (r := r) hs' hI.rs [38] rfl ?_
  intro q hq
  rw [hq.ikV]
  cases hb : ikV s σ [38] with
  | true =>
    have hnb := ikV_two hb (y := [124]) (by decide)
    obtain ⟨a, ha, _⟩ := ikV_ok hb
    simp -implicitDefEqProofs only [go_sem, ↓reduceIte, Nat.reduceEqDiff, Nat.reduceAdd, Nat.reduceLeDiff, Nat.reduceMul, Nat.reduceSub, Int.reduceLE, Int.reduceLT, Int.reduceEq, Int.reduceToNat, Int.reducePow, Int.reduceNeg, mset]
    refine hK _ ?_; clear hK
    refine bwp_cond true (by simp [ev, fget]) (fun _ => ?_) (fun h => nomatch h)
    refine bwp_skip ?_
    refine hK1 _ ?_; clear hK1
    refine bwp_block ?_
    refine bwp_seq fun K2 hK2 => ?_
    refine bwp_seq fun K hK => bwp_region rfl ?_
    simp -implicitDefEqProofs only [go_sem, ↓reduceIte, Nat.reduceEqDiff, Nat.reduceAdd, Nat.reduceLeDiff, Nat.reduceMul, Nat.reduceSub, Int.reduceLE, Int.reduceLT, Int.reduceEq, Int.reduceToNat, Int.reducePow, Int.reduceNeg]
    refine is2_callK (r := q) hs' hq.rs [124] rfl ?_
    intro q2 hq2
    rw [hq2.ikV, hnb]
    have hc2 : q2.code = 0 := by subst ha; exact hq2.code
    have hg := hq2.goT hc2
    simp -implicitDefEqProofs only [go_sem, ↓reduceIte, Nat.reduceEqDiff, Nat.reduceAdd, Nat.reduceLeDiff, Nat.reduceMul, Nat.reduceSub, Int.reduceLE, Int.reduceLT, Int.reduceEq, Int.reduceToNat, Int.reducePow, Int.reduceNeg, mset]
    refine hK _ ?_; clear hK
    refine bwp_cond false (by simp [ev, fget]) (fun h => nomatch h) (fun _ => ?_)
    refine bwp_skip ?_
    refine hK2 _ ?_; clear hK2
    refine bwp_seq fun K hK => bwp_region rfl ?_
    simp -implicitDefEqProofs only [go_sem, ↓reduceIte, Nat.reduceEqDiff, Nat.reduceAdd, Nat.reduceLeDiff, Nat.reduceMul, Nat.reduceSub, Int.reduceLE, Int.reduceLT, Int.reduceEq, Int.reduceToNat, Int.reducePow, Int.reduceNeg]
    refine go_callK s q2 rfl ?_
    simp -implicitDefEqProofs only [go_sem, ↓reduceIte, Nat.reduceEqDiff, Nat.reduceAdd, Nat.reduceLeDiff, Nat.reduceMul, Nat.reduceSub, Int.reduceLE, Int.reduceLT, Int.reduceEq, Int.reduceToNat, Int.reducePow, Int.reduceNeg, mset]
    refine hK _ ?_; clear hK
    refine bwp_region rfl ?_
    simp -implicitDefEqProofs only [go_sem, ↓reduceIte, Nat.reduceEqDiff, Nat.reduceAdd, Nat.reduceLeDiff, Nat.reduceMul, Nat.reduceSub, Int.reduceLE, Int.reduceLT, Int.reduceEq, Int.reduceToNat, Int.reducePow, Int.reduceNeg]
    refine atom2_callK hs hg rfl ?_
    intro x q3 h3
    simp -implicitDefEqProofs only [go_sem, ↓reduceIte, Nat.reduceEqDiff, Nat.reduceAdd, Nat.reduceLeDiff, Nat.reduceMul, Nat.reduceSub, Int.reduceLE, Int.reduceLT, Int.reduceEq, Int.reduceToNat, Int.reducePow, Int.reduceNeg, atC, Atom.cells, hfl, hb1, mset, List.length_append, List.length_map, List.length_cons, List.length_nil]
    obtain ⟨g', rfl, hN⟩ := hI.and hq2 hb h3
    refine ⟨⟨(accs, row ++ [x], q3, _, f, g'), hN⟩, ?_, ?_⟩
    · show f * 5000 + g' < f * 5000 + (g' + 1)
      omega
    · exact Leads.ent [(0, 0), (1, 1), (2, 2), (3, 3), (4, 4), (5, 5), (6, 6), (13, 7)] ⟨by simp [taS, entT, fget, AV.ren, renL, pget], by simp [taS, entM, pinv, mget, mset, renL, AV.ren, pget, renL_append, -List.map_map, rdC, testD0, hir, htr, hacr, hrr, Atom.cells], rfl, rfl⟩
  | false =>
    simp -implicitDefEqProofs only [go_sem, ↓reduceIte, Nat.reduceEqDiff, Nat.reduceAdd, Nat.reduceLeDiff, Nat.reduceMul, Nat.reduceSub, Int.reduceLE, Int.reduceLT, Int.reduceEq, Int.reduceToNat, Int.reducePow, Int.reduceNeg, mset]
    refine is2_callK (r := q) hs' hq.rs [124] rfl ?_
    intro q2 hq2
    rw [hq2.ikV]
    cases ho : ikV s σ [124] with
    | false =>
      simp -implicitDefEqProofs only [go_sem, ↓reduceIte, Nat.reduceEqDiff, Nat.reduceAdd, Nat.reduceLeDiff, Nat.reduceMul, Nat.reduceSub, Int.reduceLE, Int.reduceLT, Int.reduceEq, Int.reduceToNat, Int.reducePow, Int.reduceNeg, mset]
      refine hK _ ?_; clear hK
      refine bwp_cond false (by simp [ev, fget]) (fun h => nomatch h) (fun _ => ?_)
      refine bwp_leads (S' := taS s nm I T k accs row q2) (Leads.ent [(0, 0), (1, 1), (2, 2), (3, 3), (4, 4), (5, 5), (6, 6), (7, 7)] ⟨by simp [taS, entT, fget, AV.ren, renL, pget], ?_, rfl, rfl⟩) ?_
      · simp [taS, entM, pinv, mget, mset, renL, AV.ren, pget, renL_append, -List.map_map, rdC, testD0, hir, htr, hacr, hrr]
      exact bwp_exit (hQ accs row q2 (by omega) (hI.done hq2 hb ho))
    | true =>
      obtain ⟨a, ha, _⟩ := ikV_ok ho
      simp -implicitDefEqProofs only [go_sem, ↓reduceIte, Nat.reduceEqDiff, Nat.reduceAdd, Nat.reduceLeDiff, Nat.reduceMul, Nat.reduceSub, Int.reduceLE, Int.reduceLT, Int.reduceEq, Int.reduceToNat, Int.reducePow, Int.reduceNeg, mset]
      refine hK _ ?_; clear hK
      refine bwp_cond true (by simp [ev, fget]) (fun _ => ?_) (fun h => nomatch h)
      refine bwp_skip ?_
      refine hK1 _ ?_; clear hK1
      refine bwp_block ?_
      refine bwp_seq fun K2 hK2 => ?_
      refine bwp_seq fun K hK => bwp_region rfl ?_
      simp -implicitDefEqProofs only [go_sem, ↓reduceIte, Nat.reduceEqDiff, Nat.reduceAdd, Nat.reduceLeDiff, Nat.reduceMul, Nat.reduceSub, Int.reduceLE, Int.reduceLT, Int.reduceEq, Int.reduceToNat, Int.reducePow, Int.reduceNeg]
      refine is2_callK (r := q2) hs' hq2.rs [124] rfl ?_
      intro q3 hq3
      rw [hq3.ikV, ho]
      have hc3 : q3.code = 0 := by subst ha; exact hq3.code
      have hg := hq3.goT hc3
      simp -implicitDefEqProofs only [go_sem, ↓reduceIte, Nat.reduceEqDiff, Nat.reduceAdd, Nat.reduceLeDiff, Nat.reduceMul, Nat.reduceSub, Int.reduceLE, Int.reduceLT, Int.reduceEq, Int.reduceToNat, Int.reducePow, Int.reduceNeg, mset]
      refine hK _ ?_; clear hK
      refine bwp_cond true (by simp [ev, fget]) (fun _ => ?_) (fun h => nomatch h)
      have htk := atom_take row
      generalize hds : row.flatMap Atom.cells = ds at htk
      refine bwp_leads (Leads.frz (S' := ⟨[(8, .d (.sl row.length ds)), (4, .ptr 0 0), (5, .ptr 1 0), (2, .ptr 2 0), (3, .ptr 3 0)], [(0, rdC s q3), (1, [.d (.str nm), .sl 4 2 0 I.length, .sl 5 1 0 T.length, .d (.int .i64 k), .sl 6 1 0 accs.length]), (2, testD0.map .d), (3, [.d (.int .i64 0), .d (.int .i64 0)]), (4, (I.flatMap Init.cells).map .d), (5, (thrC T).map .d), (6, (rowsC accs).map .d)], 7⟩) [(0, 0), (1, 1), (2, 2), (3, 3), (4, 4), (5, 5), (6, 6)] [(7, ds)] ⟨?_, ?_, rfl, rfl, ?_⟩) ?_
      · simp [frzT, fget, AV.cv, cvL, zget, pget, htk]
      · simp [frzM, pinv, zget, mget, cvL, AV.cv, rdC, testD0, pget, cvL_d]
      · simp [zokFrom, mget, cvL_d]
      refine bwp_seq fun K hK => bwp_region rfl ?_
      simp -implicitDefEqProofs only [go_sem, ↓reduceIte, Nat.reduceEqDiff, Nat.reduceAdd, Nat.reduceLeDiff, Nat.reduceMul, Nat.reduceSub, Int.reduceLE, Int.reduceLT, Int.reduceEq, Int.reduceToNat, Int.reducePow, Int.reduceNeg, hacl, hb2, mset, List.length_append, List.length_map, List.length_cons, List.length_nil]
      refine hK _ ?_; clear hK
      refine bwp_region rfl ?_
      simp -implicitDefEqProofs only [go_sem, ↓reduceIte, Nat.reduceEqDiff, Nat.reduceAdd, Nat.reduceLeDiff, Nat.reduceMul, Nat.reduceSub, Int.reduceLE, Int.reduceLT, Int.reduceEq, Int.reduceToNat, Int.reducePow, Int.reduceNeg]
      refine hK2 _ ?_; clear hK2
      refine bwp_leads (Leads.nil 8 4 rfl rfl) ?_
      refine bwp_seq fun K hK => bwp_region rfl ?_
      simp -implicitDefEqProofs only [go_sem, ↓reduceIte, Nat.reduceEqDiff, Nat.reduceAdd, Nat.reduceLeDiff, Nat.reduceMul, Nat.reduceSub, Int.reduceLE, Int.reduceLT, Int.reduceEq, Int.reduceToNat, Int.reducePow, Int.reduceNeg]
      refine go_callK s q3 rfl ?_
      simp -implicitDefEqProofs only [go_sem, ↓reduceIte, Nat.reduceEqDiff, Nat.reduceAdd, Nat.reduceLeDiff, Nat.reduceMul, Nat.reduceSub, Int.reduceLE, Int.reduceLT, Int.reduceEq, Int.reduceToNat, Int.reducePow, Int.reduceNeg, mset]
      refine hK _ ?_; clear hK
      refine bwp_region rfl ?_
      simp -implicitDefEqProofs only [go_sem, ↓reduceIte, Nat.reduceEqDiff, Nat.reduceAdd, Nat.reduceLeDiff, Nat.reduceMul, Nat.reduceSub, Int.reduceLE, Int.reduceLT, Int.reduceEq, Int.reduceToNat, Int.reducePow, Int.reduceNeg]
      refine atom2_callK hs hg rfl ?_
      intro x q4 h4
      simp -implicitDefEqProofs only [go_sem, ↓reduceIte, Nat.reduceEqDiff, Nat.reduceAdd, Nat.reduceLeDiff, Nat.reduceMul, Nat.reduceSub, Int.reduceLE, Int.reduceLT, Int.reduceEq, Int.reduceToNat, Int.reducePow, Int.reduceNeg, atC, Atom.cells, mset, List.length_append, List.length_map, List.length_cons, List.length_nil]
      obtain ⟨f', rfl, hN⟩ := hI.or hq3 hb ho h4
      have hsn := rowsC_snoc accs row
      refine ⟨⟨(accs ++ [row], [x], q4, _, f', fuelP), hN⟩, ?_, ?_⟩
      · show f' * 5000 + fuelP < (f' + 1) * 5000 + g
        omega
      · refine Leads.ent [(0, 0), (1, 1), (2, 2), (3, 3), (4, 4), (5, 5), (8, 6), (13, 7)] ⟨by simp [taS, entT, fget, AV.ren, renL, pget], ?_, rfl, rfl⟩
        simp only [taS, hsn, List.map_append]
        simp [entM, pinv, mget, mset, renL, AV.ren, pget, renL_append, -List.map_map, rdC, testD0, hacr, hir, htr, slD, hds, Atom.cells]

end Go.Proofs.YtpfbljkfbjjlkaaDoor

/- parse.Parse. -/
namespace Go.Proofs.YtpfbljkfbjjlkaaDoor
open Go Go.Jq
set_option maxRecDepth 100000
set_option linter.unusedSimpArgs false

theorem PQ.fin {α : Type} {s : List UInt8} {τ : PR (α × Nat)} {x : α} {q : PSt} (h : PQ s τ x q) : (q.code = 0 ∧ ∃ b, τ = .ok (x, b)) ∨ (∃ e, τ = .error e ∧ q.code = e.1 ∧ e.1 ≠ 0 ∧ q.eat = e.2) := by
  cases τ with
  | ok p =>
    obtain ⟨y, b⟩ := p
    obtain ⟨rfl, h⟩ := h
    exact .inl ⟨h.code, b, rfl⟩
  | error e => exact .inr ⟨e, rfl, h.1, h.2.1, h.2.2.1⟩

/-- Behind the threads. -/
def pzS (s : List UInt8) (t : Test) (q : PSt) : St :=
  ⟨[(5, .ptr 0 0), (6, .ptr 2 0), (2, .ptr 4 0), (3, .ptr 5 0)], [(0, parC q), (1, lexQ s q), (2, (testD t).map .d), (4, testD0.map .d), (5, [.d (.int .i64 0), .d (.int .i64 0)])], 6⟩

set_option maxHeartbeats 32000000 in
theorem parse1_pure {s : List UInt8} (hs : s.length ≤ maxLen) : Pure Tryd.prog 25 [.d (.str s)] (parseV (pTest s)) := by
  have h54 : ldk Tryd.prog 54 = some (some 5) := by kernel_rfl
  have h26 : ldk Tryd.prog 26 = some (some 2) := by kernel_rfl
  have kl := long_pure s
  have hin : ∀ r, (parseV r).ren (fun _ => none) = parseV r := by
    intro r
    cases r <;> simp [parseV, AV.ren, renL, testD, testD0]
  refine acalls_of Tryd.func25 ac25_ok Tryd.ntmps25 Tryd.results25 rfl ?_
  unfold ac25
  refine bwp_seq fun K hK => bwp_region rfl ?_
  simp -implicitDefEqProofs only [go_sem, ↓reduceIte, Nat.reduceEqDiff, Nat.reduceAdd, Nat.reduceLeDiff, Nat.reduceMul, Nat.reduceSub, Int.reduceLE, Int.reduceLT, Int.reduceEq, Int.reduceToNat, Int.reducePow, Int.reduceNeg]
  refine hK _ ?_; clear hK
  refine bwp_seq fun K1 hK1 => ?_
  by_cases hl : 4000 < s.length
  · unfold longV at kl
    rw [if_pos hl] at kl
    refine bwp_seq fun K hK => bwp_region rfl ?_
    simp -implicitDefEqProofs only [go_sem, ↓reduceIte, Nat.reduceEqDiff, Nat.reduceAdd, Nat.reduceLeDiff, Nat.reduceMul, Nat.reduceSub, Int.reduceLE, Int.reduceLT, Int.reduceEq, Int.reduceToNat, Int.reducePow, Int.reduceNeg]
    repeat' (first
      | (refine gateK_split (fun hb => ?_) (fun hb => ?_) <;> simp -implicitDefEqProofs only [go_sem, ↓reduceIte, Nat.reduceEqDiff, Nat.reduceAdd, Nat.reduceLeDiff, Nat.reduceMul, Nat.reduceSub, Int.reduceLE, Int.reduceLT, Int.reduceEq, Int.reduceToNat, Int.reducePow, Int.reduceNeg, hb])
      | (refine dGateK_split (fun hb => ?_) (fun hb => ?_) <;> simp -implicitDefEqProofs only [go_sem, ↓reduceIte, Nat.reduceEqDiff, Nat.reduceAdd, Nat.reduceLeDiff, Nat.reduceMul, Nat.reduceSub, Int.reduceLE, Int.reduceLT, Int.reduceEq, Int.reduceToNat, Int.reducePow, Int.reduceNeg, hb])
      | (refine callK_pure (kl) rfl rfl ?_; simp -implicitDefEqProofs only [go_sem, ↓reduceIte, Nat.reduceEqDiff, Nat.reduceAdd, Nat.reduceLeDiff, Nat.reduceMul, Nat.reduceSub, Int.reduceLE, Int.reduceLT, Int.reduceEq, Int.reduceToNat, Int.reducePow, Int.reduceNeg])
      | (refine dCallK_pure (kl) rfl rfl ?_; simp -implicitDefEqProofs only [go_sem, ↓reduceIte, Nat.reduceEqDiff, Nat.reduceAdd, Nat.reduceLeDiff, Nat.reduceMul, Nat.reduceSub, Int.reduceLE, Int.reduceLT, Int.reduceEq, Int.reduceToNat, Int.reducePow, Int.reduceNeg])
      | (rw [if_pos (by (try simp only [List.length_append, List.length_cons, List.length_nil, List.length_map]); omega)]; simp -implicitDefEqProofs only [go_sem, ↓reduceIte, Nat.reduceEqDiff, Nat.reduceAdd, Nat.reduceLeDiff, Nat.reduceMul, Nat.reduceSub, Int.reduceLE, Int.reduceLT, Int.reduceEq, Int.reduceToNat, Int.reducePow, Int.reduceNeg]))
    refine hK _ ?_; clear hK
    refine bwp_seq fun K hK => bwp_region rfl ?_
    simp -implicitDefEqProofs only [go_sem, ↓reduceIte, Nat.reduceEqDiff, Nat.reduceAdd, Nat.reduceLeDiff, Nat.reduceMul, Nat.reduceSub, Int.reduceLE, Int.reduceLT, Int.reduceEq, Int.reduceToNat, Int.reducePow, Int.reduceNeg]
    refine hK _ ?_; clear hK
    refine bwp_cond true (by simp [ev, fget]) (fun _ => ?_) (fun h => nomatch h)
    refine bwp_seq fun K hK => bwp_region_draw rfl rfl ?_
    simp -implicitDefEqProofs only [go_sem, ↓reduceIte, Nat.reduceEqDiff, Nat.reduceAdd, Nat.reduceLeDiff, Nat.reduceMul, Nat.reduceSub, Int.reduceLE, Int.reduceLT, Int.reduceEq, Int.reduceToNat, Int.reducePow, Int.reduceNeg]
    refine ⟨rfl, hK _ ?_⟩; clear hK
    refine bwp_ret ?_
    simp -implicitDefEqProofs only [go_sem, ↓reduceIte, Nat.reduceEqDiff, Nat.reduceAdd, Nat.reduceLeDiff, Nat.reduceMul, Nat.reduceSub, Int.reduceLE, Int.reduceLT, Int.reduceEq, Int.reduceToNat, Int.reducePow, Int.reduceNeg]
    refine aend_ret (parseV (pTest s)) ?_ (hin _) ⟨rfl, rfl⟩
    have : pTest s = .error (2, 4000) := by unfold pTest; rw [if_pos hl]
    rw [this]
    simp [resA, resVs, resV, fget, mget, mset, loadA, h54, h26, parseV, testD0]
  have hs4 : s.length ≤ 4000 := by omega
  have hs' : s.length ≤ 140737488351232 := by omega
  unfold longV at kl
  rw [if_neg hl] at kl
  refine bwp_seq fun K hK => bwp_region rfl ?_
  simp -implicitDefEqProofs only [go_sem, ↓reduceIte, Nat.reduceEqDiff, Nat.reduceAdd, Nat.reduceLeDiff, Nat.reduceMul, Nat.reduceSub, Int.reduceLE, Int.reduceLT, Int.reduceEq, Int.reduceToNat, Int.reducePow, Int.reduceNeg]
  repeat' (first
    | (refine gateK_split (fun hb => ?_) (fun hb => ?_) <;> simp -implicitDefEqProofs only [go_sem, ↓reduceIte, Nat.reduceEqDiff, Nat.reduceAdd, Nat.reduceLeDiff, Nat.reduceMul, Nat.reduceSub, Int.reduceLE, Int.reduceLT, Int.reduceEq, Int.reduceToNat, Int.reducePow, Int.reduceNeg, hb])
    | (refine dGateK_split (fun hb => ?_) (fun hb => ?_) <;> simp -implicitDefEqProofs only [go_sem, ↓reduceIte, Nat.reduceEqDiff, Nat.reduceAdd, Nat.reduceLeDiff, Nat.reduceMul, Nat.reduceSub, Int.reduceLE, Int.reduceLT, Int.reduceEq, Int.reduceToNat, Int.reducePow, Int.reduceNeg, hb])
    | (refine callK_pure (kl) rfl rfl ?_; simp -implicitDefEqProofs only [go_sem, ↓reduceIte, Nat.reduceEqDiff, Nat.reduceAdd, Nat.reduceLeDiff, Nat.reduceMul, Nat.reduceSub, Int.reduceLE, Int.reduceLT, Int.reduceEq, Int.reduceToNat, Int.reducePow, Int.reduceNeg])
    | (refine dCallK_pure (kl) rfl rfl ?_; simp -implicitDefEqProofs only [go_sem, ↓reduceIte, Nat.reduceEqDiff, Nat.reduceAdd, Nat.reduceLeDiff, Nat.reduceMul, Nat.reduceSub, Int.reduceLE, Int.reduceLT, Int.reduceEq, Int.reduceToNat, Int.reducePow, Int.reduceNeg])
    | (rw [if_pos (by (try simp only [List.length_append, List.length_cons, List.length_nil, List.length_map]); omega)]; simp -implicitDefEqProofs only [go_sem, ↓reduceIte, Nat.reduceEqDiff, Nat.reduceAdd, Nat.reduceLeDiff, Nat.reduceMul, Nat.reduceSub, Int.reduceLE, Int.reduceLT, Int.reduceEq, Int.reduceToNat, Int.reducePow, Int.reduceNeg]))
  refine hK _ ?_; clear hK
  refine bwp_seq fun K hK => bwp_region rfl ?_
  simp -implicitDefEqProofs only [go_sem, ↓reduceIte, Nat.reduceEqDiff, Nat.reduceAdd, Nat.reduceLeDiff, Nat.reduceMul, Nat.reduceSub, Int.reduceLE, Int.reduceLT, Int.reduceEq, Int.reduceToNat, Int.reducePow, Int.reduceNeg]
  refine hK _ ?_; clear hK
  refine bwp_cond false (by simp [ev, fget]) (fun h => nomatch h) (fun _ => ?_)
  refine bwp_skip ?_
  refine hK1 _ ?_; clear hK1
  refine bwp_seq fun K hK => bwp_region rfl ?_
  simp -implicitDefEqProofs only [go_sem, ↓reduceIte, Nat.reduceEqDiff, Nat.reduceAdd, Nat.reduceLeDiff, Nat.reduceMul, Nat.reduceSub, Int.reduceLE, Int.reduceLT, Int.reduceEq, Int.reduceToNat, Int.reducePow, Int.reduceNeg]
  refine new_callK s ?_
  simp -implicitDefEqProofs only [go_sem, ↓reduceIte, Nat.reduceEqDiff, Nat.reduceAdd, Nat.reduceLeDiff, Nat.reduceMul, Nat.reduceSub, Int.reduceLE, Int.reduceLT, Int.reduceEq, Int.reduceToNat, Int.reducePow, Int.reduceNeg, mset]
  refine hK _ ?_; clear hK
  refine bwp_leads (S' := ⟨[(5, .ptr 0 0), (2, .ptr 2 0), (3, .ptr 3 0)], [(0, parC ⟨noTok, 0, 0, 0, 0, 0, 0⟩), (1, lexQ s ⟨noTok, 0, 0, 0, 0, 0, 0⟩), (2, testD0.map .d), (3, [.d (.int .i64 0), .d (.int .i64 0)])], 4⟩) (Leads.ent [(4, 0), (3, 1), (0, 2), (1, 3)] ⟨by simp [entT, fget, AV.ren, renL, pget, parC, lexQ, lexC, noTok, testD0], by simp [entM, pinv, mget, mset, renL, AV.ren, pget, renL_append, -List.map_map, parC, lexQ, lexC, noTok, testD0], rfl, rfl⟩) ?_
  refine bwp_seq fun K hK => bwp_region rfl ?_
  simp -implicitDefEqProofs only [go_sem, ↓reduceIte, Nat.reduceEqDiff, Nat.reduceAdd, Nat.reduceLeDiff, Nat.reduceMul, Nat.reduceSub, Int.reduceLE, Int.reduceLT, Int.reduceEq, Int.reduceToNat, Int.reducePow, Int.reduceNeg]
  refine pnext0_callK hs' rfl rfl ?_
  intro q1 h1
  simp -implicitDefEqProofs only [go_sem, ↓reduceIte, Nat.reduceEqDiff, Nat.reduceAdd, Nat.reduceLeDiff, Nat.reduceMul, Nat.reduceSub, Int.reduceLE, Int.reduceLT, Int.reduceEq, Int.reduceToNat, Int.reducePow, Int.reduceNeg, mset]
  refine hK _ ?_; clear hK
  refine bwp_seq fun K hK => bwp_region rfl ?_
  simp -implicitDefEqProofs only [go_sem, ↓reduceIte, Nat.reduceEqDiff, Nat.reduceAdd, Nat.reduceLeDiff, Nat.reduceMul, Nat.reduceSub, Int.reduceLE, Int.reduceLT, Int.reduceEq, Int.reduceToNat, Int.reducePow, Int.reduceNeg]
  refine hK _ ?_; clear hK
  refine bwp_leads (S' := ⟨[(5, .ptr 0 0), (6, .ptr 2 0), (2, .ptr 4 0), (3, .ptr 5 0)], [(0, parC q1), (1, lexQ s q1), (2, testD0.map .d), (4, testD0.map .d), (5, [.d (.int .i64 0), .d (.int .i64 0)])], 6⟩) (Leads.ent [(0, 0), (1, 1), (6, 2), (2, 4), (3, 5)] ⟨by simp [entT, fget, AV.ren, renL, pget, parC, lexQ, lexC, testD0], by simp [entM, pinv, mget, mset, renL, AV.ren, pget, renL_append, -List.map_map, parC, lexQ, lexC, testD0], rfl, rfl⟩) ?_
  refine bwp_leads (Leads.nilCell 2 1 2 rfl rfl rfl rfl) ?_
  refine bwp_leads (Leads.nilCell 2 4 1 rfl rfl rfl rfl) ?_
  refine bwp_leads (Leads.nilCell 2 2 1 rfl rfl rfl rfl) ?_
  refine bwp_leads (Leads.frz (S' := ⟨[(5, .ptr 0 0), (6, .ptr 2 0), (2, .ptr 4 0), (3, .ptr 5 0)], [(0, parC q1), (1, lexQ s q1), (2, [.d (.str []), .d (.sl 0 []), .sl 3 1 0 0, .d (.int .i64 0), .d (.sl 0 [])]), (3, []), (4, testD0.map .d), (5, [.d (.int .i64 0), .d (.int .i64 0)])], 6⟩) [(0, 0), (1, 1), (2, 2), (8, 3), (4, 4), (5, 5)] [(6, []), (7, [])] ⟨?_, ?_, rfl, rfl, ?_⟩) ?_
  · simp [frzT, fget, AV.cv, cvL, zget, pget]
  · simp [frzM, pinv, zget, mget, mset, cvL, AV.cv, parC, lexQ, lexC, pget, testD0]
  · simp [zokFrom, mget, mset, cvL]
  refine bwp_seq fun K hK => bwp_region rfl ?_
  simp -implicitDefEqProofs only [go_sem, ↓reduceIte, Nat.reduceEqDiff, Nat.reduceAdd, Nat.reduceLeDiff, Nat.reduceMul, Nat.reduceSub, Int.reduceLE, Int.reduceLT, Int.reduceEq, Int.reduceToNat, Int.reducePow, Int.reduceNeg]
  refine pmust_callK hs' h1 wTest rfl rfl ?_
  intro q2 h2
  simp -implicitDefEqProofs only [go_sem, ↓reduceIte, Nat.reduceEqDiff, Nat.reduceAdd, Nat.reduceLeDiff, Nat.reduceMul, Nat.reduceSub, Int.reduceLE, Int.reduceLT, Int.reduceEq, Int.reduceToNat, Int.reducePow, Int.reduceNeg, mset]
  refine hK _ ?_; clear hK
  refine bwp_seq fun K hK => bwp_region rfl ?_
  simp -implicitDefEqProofs only [go_sem, ↓reduceIte, Nat.reduceEqDiff, Nat.reduceAdd, Nat.reduceLeDiff, Nat.reduceMul, Nat.reduceSub, Int.reduceLE, Int.reduceLT, Int.reduceEq, Int.reduceToNat, Int.reducePow, Int.reduceNeg]
  refine pword_callK hs' h2.ps rfl rfl ?_
  intro nm q3 h3
  simp -implicitDefEqProofs only [go_sem, ↓reduceIte, Nat.reduceEqDiff, Nat.reduceAdd, Nat.reduceLeDiff, Nat.reduceMul, Nat.reduceSub, Int.reduceLE, Int.reduceLT, Int.reduceEq, Int.reduceToNat, Int.reducePow, Int.reduceNeg, mset]
  refine hK _ ?_; clear hK
  refine bwp_seq fun K hK => bwp_region rfl ?_
  simp -implicitDefEqProofs only [go_sem, ↓reduceIte, Nat.reduceEqDiff, Nat.reduceAdd, Nat.reduceLeDiff, Nat.reduceMul, Nat.reduceSub, Int.reduceLE, Int.reduceLT, Int.reduceEq, Int.reduceToNat, Int.reducePow, Int.reduceNeg]
  refine pmust_callK hs' h3.ps [123] rfl rfl ?_
  intro q4 h4
  simp -implicitDefEqProofs only [go_sem, ↓reduceIte, Nat.reduceEqDiff, Nat.reduceAdd, Nat.reduceLeDiff, Nat.reduceMul, Nat.reduceSub, Int.reduceLE, Int.reduceLT, Int.reduceEq, Int.reduceToNat, Int.reducePow, Int.reduceNeg, mset]
  refine hK _ ?_; clear hK
  generalize hσ4 : posR (thn (posR (thn (posR (thn (goW s 0) ((tMust wTest).run s))) (tWord.run s))) ((tMust [123]).run s)) = σ4
  have hps4 := h4.ps
  rw [hσ4] at hps4
  refine bwp_seq fun K1 hK1 => ?_
  have fin1 : ∀ (S : St) (l : List Init) (q : PSt), Leads (mbound []) 77 S (ptS s nm (slD Init.cells l) [] q) → PQ s (thn σ4 ((tTake wInit tInits (.ret [])).run s)) l q → K1 S := by
    intro S inits q5 hS h5
    refine hK1 _ ?_; clear hK1
    refine bwp_leads hS ?_
    refine bwp_seq fun K2 hK2 => ?_
    refine bwp_block ?_
    refine ppa_loop hs4 h5.ps ?_
    intro ts q6 hl6 hls6 h6
    unfold ptS
    simp -implicitDefEqProofs only [go_sem, ↓reduceIte, Nat.reduceEqDiff, Nat.reduceAdd, Nat.reduceLeDiff, Nat.reduceMul, Nat.reduceSub, Int.reduceLE, Int.reduceLT, Int.reduceEq, Int.reduceToNat, Int.reducePow, Int.reduceNeg]
    refine hK2 _ ?_; clear hK2
    have hth : (thrC ts).length = ts.length := thrC_len ts
    have htk : (thrC ts).take ts.length = thrC ts := List.take_of_length_le (by omega)
    refine bwp_leads (Leads.frz (S' := ⟨[(5, .ptr 0 0), (6, .ptr 2 0), (2, .ptr 4 0), (3, .ptr 5 0)], [(0, parC q6), (1, lexQ s q6), (2, [.d (.str nm), .d (slD Init.cells inits), .d (thrD ts), .d (.int .i64 0), .d (.sl 0 [])]), (4, testD0.map .d), (5, [.d (.int .i64 0), .d (.int .i64 0)])], 6⟩) [(0, 0), (1, 1), (2, 2), (4, 4), (5, 5)] [(3, thrC ts)] ⟨?_, ?_, rfl, rfl, ?_⟩) ?_
    · simp [frzT, fget, AV.cv, cvL, zget, pget]
    · simp [frzM, pinv, zget, mget, mset, cvL, AV.cv, parC, lexQ, lexC, pget, testD0, thrD, htk]
    · simp [zokFrom, mget, mset, cvL_d]
    refine bwp_seq fun K2 hK2 => ?_
    refine bwp_block ?_
    have fin2 : ∀ (S : St) (c : Int × List (List Atom)) (q : PSt), Leads (mbound []) 77 S (pzS s ⟨nm, inits, ts, c.1, c.2⟩ q) → PQ s (thn (posR (thn (posR (thn σ4 ((tTake wInit tInits (.ret [])).run s))) ((tThreads fuelP).run s))) (tCond.run s)) c q → K2 S := by
      intro S c q7 hS h7
      refine hK2 _ ?_; clear hK2
      refine bwp_leads hS ?_
      unfold pzS
      refine bwp_seq fun K hK => bwp_region rfl ?_
      simp -implicitDefEqProofs only [go_sem, ↓reduceIte, Nat.reduceEqDiff, Nat.reduceAdd, Nat.reduceLeDiff, Nat.reduceMul, Nat.reduceSub, Int.reduceLE, Int.reduceLT, Int.reduceEq, Int.reduceToNat, Int.reducePow, Int.reduceNeg]
      refine pmust_callK hs' h7.ps [125] rfl rfl ?_
      intro q8 h8
      simp -implicitDefEqProofs only [go_sem, ↓reduceIte, Nat.reduceEqDiff, Nat.reduceAdd, Nat.reduceLeDiff, Nat.reduceMul, Nat.reduceSub, Int.reduceLE, Int.reduceLT, Int.reduceEq, Int.reduceToNat, Int.reducePow, Int.reduceNeg, mset]
      refine hK _ ?_; clear hK
      refine bwp_seq fun K3 hK3 => ?_
      have fin3 : ∀ (S : St) (q : PSt), Leads (mbound []) 77 S (pzS s ⟨nm, inits, ts, c.1, c.2⟩ q) → PQ s (thn (posR (thn (posR (thn (posR (thn (posR (thn σ4 ((tTake wInit tInits (.ret [])).run s))) ((tThreads fuelP).run s))) (tCond.run s))) ((tMust [125]).run s))) ((PT.cur fun d _ => if d = 4 then .ret (⟨nm, inits, ts, c.1, c.2⟩ : Test) else .bad 6).run s)) ⟨nm, inits, ts, c.1, c.2⟩ q → K3 S := by
        intro S q9 hS h9
        refine hK3 _ ?_; clear hK3
        refine bwp_leads hS ?_
        subst hσ4
        have hall : PQ s (thn (goW s 0) (tTest.run s)) ⟨nm, inits, ts, c.1, c.2⟩ q9 := PQ.bind h2 (PQ.bind h3 (PQ.bind h4 (PQ.bind h5 (PQ.bind h6 (PQ.bind h7 (PQ.bind h8 h9))))))
        unfold pzS
        refine bwp_seq fun K4 hK4 => ?_
        refine bwp_seq fun K hK => bwp_region rfl ?_
        simp -implicitDefEqProofs only [go_sem, ↓reduceIte, Nat.reduceEqDiff, Nat.reduceAdd, Nat.reduceLeDiff, Nat.reduceMul, Nat.reduceSub, Int.reduceLE, Int.reduceLT, Int.reduceEq, Int.reduceToNat, Int.reducePow, Int.reduceNeg]
        refine pok_callK s q9 rfl rfl ?_
        have heq := pTest_eq hs4
        rcases hall.fin with ⟨hc, b, hb⟩ | ⟨e, he, hc, hne, hat⟩
        · rw [hb] at heq
          simp only at heq
          simp -implicitDefEqProofs only [go_sem, ↓reduceIte, Nat.reduceEqDiff, Nat.reduceAdd, Nat.reduceLeDiff, Nat.reduceMul, Nat.reduceSub, Int.reduceLE, Int.reduceLT, Int.reduceEq, Int.reduceToNat, Int.reducePow, Int.reduceNeg, mset, eq_true hc, decide_true]
          refine hK _ ?_; clear hK
          refine bwp_cond false (by simp [ev, fget]) (fun h => nomatch h) (fun _ => ?_)
          refine bwp_skip ?_
          refine hK4 _ ?_; clear hK4
          refine bwp_seq fun K hK => bwp_region rfl ?_
          simp -implicitDefEqProofs only [go_sem, ↓reduceIte, Nat.reduceEqDiff, Nat.reduceAdd, Nat.reduceLeDiff, Nat.reduceMul, Nat.reduceSub, Int.reduceLE, Int.reduceLT, Int.reduceEq, Int.reduceToNat, Int.reducePow, Int.reduceNeg, testD]
          refine hK _ ?_; clear hK
          refine bwp_ret ?_
          simp -implicitDefEqProofs only [go_sem, ↓reduceIte, Nat.reduceEqDiff, Nat.reduceAdd, Nat.reduceLeDiff, Nat.reduceMul, Nat.reduceSub, Int.reduceLE, Int.reduceLT, Int.reduceEq, Int.reduceToNat, Int.reducePow, Int.reduceNeg]
          refine aend_ret (parseV (pTest s)) ?_ (hin _) ⟨rfl, rfl⟩
          rw [heq]
          simp [resA, resVs, resV, fget, mget, mset, loadA, h54, h26, parseV, testD, testD0]
        · rw [he] at heq
          simp only at heq
          have hc0 : ¬ q9.code = 0 := by rw [hc]; exact hne
          simp -implicitDefEqProofs only [go_sem, ↓reduceIte, Nat.reduceEqDiff, Nat.reduceAdd, Nat.reduceLeDiff, Nat.reduceMul, Nat.reduceSub, Int.reduceLE, Int.reduceLT, Int.reduceEq, Int.reduceToNat, Int.reducePow, Int.reduceNeg, mset, eq_false hc0, decide_false]
          refine hK _ ?_; clear hK
          refine bwp_cond true (by simp [ev, fget]) (fun _ => ?_) (fun h => nomatch h)
          refine bwp_seq fun K hK => bwp_region_draw rfl rfl ?_
          simp -implicitDefEqProofs only [go_sem, ↓reduceIte, Nat.reduceEqDiff, Nat.reduceAdd, Nat.reduceLeDiff, Nat.reduceMul, Nat.reduceSub, Int.reduceLE, Int.reduceLT, Int.reduceEq, Int.reduceToNat, Int.reducePow, Int.reduceNeg, parC]
          refine ⟨rfl, hK _ ?_⟩; clear hK
          refine bwp_ret ?_
          simp -implicitDefEqProofs only [go_sem, ↓reduceIte, Nat.reduceEqDiff, Nat.reduceAdd, Nat.reduceLeDiff, Nat.reduceMul, Nat.reduceSub, Int.reduceLE, Int.reduceLT, Int.reduceEq, Int.reduceToNat, Int.reducePow, Int.reduceNeg]
          refine aend_ret (parseV (pTest s)) ?_ (hin _) ⟨rfl, rfl⟩
          rw [heq]
          simp [resA, resVs, resV, fget, mget, mset, loadA, h54, h26, parseV, testD0, hc, hat]
      refine bwp_seq fun K hK => bwp_region rfl ?_
      simp -implicitDefEqProofs only [go_sem, ↓reduceIte, Nat.reduceEqDiff, Nat.reduceAdd, Nat.reduceLeDiff, Nat.reduceMul, Nat.reduceSub, Int.reduceLE, Int.reduceLT, Int.reduceEq, Int.reduceToNat, Int.reducePow, Int.reduceNeg]
      refine pok_callK s q8 rfl rfl ?_
      by_cases hc : q8.code = 0
      · by_cases h4 : q8.tok.kd = 4
        · simp -implicitDefEqProofs only [go_sem, ↓reduceIte, Nat.reduceEqDiff, Nat.reduceAdd, Nat.reduceLeDiff, Nat.reduceMul, Nat.reduceSub, Int.reduceLE, Int.reduceLT, Int.reduceEq, Int.reduceToNat, Int.reducePow, Int.reduceNeg, mset, eq_true hc, eq_true h4, parC, decide_true]
          refine hK _ ?_; clear hK
          refine bwp_cond false (by simp [ev, fget]) (fun h => nomatch h) (fun _ => ?_)
          refine bwp_skip ?_
          refine fin3 _ q8 (Leads.ent [(0, 0), (1, 1), (2, 2), (4, 4), (5, 5)] ⟨by simp [pzS, entT, fget, AV.ren, renL, pget], by simp [pzS, entM, pinv, mget, mset, renL, AV.ren, pget, parC, lexQ, lexC, testD, testD0], rfl, rfl⟩) ?_
          refine PQ.cur h8.ps ?_
          rw [if_pos h4]
          exact PQ.ret h8.ps
        · simp -implicitDefEqProofs only [go_sem, ↓reduceIte, Nat.reduceEqDiff, Nat.reduceAdd, Nat.reduceLeDiff, Nat.reduceMul, Nat.reduceSub, Int.reduceLE, Int.reduceLT, Int.reduceEq, Int.reduceToNat, Int.reducePow, Int.reduceNeg, mset, eq_true hc, eq_false h4, parC, decide_true]
          refine hK _ ?_; clear hK
          refine bwp_cond true (by simp [ev, fget]) (fun _ => ?_) (fun h => nomatch h)
          refine bwp_region rfl ?_
          simp -implicitDefEqProofs only [go_sem, ↓reduceIte, Nat.reduceEqDiff, Nat.reduceAdd, Nat.reduceLeDiff, Nat.reduceMul, Nat.reduceSub, Int.reduceLE, Int.reduceLT, Int.reduceEq, Int.reduceToNat, Int.reducePow, Int.reduceNeg]
          refine pfail_callK s q8 6 rfl rfl ?_
          simp -implicitDefEqProofs only [go_sem, ↓reduceIte, Nat.reduceEqDiff, Nat.reduceAdd, Nat.reduceLeDiff, Nat.reduceMul, Nat.reduceSub, Int.reduceLE, Int.reduceLT, Int.reduceEq, Int.reduceToNat, Int.reducePow, Int.reduceNeg, mset]
          refine fin3 _ (failF q8 6) (Leads.ent [(0, 0), (1, 1), (2, 2), (4, 4), (5, 5)] ⟨by simp [pzS, entT, fget, AV.ren, renL, pget], by simp [pzS, entM, pinv, mget, mset, renL, AV.ren, pget, parC, lexQ, lexC, testD, testD0], rfl, rfl⟩) ?_
          refine PQ.cur h8.ps ?_
          rw [if_neg h4]
          exact PQ.bad h8.ps (by decide) _
      · simp -implicitDefEqProofs only [go_sem, ↓reduceIte, Nat.reduceEqDiff, Nat.reduceAdd, Nat.reduceLeDiff, Nat.reduceMul, Nat.reduceSub, Int.reduceLE, Int.reduceLT, Int.reduceEq, Int.reduceToNat, Int.reducePow, Int.reduceNeg, mset, eq_false hc, parC, decide_false]
        refine hK _ ?_; clear hK
        refine bwp_cond false (by simp [ev, fget]) (fun h => nomatch h) (fun _ => ?_)
        refine bwp_skip ?_
        refine fin3 _ q8 (Leads.ent [(0, 0), (1, 1), (2, 2), (4, 4), (5, 5)] ⟨by simp [pzS, entT, fget, AV.ren, renL, pget], by simp [pzS, entM, pinv, mget, mset, renL, AV.ren, pget, parC, lexQ, lexC, testD, testD0], rfl, rfl⟩) ?_
        have hp8 := h8.ps
        generalize posR (thn (posR (thn (posR (thn (posR (thn σ4 ((tTake wInit tInits (.ret [])).run s))) ((tThreads fuelP).run s))) (tCond.run s))) ((tMust [125]).run s)) = σ8 at hp8 ⊢
        cases σ8 with
        | ok a => exact absurd hp8.code hc
        | error e => exact hp8
    refine bwp_seq fun K hK => bwp_region rfl ?_
    simp -implicitDefEqProofs only [go_sem, ↓reduceIte, Nat.reduceEqDiff, Nat.reduceAdd, Nat.reduceLeDiff, Nat.reduceMul, Nat.reduceSub, Int.reduceLE, Int.reduceLT, Int.reduceEq, Int.reduceToNat, Int.reducePow, Int.reduceNeg]
    refine ptake_callK hs' h6.ps wExists rfl rfl ?_
    intro q7 hy hn
    cases hb : tkB q6 wExists with
    | true =>
      have h7 := hy hb
      simp -implicitDefEqProofs only [go_sem, ↓reduceIte, Nat.reduceEqDiff, Nat.reduceAdd, Nat.reduceLeDiff, Nat.reduceMul, Nat.reduceSub, Int.reduceLE, Int.reduceLT, Int.reduceEq, Int.reduceToNat, Int.reducePow, Int.reduceNeg, mset]
      refine hK _ ?_; clear hK
      refine bwp_cond true (by simp [ev, fget]) (fun _ => ?_) (fun h => nomatch h)
      refine bwp_region rfl ?_
      simp -implicitDefEqProofs only [go_sem, ↓reduceIte, Nat.reduceEqDiff, Nat.reduceAdd, Nat.reduceLeDiff, Nat.reduceMul, Nat.reduceSub, Int.reduceLE, Int.reduceLT, Int.reduceEq, Int.reduceToNat, Int.reducePow, Int.reduceNeg]
      refine pcond_callK hs4 h7 1 rfl rfl ?_
      intro rows q8 hr h8
      simp -implicitDefEqProofs only [go_sem, ↓reduceIte, Nat.reduceEqDiff, Nat.reduceAdd, Nat.reduceLeDiff, Nat.reduceMul, Nat.reduceSub, Int.reduceLE, Int.reduceLT, Int.reduceEq, Int.reduceToNat, Int.reducePow, Int.reduceNeg, mset]
      refine fin2 _ (1, rows) q8 (Leads.ent [(0, 0), (1, 1), (2, 2), (4, 4), (5, 5)] ⟨by simp [pzS, entT, fget, AV.ren, renL, pget], by simp [pzS, entM, pinv, mget, mset, renL, AV.ren, pget, parC, lexQ, lexC, testD, testD0, rowsD], rfl, rfl⟩) ?_
      exact PQ.take_yes h6.ps hb h8
    | false =>
      have h7 := hn hb
      subst h7
      simp -implicitDefEqProofs only [go_sem, ↓reduceIte, Nat.reduceEqDiff, Nat.reduceAdd, Nat.reduceLeDiff, Nat.reduceMul, Nat.reduceSub, Int.reduceLE, Int.reduceLT, Int.reduceEq, Int.reduceToNat, Int.reducePow, Int.reduceNeg, mset]
      refine hK _ ?_; clear hK
      refine bwp_cond false (by simp [ev, fget]) (fun h => nomatch h) (fun _ => ?_)
      refine bwp_seq fun K hK => bwp_region rfl ?_
      simp -implicitDefEqProofs only [go_sem, ↓reduceIte, Nat.reduceEqDiff, Nat.reduceAdd, Nat.reduceLeDiff, Nat.reduceMul, Nat.reduceSub, Int.reduceLE, Int.reduceLT, Int.reduceEq, Int.reduceToNat, Int.reducePow, Int.reduceNeg]
      refine ptake_callK hs' h6.ps wForall rfl rfl ?_
      intro q8 hy hn
      cases hb2 : tkB q7 wForall with
      | true =>
        have h8 := hy hb2
        simp -implicitDefEqProofs only [go_sem, ↓reduceIte, Nat.reduceEqDiff, Nat.reduceAdd, Nat.reduceLeDiff, Nat.reduceMul, Nat.reduceSub, Int.reduceLE, Int.reduceLT, Int.reduceEq, Int.reduceToNat, Int.reducePow, Int.reduceNeg, mset]
        refine hK _ ?_; clear hK
        refine bwp_cond true (by simp [ev, fget]) (fun _ => ?_) (fun h => nomatch h)
        refine bwp_region rfl ?_
        simp -implicitDefEqProofs only [go_sem, ↓reduceIte, Nat.reduceEqDiff, Nat.reduceAdd, Nat.reduceLeDiff, Nat.reduceMul, Nat.reduceSub, Int.reduceLE, Int.reduceLT, Int.reduceEq, Int.reduceToNat, Int.reducePow, Int.reduceNeg]
        refine pcond_callK hs4 h8 2 rfl rfl ?_
        intro rows q9 hr h9
        simp -implicitDefEqProofs only [go_sem, ↓reduceIte, Nat.reduceEqDiff, Nat.reduceAdd, Nat.reduceLeDiff, Nat.reduceMul, Nat.reduceSub, Int.reduceLE, Int.reduceLT, Int.reduceEq, Int.reduceToNat, Int.reducePow, Int.reduceNeg, mset]
        refine fin2 _ (2, rows) q9 (Leads.ent [(0, 0), (1, 1), (2, 2), (4, 4), (5, 5)] ⟨by simp [pzS, entT, fget, AV.ren, renL, pget], by simp [pzS, entM, pinv, mget, mset, renL, AV.ren, pget, parC, lexQ, lexC, testD, testD0], rfl, rfl⟩) ?_
        exact PQ.take_no h6.ps hb (PQ.take_yes h6.ps hb2 h9)
      | false =>
        have h8 := hn hb2
        subst h8
        simp -implicitDefEqProofs only [go_sem, ↓reduceIte, Nat.reduceEqDiff, Nat.reduceAdd, Nat.reduceLeDiff, Nat.reduceMul, Nat.reduceSub, Int.reduceLE, Int.reduceLT, Int.reduceEq, Int.reduceToNat, Int.reducePow, Int.reduceNeg, mset]
        refine hK _ ?_; clear hK
        refine bwp_cond false (by simp [ev, fget]) (fun h => nomatch h) (fun _ => ?_)
        refine bwp_skip ?_
        refine fin2 _ (0, []) q8 (Leads.ent [(0, 0), (1, 1), (2, 2), (4, 4), (5, 5)] ⟨by simp [pzS, entT, fget, AV.ren, renL, pget], by simp [pzS, entM, pinv, mget, mset, renL, AV.ren, pget, parC, lexQ, lexC, testD, testD0, rowsD, rowsC], rfl, rfl⟩) ?_
        exact PQ.take_no h6.ps hb (PQ.take_no h6.ps hb2 (PQ.ret h6.ps))
  refine bwp_seq fun K hK => bwp_region rfl ?_
  simp -implicitDefEqProofs only [go_sem, ↓reduceIte, Nat.reduceEqDiff, Nat.reduceAdd, Nat.reduceLeDiff, Nat.reduceMul, Nat.reduceSub, Int.reduceLE, Int.reduceLT, Int.reduceEq, Int.reduceToNat, Int.reducePow, Int.reduceNeg]
  refine ptake_callK hs' hps4 wInit rfl rfl ?_
  intro q5 hy hn
  cases hb : tkB q4 wInit with
  | true =>
    have h5 := hy hb
    simp -implicitDefEqProofs only [go_sem, ↓reduceIte, Nat.reduceEqDiff, Nat.reduceAdd, Nat.reduceLeDiff, Nat.reduceMul, Nat.reduceSub, Int.reduceLE, Int.reduceLT, Int.reduceEq, Int.reduceToNat, Int.reducePow, Int.reduceNeg, mset]
    refine hK _ ?_; clear hK
    refine bwp_cond true (by simp [ev, fget]) (fun _ => ?_) (fun h => nomatch h)
    refine bwp_region rfl ?_
    simp -implicitDefEqProofs only [go_sem, ↓reduceIte, Nat.reduceEqDiff, Nat.reduceAdd, Nat.reduceLeDiff, Nat.reduceMul, Nat.reduceSub, Int.reduceLE, Int.reduceLT, Int.reduceEq, Int.reduceToNat, Int.reducePow, Int.reduceNeg]
    refine pinit_callK hs4 h5 rfl rfl ?_
    intro l q6 hl h6
    simp -implicitDefEqProofs only [go_sem, ↓reduceIte, Nat.reduceEqDiff, Nat.reduceAdd, Nat.reduceLeDiff, Nat.reduceMul, Nat.reduceSub, Int.reduceLE, Int.reduceLT, Int.reduceEq, Int.reduceToNat, Int.reducePow, Int.reduceNeg, mset]
    refine fin1 _ l q6 (Leads.ent [(0, 0), (1, 1), (2, 2), (3, 3), (4, 4), (5, 5)] ⟨by simp [ptS, entT, fget, AV.ren, renL, pget], by simp [ptS, thrC, entM, pinv, mget, mset, renL, AV.ren, pget, parC, lexQ, lexC, testD, testD0], rfl, rfl⟩) ?_
    exact PQ.take_yes hps4 hb h6
  | false =>
    have h5 := hn hb
    subst h5
    simp -implicitDefEqProofs only [go_sem, ↓reduceIte, Nat.reduceEqDiff, Nat.reduceAdd, Nat.reduceLeDiff, Nat.reduceMul, Nat.reduceSub, Int.reduceLE, Int.reduceLT, Int.reduceEq, Int.reduceToNat, Int.reducePow, Int.reduceNeg, mset]
    refine hK _ ?_; clear hK
    refine bwp_cond false (by simp [ev, fget]) (fun h => nomatch h) (fun _ => ?_)
    refine bwp_skip ?_
    refine fin1 _ [] q5 (Leads.ent [(0, 0), (1, 1), (2, 2), (3, 3), (4, 4), (5, 5)] ⟨by simp [ptS, entT, fget, AV.ren, renL, pget], by simp [ptS, slD, thrC, entM, pinv, mget, mset, renL, AV.ren, pget, parC, lexQ, lexC, testD, testD0], rfl, rfl⟩) ?_
    exact PQ.take_no hps4 hb (PQ.ret hps4)

end Go.Proofs.YtpfbljkfbjjlkaaDoor
