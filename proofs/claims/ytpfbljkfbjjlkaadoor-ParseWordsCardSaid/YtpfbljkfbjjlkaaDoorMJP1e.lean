/- What the statement's proof leans on, part 5: the layer, the walks, the plain laws. -/
import Derived.Test.YtpfbljkfbjjlkaaDoorMJP1d
import Derived.Test.YtpfbljkfbjjlkaaDoorMJP1c

/- The parser's words, numbers, names, operands. -/
namespace Go.Proofs.YtpfbljkfbjjlkaaDoor
open Go Go.Jq
set_option maxRecDepth 100000
set_option linter.unusedSimpArgs false

theorem failF_code {q : PSt} {c : Int} (hc : c ≠ 0) : (failF q c).code ≠ 0 := by
  unfold failF
  split
  · exact hc
  · assumption

set_option maxHeartbeats 4000000 in
theorem pword_calls {s : List UInt8} (hs : s.length ≤ 140737488351232) {σ : PR Nat} {q : PSt} (h : PS s σ q) :
    ACalls Tryd.prog 46 [.ptr 0 0] [(0, parC q), (1, lexQ s q)] fun r m' => ∃ q', m' = [(0, parC q'), (1, lexQ s q')] ∧ ∃ x, r = .d (.str x) ∧ PQ s (thn σ (tWord.run s)) x q' := by
  refine acalls_of Tryd.func46 ac46_ok Tryd.ntmps46 Tryd.results46 rfl ?_
  unfold ac46
  refine bwp_seq fun K hK => bwp_region rfl ?_
  simp -implicitDefEqProofs only [go_sem, ↓reduceIte, Nat.reduceEqDiff, Nat.reduceAdd, Nat.reduceLeDiff, Nat.reduceMul, Nat.reduceSub, Int.reduceLE, Int.reduceLT, Int.reduceEq, Int.reduceToNat, Int.reducePow, Int.reduceNeg]
  refine hK _ ?_; clear hK
  refine bwp_seq fun K hK => bwp_region rfl ?_
  simp -implicitDefEqProofs only [go_sem, ↓reduceIte, Nat.reduceEqDiff, Nat.reduceAdd, Nat.reduceLeDiff, Nat.reduceMul, Nat.reduceSub, Int.reduceLE, Int.reduceLT, Int.reduceEq, Int.reduceToNat, Int.reducePow, Int.reduceNeg, parC]
  refine hK _ ?_; clear hK
  refine bwp_seq fun K1 hK1 => ?_
  by_cases h1 : q.tok.kd = 1
  · refine bwp_seq fun K hK => bwp_region rfl ?_
    simp -implicitDefEqProofs only [go_sem, ↓reduceIte, Nat.reduceEqDiff, Nat.reduceAdd, Nat.reduceLeDiff, Nat.reduceMul, Nat.reduceSub, Int.reduceLE, Int.reduceLT, Int.reduceEq, Int.reduceToNat, Int.reducePow, Int.reduceNeg, eq_true h1]
    refine hK _ ?_; clear hK
    refine bwp_cond false (by simp [ev, fget]) (fun h => nomatch h) (fun _ => ?_)
    refine bwp_skip ?_
    refine hK1 _ ?_; clear hK1
    refine bwp_seq fun K hK => bwp_region rfl ?_
    simp -implicitDefEqProofs only [go_sem, ↓reduceIte, Nat.reduceEqDiff, Nat.reduceAdd, Nat.reduceLeDiff, Nat.reduceMul, Nat.reduceSub, Int.reduceLE, Int.reduceLT, Int.reduceEq, Int.reduceToNat, Int.reducePow, Int.reduceNeg]
    refine pnext_callK hs h rfl rfl ?_
    intro q' hq'
    simp -implicitDefEqProofs only [go_sem, ↓reduceIte, Nat.reduceEqDiff, Nat.reduceAdd, Nat.reduceLeDiff, Nat.reduceMul, Nat.reduceSub, Int.reduceLE, Int.reduceLT, Int.reduceEq, Int.reduceToNat, Int.reducePow, Int.reduceNeg, mset]
    refine hK _ ?_; clear hK
    refine bwp_seq fun K hK => bwp_region rfl ?_
    simp -implicitDefEqProofs only [go_sem, ↓reduceIte, Nat.reduceEqDiff, Nat.reduceAdd, Nat.reduceLeDiff, Nat.reduceMul, Nat.reduceSub, Int.reduceLE, Int.reduceLT, Int.reduceEq, Int.reduceToNat, Int.reducePow, Int.reduceNeg]
    refine hK _ ?_; clear hK
    refine bwp_ret ?_
    simp only [go_sem]
    refine aend_mem (.d (.str q.tok.tx)) [(0, 0), (1, 1)] [(0, parC q'), (1, lexQ s q')] ?_ rfl rfl ?_ ⟨q', rfl, q.tok.tx, rfl, ?_⟩
    · simp [resA, resVs, resV, fget]
    · simp [entM, pinv, mget, mset, renL, AV.ren, parC, lexQ, lexC, pget]
    · refine PQ.cur h ?_
      rw [if_pos h1]
      exact PQ.eat (PQ.ret hq')
  · refine bwp_seq fun K hK => bwp_region rfl ?_
    simp -implicitDefEqProofs only [go_sem, ↓reduceIte, Nat.reduceEqDiff, Nat.reduceAdd, Nat.reduceLeDiff, Nat.reduceMul, Nat.reduceSub, Int.reduceLE, Int.reduceLT, Int.reduceEq, Int.reduceToNat, Int.reducePow, Int.reduceNeg, eq_false h1]
    refine hK _ ?_; clear hK
    refine bwp_cond true (by simp [ev, fget]) (fun _ => ?_) (fun h => nomatch h)
    refine bwp_seq fun K hK => bwp_region rfl ?_
    simp -implicitDefEqProofs only [go_sem, ↓reduceIte, Nat.reduceEqDiff, Nat.reduceAdd, Nat.reduceLeDiff, Nat.reduceMul, Nat.reduceSub, Int.reduceLE, Int.reduceLT, Int.reduceEq, Int.reduceToNat, Int.reducePow, Int.reduceNeg]
    refine pfail_callK s q 6 rfl rfl ?_
    simp -implicitDefEqProofs only [go_sem, ↓reduceIte, Nat.reduceEqDiff, Nat.reduceAdd, Nat.reduceLeDiff, Nat.reduceMul, Nat.reduceSub, Int.reduceLE, Int.reduceLT, Int.reduceEq, Int.reduceToNat, Int.reducePow, Int.reduceNeg, mset]
    refine hK _ ?_; clear hK
    refine bwp_seq fun K hK => bwp_region rfl ?_
    simp -implicitDefEqProofs only [go_sem, ↓reduceIte, Nat.reduceEqDiff, Nat.reduceAdd, Nat.reduceLeDiff, Nat.reduceMul, Nat.reduceSub, Int.reduceLE, Int.reduceLT, Int.reduceEq, Int.reduceToNat, Int.reducePow, Int.reduceNeg]
    refine hK _ ?_; clear hK
    refine bwp_ret ?_
    simp only [go_sem]
    refine aend_mem (.d (.str [])) [(0, 0), (1, 1)] [(0, parC (failF q 6)), (1, lexQ s (failF q 6))] ?_ rfl rfl ?_ ⟨_, rfl, [], rfl, ?_⟩
    · simp [resA, resVs, resV, fget]
    · simp [entM, pinv, mget, mset, renL, AV.ren, parC, lexQ, lexC, pget]
    · refine PQ.cur h ?_
      rw [if_neg h1]
      exact PQ.bad h (by decide) []

theorem pword_callK {s : List UInt8} (hs : s.length ≤ 140737488351232) {σ : PR Nat} {q : PSt} (h : PS s σ q) {dst : Option Nat} {ops : List AOper} {K : St → Prop} {t : Fr} {m : Mem} {n : Nat} (hm0 : mget m 0 = some (parC q)) (hm1 : mget m 1 = some (lexQ s q))
    (hk : ∀ x q', PQ s (thn σ (tWord.run s)) x q' → runOps Tryd.prog ops ⟨putF t dst (.d (.str x)), mset (mset m 0 (parC q')) 1 (lexQ s q'), n + 2⟩ K) : callK Tryd.prog 46 [.ptr 0 0] dst ops K t m n := by
  refine par_callK (rest := []) (Q := fun r q' => ∃ x, r = .d (.str x) ∧ PQ s (thn σ (tWord.run s)) x q') (pword_calls hs h) rfl ?_ hm0 hm1 ?_
  · rintro _ _ ⟨_, rfl, _⟩; rfl
  · rintro _ q' ⟨x, rfl, h⟩; exact hk x q' h

set_option maxHeartbeats 4000000 in
theorem pnum_calls {s : List UInt8} (hs : s.length ≤ 140737488351232) {σ : PR Nat} {q : PSt} (h : PS s σ q) :
    ACalls Tryd.prog 74 [.ptr 0 0] [(0, parC q), (1, lexQ s q)] fun r m' => ∃ q', m' = [(0, parC q'), (1, lexQ s q')] ∧ ∃ x, r = .d (.int .i64 x) ∧ PQ s (thn σ (tNum.run s)) x q' := by
  have hp := h.pos
  have kp := parse_pure (s := q.tok.tx) (by omega)
  refine acalls_of Tryd.func74 ac74_ok Tryd.ntmps74 Tryd.results74 rfl ?_
  unfold ac74
  refine bwp_seq fun K hK => bwp_region rfl ?_
  simp -implicitDefEqProofs only [go_sem, ↓reduceIte, Nat.reduceEqDiff, Nat.reduceAdd, Nat.reduceLeDiff, Nat.reduceMul, Nat.reduceSub, Int.reduceLE, Int.reduceLT, Int.reduceEq, Int.reduceToNat, Int.reducePow, Int.reduceNeg]
  refine hK _ ?_; clear hK
  refine bwp_seq fun K1 hK1 => ?_
  by_cases h1 : q.tok.kd = 2
  · refine bwp_seq fun K hK => bwp_region rfl ?_
    simp -implicitDefEqProofs only [go_sem, ↓reduceIte, Nat.reduceEqDiff, Nat.reduceAdd, Nat.reduceLeDiff, Nat.reduceMul, Nat.reduceSub, Int.reduceLE, Int.reduceLT, Int.reduceEq, Int.reduceToNat, Int.reducePow, Int.reduceNeg, parC, eq_true h1]
    refine hK _ ?_; clear hK
    refine bwp_cond false (by simp [ev, fget]) (fun h => nomatch h) (fun _ => ?_)
    refine bwp_skip ?_
    refine hK1 _ ?_; clear hK1
    refine bwp_seq fun K1 hK1 => ?_
    refine bwp_seq fun K hK => bwp_region rfl ?_
    simp -implicitDefEqProofs only [go_sem, ↓reduceIte, Nat.reduceEqDiff, Nat.reduceAdd, Nat.reduceLeDiff, Nat.reduceMul, Nat.reduceSub, Int.reduceLE, Int.reduceLT, Int.reduceEq, Int.reduceToNat, Int.reducePow, Int.reduceNeg]
    refine pok_callK s q rfl rfl ?_
    cases σ with
    | error e =>
      have hc := h.codeE
      simp -implicitDefEqProofs only [go_sem, ↓reduceIte, Nat.reduceEqDiff, Nat.reduceAdd, Nat.reduceLeDiff, Nat.reduceMul, Nat.reduceSub, Int.reduceLE, Int.reduceLT, Int.reduceEq, Int.reduceToNat, Int.reducePow, Int.reduceNeg, mset, hc]
      refine hK _ ?_; clear hK
      refine bwp_cond true (by simp [ev, fget]) (fun _ => ?_) (fun h => nomatch h)
      refine bwp_seq fun K hK => bwp_region rfl ?_
      simp -implicitDefEqProofs only [go_sem, ↓reduceIte, Nat.reduceEqDiff, Nat.reduceAdd, Nat.reduceLeDiff, Nat.reduceMul, Nat.reduceSub, Int.reduceLE, Int.reduceLT, Int.reduceEq, Int.reduceToNat, Int.reducePow, Int.reduceNeg]
      refine hK _ ?_; clear hK
      refine bwp_ret ?_
      simp only [go_sem]
      refine aend_mem (.d (.int .i64 0)) [(0, 0), (1, 1)] [(0, parC q), (1, lexQ s q)] ?_ rfl rfl ?_ ⟨q, rfl, 0, rfl, h⟩
      · simp [resA, resVs, resV, fget]
      · simp [entM, pinv, mget, mset, renL, AV.ren, parC, lexQ, lexC, pget]
    | ok a =>
      have hc := h.code
      simp -implicitDefEqProofs only [go_sem, ↓reduceIte, Nat.reduceEqDiff, Nat.reduceAdd, Nat.reduceLeDiff, Nat.reduceMul, Nat.reduceSub, Int.reduceLE, Int.reduceLT, Int.reduceEq, Int.reduceToNat, Int.reducePow, Int.reduceNeg, mset, hc]
      refine hK _ ?_; clear hK
      refine bwp_cond false (by simp [ev, fget]) (fun h => nomatch h) (fun _ => ?_)
      refine bwp_skip ?_
      refine hK1 _ ?_; clear hK1
      refine bwp_seq fun K hK => bwp_region rfl ?_
      simp -implicitDefEqProofs only [go_sem, ↓reduceIte, Nat.reduceEqDiff, Nat.reduceAdd, Nat.reduceLeDiff, Nat.reduceMul, Nat.reduceSub, Int.reduceLE, Int.reduceLT, Int.reduceEq, Int.reduceToNat, Int.reducePow, Int.reduceNeg, parC]
      repeat' (first
        | (refine gateK_split (fun hb => ?_) (fun hb => ?_) <;> simp -implicitDefEqProofs only [go_sem, ↓reduceIte, Nat.reduceEqDiff, Nat.reduceAdd, Nat.reduceLeDiff, Nat.reduceMul, Nat.reduceSub, Int.reduceLE, Int.reduceLT, Int.reduceEq, Int.reduceToNat, Int.reducePow, Int.reduceNeg, hb])
        | (refine dGateK_split (fun hb => ?_) (fun hb => ?_) <;> simp -implicitDefEqProofs only [go_sem, ↓reduceIte, Nat.reduceEqDiff, Nat.reduceAdd, Nat.reduceLeDiff, Nat.reduceMul, Nat.reduceSub, Int.reduceLE, Int.reduceLT, Int.reduceEq, Int.reduceToNat, Int.reducePow, Int.reduceNeg, hb])
        | (refine callK_pure (kp) rfl rfl ?_; simp -implicitDefEqProofs only [go_sem, ↓reduceIte, Nat.reduceEqDiff, Nat.reduceAdd, Nat.reduceLeDiff, Nat.reduceMul, Nat.reduceSub, Int.reduceLE, Int.reduceLT, Int.reduceEq, Int.reduceToNat, Int.reducePow, Int.reduceNeg])
        | (refine dCallK_pure (kp) rfl rfl ?_; simp -implicitDefEqProofs only [go_sem, ↓reduceIte, Nat.reduceEqDiff, Nat.reduceAdd, Nat.reduceLeDiff, Nat.reduceMul, Nat.reduceSub, Int.reduceLE, Int.reduceLT, Int.reduceEq, Int.reduceToNat, Int.reducePow, Int.reduceNeg])
        | (rw [if_pos (by (try simp only [List.length_append, List.length_cons, List.length_nil, List.length_map]); omega)]; simp -implicitDefEqProofs only [go_sem, ↓reduceIte, Nat.reduceEqDiff, Nat.reduceAdd, Nat.reduceLeDiff, Nat.reduceMul, Nat.reduceSub, Int.reduceLE, Int.reduceLT, Int.reduceEq, Int.reduceToNat, Int.reducePow, Int.reduceNeg]))
      refine hK _ ?_; clear hK
      refine bwp_seq fun K hK => bwp_region rfl ?_
      simp -implicitDefEqProofs only [go_sem, ↓reduceIte, Nat.reduceEqDiff, Nat.reduceAdd, Nat.reduceLeDiff, Nat.reduceMul, Nat.reduceSub, Int.reduceLE, Int.reduceLT, Int.reduceEq, Int.reduceToNat, Int.reducePow, Int.reduceNeg]
      refine pnext_callK hs h rfl rfl ?_
      intro q' hq'
      simp -implicitDefEqProofs only [go_sem, ↓reduceIte, Nat.reduceEqDiff, Nat.reduceAdd, Nat.reduceLeDiff, Nat.reduceMul, Nat.reduceSub, Int.reduceLE, Int.reduceLT, Int.reduceEq, Int.reduceToNat, Int.reducePow, Int.reduceNeg, mset]
      refine hK _ ?_; clear hK
      refine bwp_seq fun K hK => bwp_region rfl ?_
      simp -implicitDefEqProofs only [go_sem, ↓reduceIte, Nat.reduceEqDiff, Nat.reduceAdd, Nat.reduceLeDiff, Nat.reduceMul, Nat.reduceSub, Int.reduceLE, Int.reduceLT, Int.reduceEq, Int.reduceToNat, Int.reducePow, Int.reduceNeg]
      refine hK _ ?_; clear hK
      refine bwp_ret ?_
      simp only [go_sem]
      refine aend_mem (.d (.int .i64 (parseW q.tok.tx).1)) [(0, 0), (1, 1)] [(0, parC q'), (1, lexQ s q')] ?_ rfl rfl ?_ ⟨q', rfl, _, rfl, ?_⟩
      · simp [resA, resVs, resV, fget]
      · simp [entM, pinv, mget, mset, renL, AV.ren, parC, lexQ, lexC, pget]
      · refine PQ.cur h ?_
        rw [if_pos h1]
        exact PQ.eat (PQ.ret hq')
  · refine bwp_seq fun K hK => bwp_region rfl ?_
    simp -implicitDefEqProofs only [go_sem, ↓reduceIte, Nat.reduceEqDiff, Nat.reduceAdd, Nat.reduceLeDiff, Nat.reduceMul, Nat.reduceSub, Int.reduceLE, Int.reduceLT, Int.reduceEq, Int.reduceToNat, Int.reducePow, Int.reduceNeg, parC, eq_false h1]
    refine hK _ ?_; clear hK
    refine bwp_cond true (by simp [ev, fget]) (fun _ => ?_) (fun h => nomatch h)
    refine bwp_region rfl ?_
    simp -implicitDefEqProofs only [go_sem, ↓reduceIte, Nat.reduceEqDiff, Nat.reduceAdd, Nat.reduceLeDiff, Nat.reduceMul, Nat.reduceSub, Int.reduceLE, Int.reduceLT, Int.reduceEq, Int.reduceToNat, Int.reducePow, Int.reduceNeg]
    refine pfail_callK s q 6 rfl rfl ?_
    have hc : (failF q 6).code ≠ 0 := failF_code (by decide)
    simp -implicitDefEqProofs only [go_sem, ↓reduceIte, Nat.reduceEqDiff, Nat.reduceAdd, Nat.reduceLeDiff, Nat.reduceMul, Nat.reduceSub, Int.reduceLE, Int.reduceLT, Int.reduceEq, Int.reduceToNat, Int.reducePow, Int.reduceNeg, mset]
    refine hK1 _ ?_; clear hK1
    refine bwp_seq fun K1 hK1 => ?_
    refine bwp_seq fun K hK => bwp_region rfl ?_
    simp -implicitDefEqProofs only [go_sem, ↓reduceIte, Nat.reduceEqDiff, Nat.reduceAdd, Nat.reduceLeDiff, Nat.reduceMul, Nat.reduceSub, Int.reduceLE, Int.reduceLT, Int.reduceEq, Int.reduceToNat, Int.reducePow, Int.reduceNeg]
    refine pok_callK s (failF q 6) rfl rfl ?_
    simp -implicitDefEqProofs only [go_sem, ↓reduceIte, Nat.reduceEqDiff, Nat.reduceAdd, Nat.reduceLeDiff, Nat.reduceMul, Nat.reduceSub, Int.reduceLE, Int.reduceLT, Int.reduceEq, Int.reduceToNat, Int.reducePow, Int.reduceNeg, mset, hc]
    refine hK _ ?_; clear hK
    refine bwp_cond true (by simp [ev, fget]) (fun _ => ?_) (fun h => nomatch h)
    refine bwp_seq fun K hK => bwp_region rfl ?_
    simp -implicitDefEqProofs only [go_sem, ↓reduceIte, Nat.reduceEqDiff, Nat.reduceAdd, Nat.reduceLeDiff, Nat.reduceMul, Nat.reduceSub, Int.reduceLE, Int.reduceLT, Int.reduceEq, Int.reduceToNat, Int.reducePow, Int.reduceNeg]
    refine hK _ ?_; clear hK
    refine bwp_ret ?_
    simp only [go_sem]
    refine aend_mem (.d (.int .i64 0)) [(0, 0), (1, 1)] [(0, parC (failF q 6)), (1, lexQ s (failF q 6))] ?_ rfl rfl ?_ ⟨_, rfl, 0, rfl, ?_⟩
    · simp [resA, resVs, resV, fget]
    · simp [entM, pinv, mget, mset, renL, AV.ren, parC, lexQ, lexC, pget]
    · refine PQ.cur h ?_
      rw [if_neg h1]
      exact PQ.bad h (by decide) 0

theorem pnum_callK {s : List UInt8} (hs : s.length ≤ 140737488351232) {σ : PR Nat} {q : PSt} (h : PS s σ q) {dst : Option Nat} {ops : List AOper} {K : St → Prop} {t : Fr} {m : Mem} {n : Nat} (hm0 : mget m 0 = some (parC q)) (hm1 : mget m 1 = some (lexQ s q))
    (hk : ∀ x q', PQ s (thn σ (tNum.run s)) x q' → runOps Tryd.prog ops ⟨putF t dst (.d (.int .i64 x)), mset (mset m 0 (parC q')) 1 (lexQ s q'), n + 2⟩ K) : callK Tryd.prog 74 [.ptr 0 0] dst ops K t m n := by
  refine par_callK (rest := []) (Q := fun r q' => ∃ x, r = .d (.int .i64 x) ∧ PQ s (thn σ (tNum.run s)) x q') (pnum_calls hs h) rfl ?_ hm0 hm1 ?_
  · rintro _ _ ⟨_, rfl, _⟩; rfl
  · rintro _ q' ⟨x, rfl, h⟩; exact hk x q' h

set_option maxHeartbeats 4000000 in
theorem pnamed_calls {s : List UInt8} (hs : s.length ≤ 140737488351232) {σ : PR Nat} {q : PSt} (h : PS s σ q) {g : Nat} (hg : goesB Tryd.prog g = true) {f : List UInt8 → Option Int} {v : List UInt8 → Int} (hv : ∀ x n, f x = some n → v x = n)
    (hp : ∀ x : List UInt8, x ≠ [] → Pure Tryd.prog g [.d (.str x)] (.tup [.d (.int .i64 (v x)), .d (.bool (f x).isSome)])) :
    ACalls Tryd.prog 72 [.ptr 0 0, .fn g []] [(0, parC q), (1, lexQ s q)] fun r m' => ∃ q', m' = [(0, parC q'), (1, lexQ s q')] ∧ ∃ x, r = .d (.int .i64 x) ∧ PQ s (thn σ ((tNamed f).run s)) x q' := by
  have hpos := h.pos
  refine acalls_of Tryd.func72 ac72_ok Tryd.ntmps72 Tryd.results72 rfl ?_
  unfold ac72
  refine bwp_seq fun K hK => bwp_region rfl ?_
  simp -implicitDefEqProofs only [go_sem, ↓reduceIte, Nat.reduceEqDiff, Nat.reduceAdd, Nat.reduceLeDiff, Nat.reduceMul, Nat.reduceSub, Int.reduceLE, Int.reduceLT, Int.reduceEq, Int.reduceToNat, Int.reducePow, Int.reduceNeg]
  refine hK _ ?_; clear hK
  refine bwp_seq fun K1 hK1 => ?_
  by_cases h1 : q.tok.kd = 1
  · have kp := hp q.tok.tx (hpos.1 h1)
    refine bwp_seq fun K hK => bwp_region rfl ?_
    simp -implicitDefEqProofs only [go_sem, ↓reduceIte, Nat.reduceEqDiff, Nat.reduceAdd, Nat.reduceLeDiff, Nat.reduceMul, Nat.reduceSub, Int.reduceLE, Int.reduceLT, Int.reduceEq, Int.reduceToNat, Int.reducePow, Int.reduceNeg, parC, eq_true h1]
    refine hK _ ?_; clear hK
    refine bwp_cond false (by simp [ev, fget]) (fun h => nomatch h) (fun _ => ?_)
    refine bwp_skip ?_
    refine hK1 _ ?_; clear hK1
    refine bwp_seq fun K hK => bwp_region rfl ?_
    simp -implicitDefEqProofs only [go_sem, ↓reduceIte, Nat.reduceEqDiff, Nat.reduceAdd, Nat.reduceLeDiff, Nat.reduceMul, Nat.reduceSub, Int.reduceLE, Int.reduceLT, Int.reduceEq, Int.reduceToNat, Int.reducePow, Int.reduceNeg]
    refine ⟨hg, ?_⟩
    refine callK_pure kp rfl rfl ?_
    simp -implicitDefEqProofs only [go_sem, ↓reduceIte, Nat.reduceEqDiff, Nat.reduceAdd, Nat.reduceLeDiff, Nat.reduceMul, Nat.reduceSub, Int.reduceLE, Int.reduceLT, Int.reduceEq, Int.reduceToNat, Int.reducePow, Int.reduceNeg]
    refine hK _ ?_; clear hK
    refine bwp_seq fun K1 hK1 => ?_
    cases hf : f q.tok.tx with
    | none =>
      refine bwp_seq fun K hK => bwp_region rfl ?_
      simp -implicitDefEqProofs only [go_sem, ↓reduceIte, Nat.reduceEqDiff, Nat.reduceAdd, Nat.reduceLeDiff, Nat.reduceMul, Nat.reduceSub, Int.reduceLE, Int.reduceLT, Int.reduceEq, Int.reduceToNat, Int.reducePow, Int.reduceNeg, Option.isSome_none]
      refine hK _ ?_; clear hK
      refine bwp_cond true (by simp [ev, fget]) (fun _ => ?_) (fun h => nomatch h)
      refine bwp_seq fun K hK => bwp_region rfl ?_
      simp -implicitDefEqProofs only [go_sem, ↓reduceIte, Nat.reduceEqDiff, Nat.reduceAdd, Nat.reduceLeDiff, Nat.reduceMul, Nat.reduceSub, Int.reduceLE, Int.reduceLT, Int.reduceEq, Int.reduceToNat, Int.reducePow, Int.reduceNeg]
      refine pfail_callK s q 7 rfl rfl ?_
      simp -implicitDefEqProofs only [go_sem, ↓reduceIte, Nat.reduceEqDiff, Nat.reduceAdd, Nat.reduceLeDiff, Nat.reduceMul, Nat.reduceSub, Int.reduceLE, Int.reduceLT, Int.reduceEq, Int.reduceToNat, Int.reducePow, Int.reduceNeg, mset]
      refine hK _ ?_; clear hK
      refine bwp_seq fun K hK => bwp_region rfl ?_
      simp -implicitDefEqProofs only [go_sem, ↓reduceIte, Nat.reduceEqDiff, Nat.reduceAdd, Nat.reduceLeDiff, Nat.reduceMul, Nat.reduceSub, Int.reduceLE, Int.reduceLT, Int.reduceEq, Int.reduceToNat, Int.reducePow, Int.reduceNeg]
      refine hK _ ?_; clear hK
      refine bwp_ret ?_
      simp only [go_sem]
      refine aend_mem (.d (.int .i64 0)) [(0, 0), (1, 1)] [(0, parC (failF q 7)), (1, lexQ s (failF q 7))] ?_ rfl rfl ?_ ⟨_, rfl, 0, rfl, ?_⟩
      · simp [resA, resVs, resV, fget]
      · simp [entM, pinv, mget, mset, renL, AV.ren, parC, lexQ, lexC, pget]
      · refine PQ.cur h ?_
        rw [if_pos h1, hf]
        exact PQ.bad h (by decide) 0
    | some n =>
      have hvn := hv _ _ hf
      refine bwp_seq fun K hK => bwp_region rfl ?_
      simp -implicitDefEqProofs only [go_sem, ↓reduceIte, Nat.reduceEqDiff, Nat.reduceAdd, Nat.reduceLeDiff, Nat.reduceMul, Nat.reduceSub, Int.reduceLE, Int.reduceLT, Int.reduceEq, Int.reduceToNat, Int.reducePow, Int.reduceNeg, Option.isSome_some]
      refine hK _ ?_; clear hK
      refine bwp_cond false (by simp [ev, fget]) (fun h => nomatch h) (fun _ => ?_)
      refine bwp_skip ?_
      refine hK1 _ ?_; clear hK1
      refine bwp_seq fun K hK => bwp_region rfl ?_
      simp -implicitDefEqProofs only [go_sem, ↓reduceIte, Nat.reduceEqDiff, Nat.reduceAdd, Nat.reduceLeDiff, Nat.reduceMul, Nat.reduceSub, Int.reduceLE, Int.reduceLT, Int.reduceEq, Int.reduceToNat, Int.reducePow, Int.reduceNeg]
      refine pnext_callK hs h rfl rfl ?_
      intro q' hq'
      simp -implicitDefEqProofs only [go_sem, ↓reduceIte, Nat.reduceEqDiff, Nat.reduceAdd, Nat.reduceLeDiff, Nat.reduceMul, Nat.reduceSub, Int.reduceLE, Int.reduceLT, Int.reduceEq, Int.reduceToNat, Int.reducePow, Int.reduceNeg, mset]
      refine hK _ ?_; clear hK
      refine bwp_seq fun K hK => bwp_region rfl ?_
      simp -implicitDefEqProofs only [go_sem, ↓reduceIte, Nat.reduceEqDiff, Nat.reduceAdd, Nat.reduceLeDiff, Nat.reduceMul, Nat.reduceSub, Int.reduceLE, Int.reduceLT, Int.reduceEq, Int.reduceToNat, Int.reducePow, Int.reduceNeg]
      refine hK _ ?_; clear hK
      refine bwp_ret ?_
      simp only [go_sem]
      refine aend_mem (.d (.int .i64 n)) [(0, 0), (1, 1)] [(0, parC q'), (1, lexQ s q')] ?_ rfl rfl ?_ ⟨q', rfl, n, rfl, ?_⟩
      · simp [resA, resVs, resV, fget, hvn]
      · simp [entM, pinv, mget, mset, renL, AV.ren, parC, lexQ, lexC, pget]
      · refine PQ.cur h ?_
        rw [if_pos h1, hf]
        exact PQ.eat (PQ.ret hq')
  · refine bwp_seq fun K hK => bwp_region rfl ?_
    simp -implicitDefEqProofs only [go_sem, ↓reduceIte, Nat.reduceEqDiff, Nat.reduceAdd, Nat.reduceLeDiff, Nat.reduceMul, Nat.reduceSub, Int.reduceLE, Int.reduceLT, Int.reduceEq, Int.reduceToNat, Int.reducePow, Int.reduceNeg, parC, eq_false h1]
    refine hK _ ?_; clear hK
    refine bwp_cond true (by simp [ev, fget]) (fun _ => ?_) (fun h => nomatch h)
    refine bwp_seq fun K hK => bwp_region rfl ?_
    simp -implicitDefEqProofs only [go_sem, ↓reduceIte, Nat.reduceEqDiff, Nat.reduceAdd, Nat.reduceLeDiff, Nat.reduceMul, Nat.reduceSub, Int.reduceLE, Int.reduceLT, Int.reduceEq, Int.reduceToNat, Int.reducePow, Int.reduceNeg]
    refine pfail_callK s q 6 rfl rfl ?_
    simp -implicitDefEqProofs only [go_sem, ↓reduceIte, Nat.reduceEqDiff, Nat.reduceAdd, Nat.reduceLeDiff, Nat.reduceMul, Nat.reduceSub, Int.reduceLE, Int.reduceLT, Int.reduceEq, Int.reduceToNat, Int.reducePow, Int.reduceNeg, mset]
    refine hK _ ?_; clear hK
    refine bwp_seq fun K hK => bwp_region rfl ?_
    simp -implicitDefEqProofs only [go_sem, ↓reduceIte, Nat.reduceEqDiff, Nat.reduceAdd, Nat.reduceLeDiff, Nat.reduceMul, Nat.reduceSub, Int.reduceLE, Int.reduceLT, Int.reduceEq, Int.reduceToNat, Int.reducePow, Int.reduceNeg]
    refine hK _ ?_; clear hK
    refine bwp_ret ?_
    simp only [go_sem]
    refine aend_mem (.d (.int .i64 0)) [(0, 0), (1, 1)] [(0, parC (failF q 6)), (1, lexQ s (failF q 6))] ?_ rfl rfl ?_ ⟨_, rfl, 0, rfl, ?_⟩
    · simp [resA, resVs, resV, fget]
    · simp [entM, pinv, mget, mset, renL, AV.ren, parC, lexQ, lexC, pget]
    · refine PQ.cur h ?_
      rw [if_neg h1]
      exact PQ.bad h (by decide) 0

theorem isLoc1_pure {x : List UInt8} (hx : x ≠ []) : Pure Tryd.prog 73 [.d (.str x)] (.tup [.d (.int .i64 ((x.getD 0 0).toNat : Int)), .d (.bool (locN x).isSome)]) := by
  have hl : 0 < x.length := List.length_pos_iff.2 hx
  have hl' : (0 : Int) < x.length := by omega
  have hb : ((x.getD 0 0).toNat : Int) < 256 := by have := (x.getD 0 0).toNat_lt; omega
  have hw : IntKind.i64.wrap ((x.getD 0 0).toNat : Int) = ((x.getD 0 0).toNat : Int) := wrap_i64 (by omega) (by omega)
  refine acalls_of Tryd.func73 ac73_ok Tryd.ntmps73 Tryd.results73 rfl ?_
  unfold ac73
  refine bwp_seq fun K hK => bwp_region rfl ?_
  simp -implicitDefEqProofs only [go_sem, ↓reduceIte, Nat.reduceEqDiff, Nat.reduceAdd, Nat.reduceLeDiff, Nat.reduceMul, Nat.reduceSub, Int.reduceLE, Int.reduceLT, Int.reduceEq, Int.reduceToNat, Int.reducePow, Int.reduceNeg]
  refine hK _ ?_; clear hK
  refine bwp_seq fun K hK => bwp_region rfl ?_
  simp -implicitDefEqProofs only [go_sem, ↓reduceIte, Nat.reduceEqDiff, Nat.reduceAdd, Nat.reduceLeDiff, Nat.reduceMul, Nat.reduceSub, Int.reduceLE, Int.reduceLT, Int.reduceEq, Int.reduceToNat, Int.reducePow, Int.reduceNeg, hl', hw]
  refine hK _ ?_; clear hK
  refine bwp_ret ?_
  simp -implicitDefEqProofs only [go_sem, ↓reduceIte, Nat.reduceEqDiff, Nat.reduceAdd, Nat.reduceLeDiff, Nat.reduceMul, Nat.reduceSub, Int.reduceLE, Int.reduceLT, Int.reduceEq, Int.reduceToNat, Int.reducePow, Int.reduceNeg]
  refine aend_ret (.tup [.d (.int .i64 ((x.getD 0 0).toNat : Int)), .d (.bool (locN x).isSome)]) ?_ rfl ⟨rfl, rfl⟩
  by_cases h1 : x.length = 1
  · have : (x.length : Int) = 1 := by omega
    simp [resA, resVs, resV, fget, locN, h1]
  · have : ¬ (x.length : Int) = 1 := by omega
    simp [resA, resVs, resV, fget, locN, h1, this]

theorem ploc_callK {s : List UInt8} (hs : s.length ≤ 140737488351232) {σ : PR Nat} {q : PSt} (h : PS s σ q) {dst : Option Nat} {ops : List AOper} {K : St → Prop} {t : Fr} {m : Mem} {n : Nat} (hm0 : mget m 0 = some (parC q)) (hm1 : mget m 1 = some (lexQ s q))
    (hk : ∀ x q', PQ s (thn σ ((tNamed locN).run s)) x q' → runOps Tryd.prog ops ⟨putF t dst (.d (.int .i64 x)), mset (mset m 0 (parC q')) 1 (lexQ s q'), n + 2⟩ K) : callK Tryd.prog 72 [.ptr 0 0, .fn 73 []] dst ops K t m n := by
  refine par_callK (rest := [.fn 73 []]) (Q := fun r q' => ∃ x, r = .d (.int .i64 x) ∧ PQ s (thn σ ((tNamed locN).run s)) x q') (pnamed_calls hs h (f := locN) (v := fun x => ((x.getD 0 0).toNat : Int)) (by kernel_rfl) (fun x n hn => by
    unfold locN at hn
    split at hn
    · exact Option.some.inj hn
    · cases hn) (fun x hx => isLoc1_pure hx)) rfl ?_ hm0 hm1 ?_
  · rintro _ _ ⟨_, rfl, _⟩; rfl
  · rintro _ q' ⟨x, rfl, h⟩; exact hk x q' h

set_option maxHeartbeats 4000000 in
theorem isReg1_pure (x : List UInt8) : Pure Tryd.prog 92 [.d (.str x)] (.tup [.d (.int .i64 ((regN x).getD 0)), .d (.bool (regN x).isSome)]) := by
  have key : ∀ (c k : UInt8), ((c.toNat : Int) = (k.toNat : Int)) ↔ c = k := fun c k => ⟨u8eq, fun h => by rw [h]⟩
  refine acalls_of Tryd.func92 ac92_ok Tryd.ntmps92 Tryd.results92 rfl ?_
  unfold ac92
  refine bwp_seq fun K hK => bwp_region rfl ?_
  simp -implicitDefEqProofs only [go_sem, ↓reduceIte, Nat.reduceEqDiff, Nat.reduceAdd, Nat.reduceLeDiff, Nat.reduceMul, Nat.reduceSub, Int.reduceLE, Int.reduceLT, Int.reduceEq, Int.reduceToNat, Int.reducePow, Int.reduceNeg]
  refine hK _ ?_; clear hK
  refine bwp_seq fun K1 hK1 => ?_
  by_cases h2 : x.length = 2
  · have h2' : (x.length : Int) = 2 := by omega
    have i0 : (0 : Int) < x.length := by omega
    have i1 : (1 : Int) < x.length := by omega
    by_cases hr : ((x.getD 0 0).toNat : Int) = 114
    · by_cases hlo : ((x.getD 1 0).toNat : Int) < 48
      · have hn : regN x = none := by unfold regN; rw [if_neg (by omega)]
        refine bwp_seq fun K hK => bwp_region rfl ?_
        simp -implicitDefEqProofs only [go_sem, ↓reduceIte, Nat.reduceEqDiff, Nat.reduceAdd, Nat.reduceLeDiff, Nat.reduceMul, Nat.reduceSub, Int.reduceLE, Int.reduceLT, Int.reduceEq, Int.reduceToNat, Int.reducePow, Int.reduceNeg, h2', i0, i1, hr, hlo]
        refine hK _ ?_; clear hK
        refine bwp_cond true (by simp [ev, fget]) (fun _ => ?_) (fun h => nomatch h)
        refine bwp_seq fun K hK => bwp_region rfl ?_
        simp -implicitDefEqProofs only [go_sem, ↓reduceIte, Nat.reduceEqDiff, Nat.reduceAdd, Nat.reduceLeDiff, Nat.reduceMul, Nat.reduceSub, Int.reduceLE, Int.reduceLT, Int.reduceEq, Int.reduceToNat, Int.reducePow, Int.reduceNeg]
        refine hK _ ?_; clear hK
        refine bwp_ret ?_
        simp -implicitDefEqProofs only [go_sem, ↓reduceIte, Nat.reduceEqDiff, Nat.reduceAdd, Nat.reduceLeDiff, Nat.reduceMul, Nat.reduceSub, Int.reduceLE, Int.reduceLT, Int.reduceEq, Int.reduceToNat, Int.reducePow, Int.reduceNeg]
        refine aend_ret _ rfl rfl ⟨?_, rfl⟩
        simp [fget, hn]
      · by_cases hhi : (51 : Int) < (x.getD 1 0).toNat
        · have hn : regN x = none := by unfold regN; rw [if_neg (by omega)]
          refine bwp_seq fun K hK => bwp_region rfl ?_
          simp -implicitDefEqProofs only [go_sem, ↓reduceIte, Nat.reduceEqDiff, Nat.reduceAdd, Nat.reduceLeDiff, Nat.reduceMul, Nat.reduceSub, Int.reduceLE, Int.reduceLT, Int.reduceEq, Int.reduceToNat, Int.reducePow, Int.reduceNeg, h2', i0, i1, hr, hlo, hhi]
          refine hK _ ?_; clear hK
          refine bwp_cond true (by simp [ev, fget]) (fun _ => ?_) (fun h => nomatch h)
          refine bwp_seq fun K hK => bwp_region rfl ?_
          simp -implicitDefEqProofs only [go_sem, ↓reduceIte, Nat.reduceEqDiff, Nat.reduceAdd, Nat.reduceLeDiff, Nat.reduceMul, Nat.reduceSub, Int.reduceLE, Int.reduceLT, Int.reduceEq, Int.reduceToNat, Int.reducePow, Int.reduceNeg]
          refine hK _ ?_; clear hK
          refine bwp_ret ?_
          simp -implicitDefEqProofs only [go_sem, ↓reduceIte, Nat.reduceEqDiff, Nat.reduceAdd, Nat.reduceLeDiff, Nat.reduceMul, Nat.reduceSub, Int.reduceLE, Int.reduceLT, Int.reduceEq, Int.reduceToNat, Int.reducePow, Int.reduceNeg]
          refine aend_ret _ rfl rfl ⟨?_, rfl⟩
          simp [fget, hn]
        · have hn : regN x = some (((x.getD 1 0).toNat - 48 : Nat) : Int) := by
            unfold regN
            rw [if_pos ⟨h2, u8eq (k := 114) hr, by omega, by omega⟩]
          have hand : IntKind.i64.wrap (bits .and .u8 ((x.getD 1 0).toNat : Int) 3) = (((x.getD 1 0).toNat - 48 : Nat) : Int) := by
            have h4 : x.getD 1 0 = 48 ∨ x.getD 1 0 = 49 ∨ x.getD 1 0 = 50 ∨ x.getD 1 0 = 51 := by
              have k1 := key (x.getD 1 0) 48
              have k2 := key (x.getD 1 0) 49
              have k3 := key (x.getD 1 0) 50
              have k4 := key (x.getD 1 0) 51
              simp only [UInt8.reduceToNat, Int.cast_ofNat_Int] at k1 k2 k3 k4
              rw [← k1, ← k2, ← k3, ← k4]
              omega
            rcases h4 with h | h | h | h <;> rw [h] <;> decide
          refine bwp_seq fun K hK => bwp_region rfl ?_
          simp -implicitDefEqProofs only [go_sem, ↓reduceIte, Nat.reduceEqDiff, Nat.reduceAdd, Nat.reduceLeDiff, Nat.reduceMul, Nat.reduceSub, Int.reduceLE, Int.reduceLT, Int.reduceEq, Int.reduceToNat, Int.reducePow, Int.reduceNeg, h2', i0, i1, hr, hlo, hhi]
          refine hK _ ?_; clear hK
          refine bwp_cond false (by simp [ev, fget]) (fun h => nomatch h) (fun _ => ?_)
          refine bwp_skip ?_
          refine hK1 _ ?_; clear hK1
          refine bwp_seq fun K hK => bwp_region rfl ?_
          simp -implicitDefEqProofs only [go_sem, ↓reduceIte, Nat.reduceEqDiff, Nat.reduceAdd, Nat.reduceLeDiff, Nat.reduceMul, Nat.reduceSub, Int.reduceLE, Int.reduceLT, Int.reduceEq, Int.reduceToNat, Int.reducePow, Int.reduceNeg, i1, hand]
          refine hK _ ?_; clear hK
          refine bwp_ret ?_
          simp -implicitDefEqProofs only [go_sem, ↓reduceIte, Nat.reduceEqDiff, Nat.reduceAdd, Nat.reduceLeDiff, Nat.reduceMul, Nat.reduceSub, Int.reduceLE, Int.reduceLT, Int.reduceEq, Int.reduceToNat, Int.reducePow, Int.reduceNeg]
          refine aend_ret _ rfl rfl ⟨?_, rfl⟩
          simp [fget, hn]
    · have hn : regN x = none := by unfold regN; rw [if_neg (fun h => hr (by rw [h.2.1]; rfl))]
      refine bwp_seq fun K hK => bwp_region rfl ?_
      simp -implicitDefEqProofs only [go_sem, ↓reduceIte, Nat.reduceEqDiff, Nat.reduceAdd, Nat.reduceLeDiff, Nat.reduceMul, Nat.reduceSub, Int.reduceLE, Int.reduceLT, Int.reduceEq, Int.reduceToNat, Int.reducePow, Int.reduceNeg, h2', i0, i1, hr]
      refine hK _ ?_; clear hK
      refine bwp_cond true (by simp [ev, fget]) (fun _ => ?_) (fun h => nomatch h)
      refine bwp_seq fun K hK => bwp_region rfl ?_
      simp -implicitDefEqProofs only [go_sem, ↓reduceIte, Nat.reduceEqDiff, Nat.reduceAdd, Nat.reduceLeDiff, Nat.reduceMul, Nat.reduceSub, Int.reduceLE, Int.reduceLT, Int.reduceEq, Int.reduceToNat, Int.reducePow, Int.reduceNeg]
      refine hK _ ?_; clear hK
      refine bwp_ret ?_
      simp -implicitDefEqProofs only [go_sem, ↓reduceIte, Nat.reduceEqDiff, Nat.reduceAdd, Nat.reduceLeDiff, Nat.reduceMul, Nat.reduceSub, Int.reduceLE, Int.reduceLT, Int.reduceEq, Int.reduceToNat, Int.reducePow, Int.reduceNeg]
      refine aend_ret _ rfl rfl ⟨?_, rfl⟩
      simp [fget, hn]
  · have h2' : ¬ (x.length : Int) = 2 := by omega
    have hn : regN x = none := by unfold regN; rw [if_neg (fun h => h2 h.1)]
    refine bwp_seq fun K hK => bwp_region rfl ?_
    simp -implicitDefEqProofs only [go_sem, ↓reduceIte, Nat.reduceEqDiff, Nat.reduceAdd, Nat.reduceLeDiff, Nat.reduceMul, Nat.reduceSub, Int.reduceLE, Int.reduceLT, Int.reduceEq, Int.reduceToNat, Int.reducePow, Int.reduceNeg, h2']
    refine hK _ ?_; clear hK
    refine bwp_cond true (by simp [ev, fget]) (fun _ => ?_) (fun h => nomatch h)
    refine bwp_seq fun K hK => bwp_region rfl ?_
    simp -implicitDefEqProofs only [go_sem, ↓reduceIte, Nat.reduceEqDiff, Nat.reduceAdd, Nat.reduceLeDiff, Nat.reduceMul, Nat.reduceSub, Int.reduceLE, Int.reduceLT, Int.reduceEq, Int.reduceToNat, Int.reducePow, Int.reduceNeg]
    refine hK _ ?_; clear hK
    refine bwp_ret ?_
    simp -implicitDefEqProofs only [go_sem, ↓reduceIte, Nat.reduceEqDiff, Nat.reduceAdd, Nat.reduceLeDiff, Nat.reduceMul, Nat.reduceSub, Int.reduceLE, Int.reduceLT, Int.reduceEq, Int.reduceToNat, Int.reducePow, Int.reduceNeg]
    refine aend_ret _ rfl rfl ⟨?_, rfl⟩
    simp [fget, hn]

theorem preg_callK {s : List UInt8} (hs : s.length ≤ 140737488351232) {σ : PR Nat} {q : PSt} (h : PS s σ q) {dst : Option Nat} {ops : List AOper} {K : St → Prop} {t : Fr} {m : Mem} {n : Nat} (hm0 : mget m 0 = some (parC q)) (hm1 : mget m 1 = some (lexQ s q))
    (hk : ∀ x q', PQ s (thn σ ((tNamed regN).run s)) x q' → runOps Tryd.prog ops ⟨putF t dst (.d (.int .i64 x)), mset (mset m 0 (parC q')) 1 (lexQ s q'), n + 2⟩ K) : callK Tryd.prog 72 [.ptr 0 0, .fn 92 []] dst ops K t m n := by
  refine par_callK (rest := [.fn 92 []]) (Q := fun r q' => ∃ x, r = .d (.int .i64 x) ∧ PQ s (thn σ ((tNamed regN).run s)) x q') (pnamed_calls hs h (f := regN) (v := fun x => (regN x).getD 0) (by kernel_rfl) (fun x n hn => by rw [hn]; rfl) (fun x _ => isReg1_pure x)) rfl ?_ hm0 hm1 ?_
  · rintro _ _ ⟨_, rfl, _⟩; rfl
  · rintro _ q' ⟨x, rfl, h⟩; exact hk x q' h

set_option maxHeartbeats 4000000 in
theorem popd_calls {s : List UInt8} (hs : s.length ≤ 140737488351232) {σ : PR Nat} {q : PSt} (h : PS s σ q) :
    ACalls Tryd.prog 91 [.ptr 0 0] [(0, parC q), (1, lexQ s q)] fun r m' => ∃ q', m' = [(0, parC q'), (1, lexQ s q')] ∧ ∃ x : Opnd, r = .agg (x.cells.map .d) ∧ PQ s (thn σ (tOpd.run s)) x q' := by
  have h84 : ldk Tryd.prog 84 = some (some 2) := by kernel_rfl
  refine acalls_of Tryd.func91 ac91_ok Tryd.ntmps91 Tryd.results91 rfl ?_
  unfold ac91
  refine bwp_seq fun K hK => bwp_region rfl ?_
  simp -implicitDefEqProofs only [go_sem, ↓reduceIte, Nat.reduceEqDiff, Nat.reduceAdd, Nat.reduceLeDiff, Nat.reduceMul, Nat.reduceSub, Int.reduceLE, Int.reduceLT, Int.reduceEq, Int.reduceToNat, Int.reducePow, Int.reduceNeg]
  refine hK _ ?_; clear hK
  refine bwp_seq fun K1 hK1 => ?_
  have no : ∀ (S : St), (q.code = 0 → q.tok.kd ≠ 2) → Leads 2 19 S ⟨[(0, .ptr 0 0), (2, .ptr 2 0)], [(0, parC q), (1, lexQ s q), (2, [.d (.int .i64 0), .d (.int .i64 0)])], 3⟩ → K1 S := by
    intro S hn hS
    refine hK1 _ ?_; clear hK1
    refine bwp_leads hS ?_
    refine bwp_seq fun K hK => bwp_region rfl ?_
    simp -implicitDefEqProofs only [go_sem, ↓reduceIte, Nat.reduceEqDiff, Nat.reduceAdd, Nat.reduceLeDiff, Nat.reduceMul, Nat.reduceSub, Int.reduceLE, Int.reduceLT, Int.reduceEq, Int.reduceToNat, Int.reducePow, Int.reduceNeg]
    refine preg_callK hs h rfl rfl ?_
    intro x q' hq'
    simp -implicitDefEqProofs only [go_sem, ↓reduceIte, Nat.reduceEqDiff, Nat.reduceAdd, Nat.reduceLeDiff, Nat.reduceMul, Nat.reduceSub, Int.reduceLE, Int.reduceLT, Int.reduceEq, Int.reduceToNat, Int.reducePow, Int.reduceNeg, mset]
    refine hK _ ?_; clear hK
    refine bwp_ret ?_
    simp only [go_sem]
    refine aend_mem (.agg (Opnd.cells ⟨x, 0⟩ |>.map .d)) [(0, 0), (1, 1)] [(0, parC q'), (1, lexQ s q')] ?_ rfl rfl ?_ ⟨q', rfl, ⟨x, 0⟩, rfl, ?_⟩
    · simp [resA, resVs, resV, fget, mget, mset, loadA, h84, Opnd.cells]
    · simp [entM, pinv, mget, mset, renL, AV.ren, parC, lexQ, lexC, pget]
    · cases σ with
      | error e => exact hq'
      | ok a =>
        refine PQ.cur h ?_
        rw [if_neg (hn h.code)]
        exact PQ.bind hq' (PQ.ret hq'.ps)
  refine bwp_seq fun K hK => bwp_region rfl ?_
  simp -implicitDefEqProofs only [go_sem, ↓reduceIte, Nat.reduceEqDiff, Nat.reduceAdd, Nat.reduceLeDiff, Nat.reduceMul, Nat.reduceSub, Int.reduceLE, Int.reduceLT, Int.reduceEq, Int.reduceToNat, Int.reducePow, Int.reduceNeg]
  refine pok_callK s q rfl rfl ?_
  by_cases hc : q.code = 0
  · by_cases h2 : q.tok.kd = 2
    · simp -implicitDefEqProofs only [go_sem, ↓reduceIte, Nat.reduceEqDiff, Nat.reduceAdd, Nat.reduceLeDiff, Nat.reduceMul, Nat.reduceSub, Int.reduceLE, Int.reduceLT, Int.reduceEq, Int.reduceToNat, Int.reducePow, Int.reduceNeg, mset, eq_true hc, eq_true h2, parC, decide_true]
      refine hK _ ?_; clear hK
      refine bwp_cond true (by simp [ev, fget]) (fun _ => ?_) (fun h => nomatch h)
      refine bwp_seq fun K hK => bwp_region rfl ?_
      simp -implicitDefEqProofs only [go_sem, ↓reduceIte, Nat.reduceEqDiff, Nat.reduceAdd, Nat.reduceLeDiff, Nat.reduceMul, Nat.reduceSub, Int.reduceLE, Int.reduceLT, Int.reduceEq, Int.reduceToNat, Int.reducePow, Int.reduceNeg]
      refine pnum_callK (q := q) hs h rfl rfl ?_
      intro x q' hq'
      simp -implicitDefEqProofs only [go_sem, ↓reduceIte, Nat.reduceEqDiff, Nat.reduceAdd, Nat.reduceLeDiff, Nat.reduceMul, Nat.reduceSub, Int.reduceLE, Int.reduceLT, Int.reduceEq, Int.reduceToNat, Int.reducePow, Int.reduceNeg, mset]
      refine hK _ ?_; clear hK
      refine bwp_ret ?_
      simp only [go_sem]
      refine aend_mem (.agg (Opnd.cells ⟨-1, x⟩ |>.map .d)) [(0, 0), (1, 1)] [(0, parC q'), (1, lexQ s q')] ?_ rfl rfl ?_ ⟨q', rfl, ⟨-1, x⟩, rfl, ?_⟩
      · simp [resA, resVs, resV, fget, mget, mset, loadA, h84, Opnd.cells]
      · simp [entM, pinv, mget, mset, renL, AV.ren, parC, lexQ, lexC, pget]
      · refine PQ.cur h ?_
        rw [if_pos h2]
        exact PQ.bind hq' (PQ.ret hq'.ps)
    · simp -implicitDefEqProofs only [go_sem, ↓reduceIte, Nat.reduceEqDiff, Nat.reduceAdd, Nat.reduceLeDiff, Nat.reduceMul, Nat.reduceSub, Int.reduceLE, Int.reduceLT, Int.reduceEq, Int.reduceToNat, Int.reducePow, Int.reduceNeg, mset, eq_true hc, eq_false h2, parC, decide_true]
      refine hK _ ?_; clear hK
      refine bwp_cond false (by simp [ev, fget]) (fun h => nomatch h) (fun _ => ?_)
      refine bwp_skip ?_
      refine no _ (fun _ => h2) ?_
      exact Leads.ent [(0, 0), (1, 1), (2, 2)] ⟨by simp [entT, fget, AV.ren, renL, pget], by simp [entM, pinv, mget, mset, renL, AV.ren, parC, lexQ, lexC, pget], rfl, rfl⟩
  · simp -implicitDefEqProofs only [go_sem, ↓reduceIte, Nat.reduceEqDiff, Nat.reduceAdd, Nat.reduceLeDiff, Nat.reduceMul, Nat.reduceSub, Int.reduceLE, Int.reduceLT, Int.reduceEq, Int.reduceToNat, Int.reducePow, Int.reduceNeg, mset, eq_false hc, parC, decide_false]
    refine hK _ ?_; clear hK
    refine bwp_cond false (by simp [ev, fget]) (fun h => nomatch h) (fun _ => ?_)
    refine bwp_skip ?_
    refine no _ (fun h0 => absurd h0 hc) ?_
    exact Leads.ent [(0, 0), (1, 1), (2, 2)] ⟨by simp [entT, fget, AV.ren, renL, pget], by simp [entM, pinv, mget, mset, renL, AV.ren, parC, lexQ, lexC, pget], rfl, rfl⟩

theorem opnd_in (x : Opnd) : inB (fun _ => none) (.agg (x.cells.map .d)) = true := rfl

theorem popd_callK {s : List UInt8} (hs : s.length ≤ 140737488351232) {σ : PR Nat} {q : PSt} (h : PS s σ q) {dst : Option Nat} {ops : List AOper} {K : St → Prop} {t : Fr} {m : Mem} {n : Nat} (hm0 : mget m 0 = some (parC q)) (hm1 : mget m 1 = some (lexQ s q))
    (hk : ∀ (x : Opnd) q', PQ s (thn σ (tOpd.run s)) x q' → runOps Tryd.prog ops ⟨putF t dst (.agg [.d (.int .i64 x.reg), .d (.int .i64 x.value)]), mset (mset m 0 (parC q')) 1 (lexQ s q'), n + 2⟩ K) : callK Tryd.prog 91 [.ptr 0 0] dst ops K t m n := by
  refine par_callK (rest := []) (Q := fun r q' => ∃ x : Opnd, r = .agg (x.cells.map .d) ∧ PQ s (thn σ (tOpd.run s)) x q') (popd_calls hs h) rfl ?_ hm0 hm1 ?_
  · rintro _ _ ⟨x, rfl, _⟩; exact opnd_in x
  · rintro _ q' ⟨x, rfl, h⟩; exact hk x q' h

end Go.Proofs.YtpfbljkfbjjlkaaDoor

/- The parser's instructions. -/
namespace Go.Proofs.YtpfbljkfbjjlkaaDoor
open Go Go.Jq
set_option maxRecDepth 100000
set_option linter.unusedSimpArgs false

theorem PQ.past_bad {α γ : Type} {s : List UInt8} {τ : PR Nat} {c : Int} {f : Nat → PR (γ × Nat)} {y : γ} {q' : PSt} (h : PQ s (thn (posR (thn τ ((PT.bad c : PT α).run s))) f) y q') : PQ s (thn τ ((PT.bad c : PT γ).run s)) y q' := by
  cases τ with
  | error e => exact h
  | ok a => exact h

def insC (x : Ins) : List AV := x.cells.map .d

set_option maxHeartbeats 16000000 in
theorem pright_calls {s : List UInt8} (hs : s.length ≤ 140737488351232) {σ : PR Nat} {q : PSt} (h : PS s σ q) (rg : Int) :
    ACalls Tryd.prog 93 [.ptr 0 0, .ptr 2 0] [(0, parC q), (1, lexQ s q), (2, insC ⟨0, rg, 0, ⟨0, 0⟩, 0, ⟨0, 0⟩, 0⟩)] fun r m' => ∃ q' x', m' = [(0, parC q'), (1, lexQ s q'), (2, insC x')] ∧ (r = .tup [] ∧ PQ s (thn σ ((tRight rg).run s)) x' q') := by
  refine acalls_of Tryd.func93 ac93_ok Tryd.ntmps93 Tryd.results93 rfl ?_
  unfold ac93
  refine bwp_block ?_
  have fin : ∀ (e : Exit) (t : Fr) (n : Nat) (q' : PSt) (x' : Ins), (e = .ret ∨ e = .normal) → PQ s (thn σ ((tRight rg).run s)) x' q' →
      AEnd Tryd.prog #[] 3 (fun r m' => ∃ q' x', m' = [(0, parC q'), (1, lexQ s q'), (2, insC x')] ∧ (r = .tup [] ∧ PQ s (thn σ ((tRight rg).run s)) x' q')) e ⟨t, [(0, parC q'), (1, lexQ s q'), (2, insC x')], n⟩ := by
    intro e t n q' x' he hq
    rcases he with rfl | rfl
    · refine ⟨.tup [], rfl, [(0, 0), (1, 1), (2, 2)], [(0, parC q'), (1, lexQ s q'), (2, insC x')], rfl, rfl, ?_, ⟨q', x', rfl, rfl, hq⟩⟩
      simp [entM, pinv, mget, mset, renL, AV.ren, parC, lexQ, lexC, pget, insC, Ins.cells]
    · refine ⟨.tup [], rfl, [(0, 0), (1, 1), (2, 2)], [(0, parC q'), (1, lexQ s q'), (2, insC x')], rfl, rfl, ?_, ⟨q', x', rfl, rfl, hq⟩⟩
      simp [entM, pinv, mget, mset, renL, AV.ren, parC, lexQ, lexC, pget, insC, Ins.cells]
  refine bwp_seq fun K hK => bwp_region rfl ?_
  simp -implicitDefEqProofs only [go_sem, ↓reduceIte, Nat.reduceEqDiff, Nat.reduceAdd, Nat.reduceLeDiff, Nat.reduceMul, Nat.reduceSub, Int.reduceLE, Int.reduceLT, Int.reduceEq, Int.reduceToNat, Int.reducePow, Int.reduceNeg]
  refine ptake_callK hs h [108, 111, 97, 100] rfl rfl ?_
  intro q1 hy hn
  cases hb1 : tkB q [108, 111, 97, 100] with
  | true =>
    have h1 := hy hb1
    simp -implicitDefEqProofs only [go_sem, ↓reduceIte, Nat.reduceEqDiff, Nat.reduceAdd, Nat.reduceLeDiff, Nat.reduceMul, Nat.reduceSub, Int.reduceLE, Int.reduceLT, Int.reduceEq, Int.reduceToNat, Int.reducePow, Int.reduceNeg, mset]
    refine hK _ ?_; clear hK
    refine bwp_cond true (by simp [ev, fget]) (fun _ => ?_) (fun h => nomatch h)
    refine bwp_region rfl ?_
    simp -implicitDefEqProofs only [go_sem, ↓reduceIte, Nat.reduceEqDiff, Nat.reduceAdd, Nat.reduceLeDiff, Nat.reduceMul, Nat.reduceSub, Int.reduceLE, Int.reduceLT, Int.reduceEq, Int.reduceToNat, Int.reducePow, Int.reduceNeg]
    refine ploc_callK hs h1 rfl rfl ?_
    intro l q2 h2
    simp -implicitDefEqProofs only [go_sem, ↓reduceIte, Nat.reduceEqDiff, Nat.reduceAdd, Nat.reduceLeDiff, Nat.reduceMul, Nat.reduceSub, Int.reduceLE, Int.reduceLT, Int.reduceEq, Int.reduceToNat, Int.reducePow, Int.reduceNeg, mset, insC, Ins.cells]
    refine fin .normal _ _ q2 ⟨2, rg, l, ⟨0, 0⟩, 0, ⟨0, 0⟩, 0⟩ (.inr rfl) ?_
    exact PQ.take_yes h hb1 (PQ.bind h2 (PQ.ret h2.ps))
  | false =>
    have h1 := hn hb1
    subst h1
    simp -implicitDefEqProofs only [go_sem, ↓reduceIte, Nat.reduceEqDiff, Nat.reduceAdd, Nat.reduceLeDiff, Nat.reduceMul, Nat.reduceSub, Int.reduceLE, Int.reduceLT, Int.reduceEq, Int.reduceToNat, Int.reducePow, Int.reduceNeg, mset]
    refine hK _ ?_; clear hK
    refine bwp_cond false (by simp [ev, fget]) (fun h => nomatch h) (fun _ => ?_)
    refine bwp_seq fun K hK => bwp_region rfl ?_
    simp -implicitDefEqProofs only [go_sem, ↓reduceIte, Nat.reduceEqDiff, Nat.reduceAdd, Nat.reduceLeDiff, Nat.reduceMul, Nat.reduceSub, Int.reduceLE, Int.reduceLT, Int.reduceEq, Int.reduceToNat, Int.reducePow, Int.reduceNeg]
    refine ptake_callK hs h [99, 97, 115] rfl rfl ?_
    intro q2 hy hn
    cases hb2 : tkB q1 [99, 97, 115] with
    | true =>
      have h2 := hy hb2
      simp -implicitDefEqProofs only [go_sem, ↓reduceIte, Nat.reduceEqDiff, Nat.reduceAdd, Nat.reduceLeDiff, Nat.reduceMul, Nat.reduceSub, Int.reduceLE, Int.reduceLT, Int.reduceEq, Int.reduceToNat, Int.reducePow, Int.reduceNeg, mset]
      refine hK _ ?_; clear hK
      refine bwp_cond true (by simp [ev, fget]) (fun _ => ?_) (fun h => nomatch h)
      refine bwp_seq fun K hK => bwp_region rfl ?_
      simp -implicitDefEqProofs only [go_sem, ↓reduceIte, Nat.reduceEqDiff, Nat.reduceAdd, Nat.reduceLeDiff, Nat.reduceMul, Nat.reduceSub, Int.reduceLE, Int.reduceLT, Int.reduceEq, Int.reduceToNat, Int.reducePow, Int.reduceNeg]
      refine ploc_callK hs h2 rfl rfl ?_
      intro l q3 h3
      simp -implicitDefEqProofs only [go_sem, ↓reduceIte, Nat.reduceEqDiff, Nat.reduceAdd, Nat.reduceLeDiff, Nat.reduceMul, Nat.reduceSub, Int.reduceLE, Int.reduceLT, Int.reduceEq, Int.reduceToNat, Int.reducePow, Int.reduceNeg, mset, insC, Ins.cells]
      refine hK _ ?_; clear hK
      refine bwp_seq fun K hK => bwp_region rfl ?_
      simp -implicitDefEqProofs only [go_sem, ↓reduceIte, Nat.reduceEqDiff, Nat.reduceAdd, Nat.reduceLeDiff, Nat.reduceMul, Nat.reduceSub, Int.reduceLE, Int.reduceLT, Int.reduceEq, Int.reduceToNat, Int.reducePow, Int.reduceNeg]
      refine popd_callK hs h3.ps rfl rfl ?_
      intro x q4 h4
      simp -implicitDefEqProofs only [go_sem, ↓reduceIte, Nat.reduceEqDiff, Nat.reduceAdd, Nat.reduceLeDiff, Nat.reduceMul, Nat.reduceSub, Int.reduceLE, Int.reduceLT, Int.reduceEq, Int.reduceToNat, Int.reducePow, Int.reduceNeg, mset]
      refine hK _ ?_; clear hK
      refine bwp_region rfl ?_
      simp -implicitDefEqProofs only [go_sem, ↓reduceIte, Nat.reduceEqDiff, Nat.reduceAdd, Nat.reduceLeDiff, Nat.reduceMul, Nat.reduceSub, Int.reduceLE, Int.reduceLT, Int.reduceEq, Int.reduceToNat, Int.reducePow, Int.reduceNeg]
      refine popd_callK hs h4.ps rfl rfl ?_
      intro y q5 h5
      simp -implicitDefEqProofs only [go_sem, ↓reduceIte, Nat.reduceEqDiff, Nat.reduceAdd, Nat.reduceLeDiff, Nat.reduceMul, Nat.reduceSub, Int.reduceLE, Int.reduceLT, Int.reduceEq, Int.reduceToNat, Int.reducePow, Int.reduceNeg, mset]
      refine fin .normal _ _ q5 ⟨4, rg, l, x, 0, y, 0⟩ (.inr rfl) ?_
      exact PQ.take_no h hb1 (PQ.take_yes h hb2 (PQ.bind h3 (PQ.bind h4 (PQ.bind h5 (PQ.ret h5.ps)))))
    | false =>
      have h2 := hn hb2
      subst h2
      simp -implicitDefEqProofs only [go_sem, ↓reduceIte, Nat.reduceEqDiff, Nat.reduceAdd, Nat.reduceLeDiff, Nat.reduceMul, Nat.reduceSub, Int.reduceLE, Int.reduceLT, Int.reduceEq, Int.reduceToNat, Int.reducePow, Int.reduceNeg, mset]
      refine hK _ ?_; clear hK
      refine bwp_cond false (by simp [ev, fget]) (fun h => nomatch h) (fun _ => ?_)
      refine bwp_seq fun K hK => bwp_region rfl ?_
      simp -implicitDefEqProofs only [go_sem, ↓reduceIte, Nat.reduceEqDiff, Nat.reduceAdd, Nat.reduceLeDiff, Nat.reduceMul, Nat.reduceSub, Int.reduceLE, Int.reduceLT, Int.reduceEq, Int.reduceToNat, Int.reducePow, Int.reduceNeg]
      refine popd_callK hs h rfl rfl ?_
      intro x q3 h3
      simp -implicitDefEqProofs only [go_sem, ↓reduceIte, Nat.reduceEqDiff, Nat.reduceAdd, Nat.reduceLeDiff, Nat.reduceMul, Nat.reduceSub, Int.reduceLE, Int.reduceLT, Int.reduceEq, Int.reduceToNat, Int.reducePow, Int.reduceNeg, mset, insC, Ins.cells]
      refine hK _ ?_; clear hK
      have stop : (q3.code = 0 → q3.tok.kd = 3 → (opW q3.tok.tx).2 = false) → PQ s (thn σ ((tRight rg).run s)) ⟨5, rg, 0, x, 0, ⟨-1, 0⟩, 0⟩ q3 := by
        intro hno
        refine PQ.take_no h hb1 (PQ.take_no h hb2 (PQ.bind h3 ?_))
        have h3' := h3.ps
        generalize posR (thn σ (tOpd.run s)) = τ at h3' ⊢
        cases τ with
        | error e => exact h3'
        | ok a =>
          refine PQ.cur h3' ?_
          rw [if_neg (fun hc => by rw [hno h3'.code hc.1] at hc; cases hc.2)]
          exact PQ.ret h3'
      refine bwp_seq fun K1 hK1 => ?_
      refine bwp_seq fun K hK => bwp_region rfl ?_
      simp -implicitDefEqProofs only [go_sem, ↓reduceIte, Nat.reduceEqDiff, Nat.reduceAdd, Nat.reduceLeDiff, Nat.reduceMul, Nat.reduceSub, Int.reduceLE, Int.reduceLT, Int.reduceEq, Int.reduceToNat, Int.reducePow, Int.reduceNeg]
      refine pok_callK s q3 rfl rfl ?_
      by_cases hc : q3.code = 0
      · by_cases hk : q3.tok.kd = 3
        · simp -implicitDefEqProofs only [go_sem, ↓reduceIte, Nat.reduceEqDiff, Nat.reduceAdd, Nat.reduceLeDiff, Nat.reduceMul, Nat.reduceSub, Int.reduceLE, Int.reduceLT, Int.reduceEq, Int.reduceToNat, Int.reducePow, Int.reduceNeg, mset, eq_true hc, eq_true hk, parC, decide_true]
          refine hK _ ?_; clear hK
          refine bwp_cond false (by simp [ev, fget]) (fun h => nomatch h) (fun _ => ?_)
          refine bwp_skip ?_
          refine hK1 _ ?_; clear hK1
          have hl := h3.ps.pos.2
          have kop := op_pure q3.tok.tx
          refine bwp_seq fun K hK => bwp_region rfl ?_
          simp -implicitDefEqProofs only [go_sem, ↓reduceIte, Nat.reduceEqDiff, Nat.reduceAdd, Nat.reduceLeDiff, Nat.reduceMul, Nat.reduceSub, Int.reduceLE, Int.reduceLT, Int.reduceEq, Int.reduceToNat, Int.reducePow, Int.reduceNeg]
          repeat' (first
            | (refine gateK_split (fun hb => ?_) (fun hb => ?_) <;> simp -implicitDefEqProofs only [go_sem, ↓reduceIte, Nat.reduceEqDiff, Nat.reduceAdd, Nat.reduceLeDiff, Nat.reduceMul, Nat.reduceSub, Int.reduceLE, Int.reduceLT, Int.reduceEq, Int.reduceToNat, Int.reducePow, Int.reduceNeg, hb])
            | (refine dGateK_split (fun hb => ?_) (fun hb => ?_) <;> simp -implicitDefEqProofs only [go_sem, ↓reduceIte, Nat.reduceEqDiff, Nat.reduceAdd, Nat.reduceLeDiff, Nat.reduceMul, Nat.reduceSub, Int.reduceLE, Int.reduceLT, Int.reduceEq, Int.reduceToNat, Int.reducePow, Int.reduceNeg, hb])
            | (refine callK_pure (kop) rfl rfl ?_; simp -implicitDefEqProofs only [go_sem, ↓reduceIte, Nat.reduceEqDiff, Nat.reduceAdd, Nat.reduceLeDiff, Nat.reduceMul, Nat.reduceSub, Int.reduceLE, Int.reduceLT, Int.reduceEq, Int.reduceToNat, Int.reducePow, Int.reduceNeg])
            | (refine dCallK_pure (kop) rfl rfl ?_; simp -implicitDefEqProofs only [go_sem, ↓reduceIte, Nat.reduceEqDiff, Nat.reduceAdd, Nat.reduceLeDiff, Nat.reduceMul, Nat.reduceSub, Int.reduceLE, Int.reduceLT, Int.reduceEq, Int.reduceToNat, Int.reducePow, Int.reduceNeg])
            | (rw [if_pos (by (try simp only [List.length_append, List.length_cons, List.length_nil, List.length_map]); omega)]; simp -implicitDefEqProofs only [go_sem, ↓reduceIte, Nat.reduceEqDiff, Nat.reduceAdd, Nat.reduceLeDiff, Nat.reduceMul, Nat.reduceSub, Int.reduceLE, Int.reduceLT, Int.reduceEq, Int.reduceToNat, Int.reducePow, Int.reduceNeg]))
          refine hK _ ?_; clear hK
          refine bwp_seq fun K hK => bwp_region rfl ?_
          simp -implicitDefEqProofs only [go_sem, ↓reduceIte, Nat.reduceEqDiff, Nat.reduceAdd, Nat.reduceLeDiff, Nat.reduceMul, Nat.reduceSub, Int.reduceLE, Int.reduceLT, Int.reduceEq, Int.reduceToNat, Int.reducePow, Int.reduceNeg]
          refine hK _ ?_; clear hK
          cases ho : (opW q3.tok.tx).2 with
          | false =>
            refine bwp_cond false (by simp [ev, fget, ho]) (fun h => nomatch h) (fun _ => ?_)
            refine bwp_skip ?_
            refine fin .normal _ _ q3 ⟨5, rg, 0, x, 0, ⟨-1, 0⟩, 0⟩ (.inr rfl) (stop fun _ _ => ho)
          | true =>
            refine bwp_cond true (by simp [ev, fget, ho]) (fun _ => ?_) (fun h => nomatch h)
            refine bwp_seq fun K hK => bwp_region rfl ?_
            simp -implicitDefEqProofs only [go_sem, ↓reduceIte, Nat.reduceEqDiff, Nat.reduceAdd, Nat.reduceLeDiff, Nat.reduceMul, Nat.reduceSub, Int.reduceLE, Int.reduceLT, Int.reduceEq, Int.reduceToNat, Int.reducePow, Int.reduceNeg]
            refine pnext_callK (q := q3) hs h3.ps rfl rfl ?_
            intro q4 h4
            simp -implicitDefEqProofs only [go_sem, ↓reduceIte, Nat.reduceEqDiff, Nat.reduceAdd, Nat.reduceLeDiff, Nat.reduceMul, Nat.reduceSub, Int.reduceLE, Int.reduceLT, Int.reduceEq, Int.reduceToNat, Int.reducePow, Int.reduceNeg, mset]
            refine hK _ ?_; clear hK
            refine bwp_region rfl ?_
            simp -implicitDefEqProofs only [go_sem, ↓reduceIte, Nat.reduceEqDiff, Nat.reduceAdd, Nat.reduceLeDiff, Nat.reduceMul, Nat.reduceSub, Int.reduceLE, Int.reduceLT, Int.reduceEq, Int.reduceToNat, Int.reducePow, Int.reduceNeg]
            refine popd_callK hs h4 rfl rfl ?_
            intro z q5 h5
            simp -implicitDefEqProofs only [go_sem, ↓reduceIte, Nat.reduceEqDiff, Nat.reduceAdd, Nat.reduceLeDiff, Nat.reduceMul, Nat.reduceSub, Int.reduceLE, Int.reduceLT, Int.reduceEq, Int.reduceToNat, Int.reducePow, Int.reduceNeg, mset]
            refine fin .normal _ _ q5 ⟨5, rg, 0, x, (opW q3.tok.tx).1, z, 0⟩ (.inr rfl) ?_
            refine PQ.take_no h hb1 (PQ.take_no h hb2 (PQ.bind h3 ?_))
            refine PQ.cur h3.ps ?_
            rw [if_pos ⟨hk, ho⟩]
            exact PQ.eat (PQ.bind h5 (PQ.ret h5.ps))
        · simp -implicitDefEqProofs only [go_sem, ↓reduceIte, Nat.reduceEqDiff, Nat.reduceAdd, Nat.reduceLeDiff, Nat.reduceMul, Nat.reduceSub, Int.reduceLE, Int.reduceLT, Int.reduceEq, Int.reduceToNat, Int.reducePow, Int.reduceNeg, mset, eq_true hc, eq_false hk, parC, decide_true]
          refine hK _ ?_; clear hK
          refine bwp_cond true (by simp [ev, fget]) (fun _ => ?_) (fun h => nomatch h)
          refine bwp_ret ?_
          simp -implicitDefEqProofs only [go_sem, ↓reduceIte, Nat.reduceEqDiff, Nat.reduceAdd, Nat.reduceLeDiff, Nat.reduceMul, Nat.reduceSub, Int.reduceLE, Int.reduceLT, Int.reduceEq, Int.reduceToNat, Int.reducePow, Int.reduceNeg]
          exact fin .ret _ _ q3 ⟨5, rg, 0, x, 0, ⟨-1, 0⟩, 0⟩ (.inl rfl) (stop fun _ h => absurd h hk)
      · simp -implicitDefEqProofs only [go_sem, ↓reduceIte, Nat.reduceEqDiff, Nat.reduceAdd, Nat.reduceLeDiff, Nat.reduceMul, Nat.reduceSub, Int.reduceLE, Int.reduceLT, Int.reduceEq, Int.reduceToNat, Int.reducePow, Int.reduceNeg, mset, eq_false hc, parC, decide_false]
        refine hK _ ?_; clear hK
        refine bwp_cond true (by simp [ev, fget]) (fun _ => ?_) (fun h => nomatch h)
        refine bwp_ret ?_
        simp -implicitDefEqProofs only [go_sem, ↓reduceIte, Nat.reduceEqDiff, Nat.reduceAdd, Nat.reduceLeDiff, Nat.reduceMul, Nat.reduceSub, Int.reduceLE, Int.reduceLT, Int.reduceEq, Int.reduceToNat, Int.reducePow, Int.reduceNeg]
        exact fin .ret _ _ q3 ⟨5, rg, 0, x, 0, ⟨-1, 0⟩, 0⟩ (.inl rfl) (stop fun h => absurd h hc)

theorem insC_ren (π : Nat → Option Nat) (x : Ins) : renL π (insC x) = insC x := renL_d _ _
theorem insC_in (π : Nat → Option Nat) (x : Ins) : inL π (insC x) = true := rfl

theorem pright_callK {s : List UInt8} (hs : s.length ≤ 140737488351232) {σ : PR Nat} {q : PSt} (h : PS s σ q) (rg : Int) {j : Nat} (hj : 2 ≤ j) {dst : Option Nat} {ops : List AOper} {K : St → Prop} {t : Fr} {m : Mem} {n : Nat} (hm0 : mget m 0 = some (parC q)) (hm1 : mget m 1 = some (lexQ s q)) (hm2 : mget m j = some (insC ⟨0, rg, 0, ⟨0, 0⟩, 0, ⟨0, 0⟩, 0⟩))
    (hk : ∀ x' q', PQ s (thn σ ((tRight rg).run s)) x' q' → runOps Tryd.prog ops ⟨putF t dst (.tup []), mset (mset (mset m 0 (parC q')) 1 (lexQ s q')) j (insC x'), n + 3⟩ K) : callK Tryd.prog 93 [.ptr 0 0, .ptr j 0] dst ops K t m n := by
  have e0 : pget [(0, 0), (1, 1), (2, j)] 1 = some 1 := rfl
  have ht : ∀ x, pget [(0, 0), (1, 1), (2, j)] x = if 0 = x then some 0 else if 1 = x then some 1 else if 2 = x then some j else none := fun x => rfl
  refine callK_gen [(0, 0), (1, 1), (2, j)] [.ptr 0 0, .ptr 2 0] [(0, parC q), (1, lexQ s q), (2, insC ⟨0, rg, 0, ⟨0, 0⟩, 0, ⟨0, 0⟩, 0⟩)] (nb := j + 1) (pright_calls hs h rg) ?_ (by simp [renL, AV.ren, pget]) rfl ?_ rfl ?_
  · simp [okRen]; omega
  · refine ⟨?_, ?_, ?_, trivial⟩
    · show mget m 0 = some (renL (pget _) (parC q)) ∧ _
      exact ⟨by rw [hm0, parC_ren _ e0], rfl⟩
    · show mget m 1 = some (renL (pget _) (lexQ s q)) ∧ _
      exact ⟨by rw [hm1, lexQ_ren], rfl⟩
    · show mget m j = some (renL (pget _) (insC _)) ∧ _
      exact ⟨by rw [hm2, insC_ren], rfl⟩
  · rintro r0 m' ⟨q', x', rfl, rfl, hq⟩
    have e1 : callMem [(0, 0), (1, 1), (2, j)] [(0, parC q), (1, lexQ s q), (2, insC ⟨0, rg, 0, ⟨0, 0⟩, 0, ⟨0, 0⟩, 0⟩)] [(0, parC q'), (1, lexQ s q'), (2, insC x')] n m = mset (mset (mset m 0 (parC q')) 1 (lexQ s q')) j (insC x') := by
      show mset (mset (mset m 0 (renL (renOf [(0, 0), (1, 1), (2, j)] _ _ n) (parC q'))) 1 (renL (renOf [(0, 0), (1, 1), (2, j)] _ _ n) (lexQ s q'))) j (renL (renOf [(0, 0), (1, 1), (2, j)] _ _ n) (insC x')) = _
      have hp : renOf [(0, 0), (1, 1), (2, j)] [(0, parC q), (1, lexQ s q), (2, insC ⟨0, rg, 0, ⟨0, 0⟩, 0, ⟨0, 0⟩, 0⟩)] [(0, parC q'), (1, lexQ s q'), (2, insC x')] n 1 = some 1 := rfl
      rw [parC_ren _ hp, lexQ_ren, insC_ren]
    rw [e1]
    exact hk x' q' hq

set_option maxHeartbeats 32000000 in
theorem pins_calls {s : List UInt8} (hs : s.length ≤ 140737488351232) {σ : PR Nat} {q : PSt} (h : PS s σ q) :
    ACalls Tryd.prog 75 [.ptr 0 0] [(0, parC q), (1, lexQ s q)] fun r m' => ∃ q', m' = [(0, parC q'), (1, lexQ s q')] ∧ ∃ x : Ins, r = .agg (insC x) ∧ PQ s (thn σ (tIns.run s)) x q' := by
  have hld : ldk Tryd.prog 86 = some (some 9) := by kernel_rfl
  refine acalls_of Tryd.func75 ac75_ok Tryd.ntmps75 Tryd.results75 rfl ?_
  unfold ac75
  refine bwp_seq fun K hK => bwp_region rfl ?_
  simp -implicitDefEqProofs only [go_sem, ↓reduceIte, Nat.reduceEqDiff, Nat.reduceAdd, Nat.reduceLeDiff, Nat.reduceMul, Nat.reduceSub, Int.reduceLE, Int.reduceLT, Int.reduceEq, Int.reduceToNat, Int.reducePow, Int.reduceNeg]
  refine hK _ ?_; clear hK
  refine bwp_seq fun K hK => bwp_region rfl ?_
  simp -implicitDefEqProofs only [go_sem, ↓reduceIte, Nat.reduceEqDiff, Nat.reduceAdd, Nat.reduceLeDiff, Nat.reduceMul, Nat.reduceSub, Int.reduceLE, Int.reduceLT, Int.reduceEq, Int.reduceToNat, Int.reducePow, Int.reduceNeg]
  refine hK _ ?_; clear hK
  refine bwp_seq fun K0 hK0 => ?_
  refine bwp_block ?_
  have fin : ∀ (t : Fr) (n : Nat) (q' : PSt) (x' : Ins), fget t 2 = .ptr 2 0 → fget t 3 = .ptr 3 0 → PQ s (thn σ (tIns.run s)) x' q' → 2 ≤ n → K0 ⟨t, [(0, parC q'), (1, lexQ s q'), (2, [.d (.int .i64 0), .d (.int .i64 0), .d (.int .i64 0), .d (.int .i64 0), .d (.int .i64 0), .d (.int .i64 0), .d (.int .i64 0), .d (.int .i64 0), .d (.int .i64 0)]), (3, insC x')], n⟩ := by
    intro t n q' x' h2 h3 hq hn
    refine hK0 _ ?_; clear hK0
    refine bwp_seq fun K hK => bwp_region (decide_eq_true hn) ?_
    simp -implicitDefEqProofs only [go_sem, ↓reduceIte, Nat.reduceEqDiff, Nat.reduceAdd, Nat.reduceLeDiff, Nat.reduceMul, Nat.reduceSub, Int.reduceLE, Int.reduceLT, Int.reduceEq, Int.reduceToNat, Int.reducePow, Int.reduceNeg, h2, h3, insC, Ins.cells]
    refine hK _ ?_; clear hK
    refine bwp_ret ?_
    simp only [go_sem]
    refine aend_mem (.agg (insC x')) [(0, 0), (1, 1)] [(0, parC q'), (1, lexQ s q')] ?_ rfl rfl ?_ ⟨q', rfl, x', rfl, hq⟩
    · simp [resA, resVs, resV, fget, mget, mset, loadA, hld, h2, insC, Ins.cells]
    · simp [entM, pinv, mget, mset, renL, AV.ren, parC, lexQ, lexC, pget]
  refine bwp_seq fun K hK => bwp_region rfl ?_
  simp -implicitDefEqProofs only [go_sem, ↓reduceIte, Nat.reduceEqDiff, Nat.reduceAdd, Nat.reduceLeDiff, Nat.reduceMul, Nat.reduceSub, Int.reduceLE, Int.reduceLT, Int.reduceEq, Int.reduceToNat, Int.reducePow, Int.reduceNeg]
  refine ptake_callK hs h wStore rfl rfl ?_
  intro q1 hy hn
  cases hb1 : tkB q wStore with
  | true =>
    have h1 := hy hb1
    simp -implicitDefEqProofs only [go_sem, ↓reduceIte, Nat.reduceEqDiff, Nat.reduceAdd, Nat.reduceLeDiff, Nat.reduceMul, Nat.reduceSub, Int.reduceLE, Int.reduceLT, Int.reduceEq, Int.reduceToNat, Int.reducePow, Int.reduceNeg, mset]
    refine hK _ ?_; clear hK
    refine bwp_cond true (by simp [ev, fget]) (fun _ => ?_) (fun h => nomatch h)
    refine bwp_seq fun K hK => bwp_region rfl ?_
    simp -implicitDefEqProofs only [go_sem, ↓reduceIte, Nat.reduceEqDiff, Nat.reduceAdd, Nat.reduceLeDiff, Nat.reduceMul, Nat.reduceSub, Int.reduceLE, Int.reduceLT, Int.reduceEq, Int.reduceToNat, Int.reducePow, Int.reduceNeg]
    refine ploc_callK hs h1 rfl rfl ?_
    intro l q2 h2
    simp -implicitDefEqProofs only [go_sem, ↓reduceIte, Nat.reduceEqDiff, Nat.reduceAdd, Nat.reduceLeDiff, Nat.reduceMul, Nat.reduceSub, Int.reduceLE, Int.reduceLT, Int.reduceEq, Int.reduceToNat, Int.reducePow, Int.reduceNeg, mset]
    refine hK _ ?_; clear hK
    refine bwp_region rfl ?_
    simp -implicitDefEqProofs only [go_sem, ↓reduceIte, Nat.reduceEqDiff, Nat.reduceAdd, Nat.reduceLeDiff, Nat.reduceMul, Nat.reduceSub, Int.reduceLE, Int.reduceLT, Int.reduceEq, Int.reduceToNat, Int.reducePow, Int.reduceNeg]
    refine popd_callK hs h2.ps rfl rfl ?_
    intro x q3 h3
    simp -implicitDefEqProofs only [go_sem, ↓reduceIte, Nat.reduceEqDiff, Nat.reduceAdd, Nat.reduceLeDiff, Nat.reduceMul, Nat.reduceSub, Int.reduceLE, Int.reduceLT, Int.reduceEq, Int.reduceToNat, Int.reducePow, Int.reduceNeg, mset]
    refine fin _ _ q3 ⟨1, 0, l, x, 0, ⟨0, 0⟩, 0⟩ rfl rfl ?_ (by omega)
    exact PQ.take_yes h hb1 (PQ.bind h2 (PQ.bind h3 (PQ.ret h3.ps)))
  | false =>
    have h1 := hn hb1
    subst h1
    simp -implicitDefEqProofs only [go_sem, ↓reduceIte, Nat.reduceEqDiff, Nat.reduceAdd, Nat.reduceLeDiff, Nat.reduceMul, Nat.reduceSub, Int.reduceLE, Int.reduceLT, Int.reduceEq, Int.reduceToNat, Int.reducePow, Int.reduceNeg, mset]
    refine hK _ ?_; clear hK
    refine bwp_cond false (by simp [ev, fget]) (fun h => nomatch h) (fun _ => ?_)
    refine bwp_seq fun K hK => bwp_region rfl ?_
    simp -implicitDefEqProofs only [go_sem, ↓reduceIte, Nat.reduceEqDiff, Nat.reduceAdd, Nat.reduceLeDiff, Nat.reduceMul, Nat.reduceSub, Int.reduceLE, Int.reduceLT, Int.reduceEq, Int.reduceToNat, Int.reducePow, Int.reduceNeg]
    refine ptake_callK hs h wFence rfl rfl ?_
    intro q2 hy hn
    cases hb2 : tkB q1 wFence with
    | true =>
      have h2 := hy hb2
      simp -implicitDefEqProofs only [go_sem, ↓reduceIte, Nat.reduceEqDiff, Nat.reduceAdd, Nat.reduceLeDiff, Nat.reduceMul, Nat.reduceSub, Int.reduceLE, Int.reduceLT, Int.reduceEq, Int.reduceToNat, Int.reducePow, Int.reduceNeg, mset]
      refine hK _ ?_; clear hK
      refine bwp_cond true (by simp [ev, fget]) (fun _ => ?_) (fun h => nomatch h)
      refine bwp_region rfl ?_
      simp -implicitDefEqProofs only [go_sem, ↓reduceIte, Nat.reduceEqDiff, Nat.reduceAdd, Nat.reduceLeDiff, Nat.reduceMul, Nat.reduceSub, Int.reduceLE, Int.reduceLT, Int.reduceEq, Int.reduceToNat, Int.reducePow, Int.reduceNeg]
      refine fin _ _ q2 ⟨3, 0, 0, ⟨0, 0⟩, 0, ⟨0, 0⟩, 0⟩ rfl rfl ?_ (by omega)
      exact PQ.take_no h hb1 (PQ.take_yes h hb2 (PQ.ret h2))
    | false =>
      have h2 := hn hb2
      subst h2
      simp -implicitDefEqProofs only [go_sem, ↓reduceIte, Nat.reduceEqDiff, Nat.reduceAdd, Nat.reduceLeDiff, Nat.reduceMul, Nat.reduceSub, Int.reduceLE, Int.reduceLT, Int.reduceEq, Int.reduceToNat, Int.reducePow, Int.reduceNeg, mset]
      refine hK _ ?_; clear hK
      refine bwp_cond false (by simp [ev, fget]) (fun h => nomatch h) (fun _ => ?_)
      refine bwp_seq fun K hK => bwp_region rfl ?_
      simp -implicitDefEqProofs only [go_sem, ↓reduceIte, Nat.reduceEqDiff, Nat.reduceAdd, Nat.reduceLeDiff, Nat.reduceMul, Nat.reduceSub, Int.reduceLE, Int.reduceLT, Int.reduceEq, Int.reduceToNat, Int.reducePow, Int.reduceNeg]
      refine ptake_callK hs h wSkip rfl rfl ?_
      intro q3 hy hn
      cases hb3 : tkB q2 wSkip with
      | false =>
        have h3 := hn hb3
        subst h3
        simp -implicitDefEqProofs only [go_sem, ↓reduceIte, Nat.reduceEqDiff, Nat.reduceAdd, Nat.reduceLeDiff, Nat.reduceMul, Nat.reduceSub, Int.reduceLE, Int.reduceLT, Int.reduceEq, Int.reduceToNat, Int.reducePow, Int.reduceNeg, mset]
        refine hK _ ?_; clear hK
        refine bwp_cond false (by simp [ev, fget]) (fun h => nomatch h) (fun _ => ?_)
        refine bwp_seq fun K hK => bwp_region rfl ?_
        simp -implicitDefEqProofs only [go_sem, ↓reduceIte, Nat.reduceEqDiff, Nat.reduceAdd, Nat.reduceLeDiff, Nat.reduceMul, Nat.reduceSub, Int.reduceLE, Int.reduceLT, Int.reduceEq, Int.reduceToNat, Int.reducePow, Int.reduceNeg]
        refine preg_callK hs h rfl rfl ?_
        intro rg q4 h4
        simp -implicitDefEqProofs only [go_sem, ↓reduceIte, Nat.reduceEqDiff, Nat.reduceAdd, Nat.reduceLeDiff, Nat.reduceMul, Nat.reduceSub, Int.reduceLE, Int.reduceLT, Int.reduceEq, Int.reduceToNat, Int.reducePow, Int.reduceNeg, mset]
        refine hK _ ?_; clear hK
        refine bwp_seq fun K hK => bwp_region rfl ?_
        simp -implicitDefEqProofs only [go_sem, ↓reduceIte, Nat.reduceEqDiff, Nat.reduceAdd, Nat.reduceLeDiff, Nat.reduceMul, Nat.reduceSub, Int.reduceLE, Int.reduceLT, Int.reduceEq, Int.reduceToNat, Int.reducePow, Int.reduceNeg]
        refine pmust_callK hs h4.ps [61] rfl rfl ?_
        intro q5 h5
        simp -implicitDefEqProofs only [go_sem, ↓reduceIte, Nat.reduceEqDiff, Nat.reduceAdd, Nat.reduceLeDiff, Nat.reduceMul, Nat.reduceSub, Int.reduceLE, Int.reduceLT, Int.reduceEq, Int.reduceToNat, Int.reducePow, Int.reduceNeg, mset]
        refine hK _ ?_; clear hK
        refine bwp_region rfl ?_
        simp -implicitDefEqProofs only [go_sem, ↓reduceIte, Nat.reduceEqDiff, Nat.reduceAdd, Nat.reduceLeDiff, Nat.reduceMul, Nat.reduceSub, Int.reduceLE, Int.reduceLT, Int.reduceEq, Int.reduceToNat, Int.reducePow, Int.reduceNeg]
        refine pright_callK hs h5.ps rg (j := 3) (by decide) rfl rfl rfl ?_
        intro x q6 h6
        simp -implicitDefEqProofs only [go_sem, ↓reduceIte, Nat.reduceEqDiff, Nat.reduceAdd, Nat.reduceLeDiff, Nat.reduceMul, Nat.reduceSub, Int.reduceLE, Int.reduceLT, Int.reduceEq, Int.reduceToNat, Int.reducePow, Int.reduceNeg, mset]
        refine fin _ _ q6 x rfl rfl ?_ (by omega)
        exact PQ.take_no h hb1 (PQ.take_no h hb2 (PQ.take_no h hb3 (PQ.bind h4 (PQ.bind h5 h6))))
      | true =>
        have h3 := hy hb3
        have kp := parse_pure (s := q3.tok.tx) (by have := h3.pos.2; omega)
        simp -implicitDefEqProofs only [go_sem, ↓reduceIte, Nat.reduceEqDiff, Nat.reduceAdd, Nat.reduceLeDiff, Nat.reduceMul, Nat.reduceSub, Int.reduceLE, Int.reduceLT, Int.reduceEq, Int.reduceToNat, Int.reducePow, Int.reduceNeg, mset]
        refine hK _ ?_; clear hK
        refine bwp_cond true (by simp [ev, fget]) (fun _ => ?_) (fun h => nomatch h)
        refine bwp_seq fun K hK => bwp_region rfl ?_
        simp -implicitDefEqProofs only [go_sem, ↓reduceIte, Nat.reduceEqDiff, Nat.reduceAdd, Nat.reduceLeDiff, Nat.reduceMul, Nat.reduceSub, Int.reduceLE, Int.reduceLT, Int.reduceEq, Int.reduceToNat, Int.reducePow, Int.reduceNeg]
        refine hK _ ?_; clear hK
        refine bwp_seq fun K1 hK1 => ?_
        refine bwp_seq fun K hK => bwp_region rfl ?_
        simp -implicitDefEqProofs only [go_sem, ↓reduceIte, Nat.reduceEqDiff, Nat.reduceAdd, Nat.reduceLeDiff, Nat.reduceMul, Nat.reduceSub, Int.reduceLE, Int.reduceLT, Int.reduceEq, Int.reduceToNat, Int.reducePow, Int.reduceNeg, parC]
        repeat' (first
          | (refine gateK_split (fun hb => ?_) (fun hb => ?_) <;> simp -implicitDefEqProofs only [go_sem, ↓reduceIte, Nat.reduceEqDiff, Nat.reduceAdd, Nat.reduceLeDiff, Nat.reduceMul, Nat.reduceSub, Int.reduceLE, Int.reduceLT, Int.reduceEq, Int.reduceToNat, Int.reducePow, Int.reduceNeg, hb])
          | (refine dGateK_split (fun hb => ?_) (fun hb => ?_) <;> simp -implicitDefEqProofs only [go_sem, ↓reduceIte, Nat.reduceEqDiff, Nat.reduceAdd, Nat.reduceLeDiff, Nat.reduceMul, Nat.reduceSub, Int.reduceLE, Int.reduceLT, Int.reduceEq, Int.reduceToNat, Int.reducePow, Int.reduceNeg, hb])
          | (refine callK_pure (kp) rfl rfl ?_; simp -implicitDefEqProofs only [go_sem, ↓reduceIte, Nat.reduceEqDiff, Nat.reduceAdd, Nat.reduceLeDiff, Nat.reduceMul, Nat.reduceSub, Int.reduceLE, Int.reduceLT, Int.reduceEq, Int.reduceToNat, Int.reducePow, Int.reduceNeg])
          | (refine dCallK_pure (kp) rfl rfl ?_; simp -implicitDefEqProofs only [go_sem, ↓reduceIte, Nat.reduceEqDiff, Nat.reduceAdd, Nat.reduceLeDiff, Nat.reduceMul, Nat.reduceSub, Int.reduceLE, Int.reduceLT, Int.reduceEq, Int.reduceToNat, Int.reducePow, Int.reduceNeg])
          | (rw [if_pos (by (try simp only [List.length_append, List.length_cons, List.length_nil, List.length_map]); omega)]; simp -implicitDefEqProofs only [go_sem, ↓reduceIte, Nat.reduceEqDiff, Nat.reduceAdd, Nat.reduceLeDiff, Nat.reduceMul, Nat.reduceSub, Int.reduceLE, Int.reduceLT, Int.reduceEq, Int.reduceToNat, Int.reducePow, Int.reduceNeg]))
        refine hK _ ?_; clear hK
        generalize hpn : (parseW q3.tok.tx).1 = pn
        generalize (parseW q3.tok.tx).2 = pb
        have rest : ∀ (t : Fr) (n : Nat) (q4 : PSt) (σ' : PR Nat), PS s σ' q4 → fget t 0 = .ptr 0 0 → fget t 2 = .ptr 2 0 → fget t 3 = .ptr 3 0 → 2 ≤ n →
            (∀ x' q', PQ s (thn σ' ((tNum.bind fun n => (tMust wIf).bind fun _ => tOpd.bind fun x => (tMust [61, 61]).bind fun _ => tOpd.bind fun y => PT.ret (⟨6, 0, 0, x, 0, y, n⟩ : Ins)).run s)) x' q' → PQ s (thn σ (tIns.run s)) x' q') →
            K1 ⟨t, [(0, parC q4), (1, lexQ s q4), (2, [.d (.int .i64 0), .d (.int .i64 0), .d (.int .i64 0), .d (.int .i64 0), .d (.int .i64 0), .d (.int .i64 0), .d (.int .i64 0), .d (.int .i64 0), .d (.int .i64 0)]), (3, insC ⟨6, 0, 0, ⟨0, 0⟩, 0, ⟨0, 0⟩, 0⟩)], n⟩ := by
          intro t n q4 σ' h4 g0 g2 g3 hn2 hgoal
          refine hK1 _ ?_; clear hK1
          refine bwp_seq fun K hK => bwp_region (decide_eq_true hn2) ?_
          simp -implicitDefEqProofs only [go_sem, ↓reduceIte, Nat.reduceEqDiff, Nat.reduceAdd, Nat.reduceLeDiff, Nat.reduceMul, Nat.reduceSub, Int.reduceLE, Int.reduceLT, Int.reduceEq, Int.reduceToNat, Int.reducePow, Int.reduceNeg, g0, g3, insC, Ins.cells]
          refine pnum_callK hs h4 rfl rfl ?_
          intro N q5 h5
          simp -implicitDefEqProofs only [go_sem, ↓reduceIte, Nat.reduceEqDiff, Nat.reduceAdd, Nat.reduceLeDiff, Nat.reduceMul, Nat.reduceSub, Int.reduceLE, Int.reduceLT, Int.reduceEq, Int.reduceToNat, Int.reducePow, Int.reduceNeg, mset, g0, g3]
          refine hK _ ?_; clear hK
          refine bwp_seq fun K hK => bwp_region (decide_eq_true (Nat.le_add_left 2 _)) ?_
          simp -implicitDefEqProofs only [go_sem, ↓reduceIte, Nat.reduceEqDiff, Nat.reduceAdd, Nat.reduceLeDiff, Nat.reduceMul, Nat.reduceSub, Int.reduceLE, Int.reduceLT, Int.reduceEq, Int.reduceToNat, Int.reducePow, Int.reduceNeg, g0, g3]
          refine pmust_callK hs h5.ps wIf rfl rfl ?_
          intro q6 h6
          simp -implicitDefEqProofs only [go_sem, ↓reduceIte, Nat.reduceEqDiff, Nat.reduceAdd, Nat.reduceLeDiff, Nat.reduceMul, Nat.reduceSub, Int.reduceLE, Int.reduceLT, Int.reduceEq, Int.reduceToNat, Int.reducePow, Int.reduceNeg, mset, g0, g3]
          refine hK _ ?_; clear hK
          refine bwp_seq fun K hK => bwp_region (decide_eq_true (Nat.le_add_left 2 _)) ?_
          simp -implicitDefEqProofs only [go_sem, ↓reduceIte, Nat.reduceEqDiff, Nat.reduceAdd, Nat.reduceLeDiff, Nat.reduceMul, Nat.reduceSub, Int.reduceLE, Int.reduceLT, Int.reduceEq, Int.reduceToNat, Int.reducePow, Int.reduceNeg, g0, g3]
          refine popd_callK hs h6.ps rfl rfl ?_
          intro x q7 h7
          simp -implicitDefEqProofs only [go_sem, ↓reduceIte, Nat.reduceEqDiff, Nat.reduceAdd, Nat.reduceLeDiff, Nat.reduceMul, Nat.reduceSub, Int.reduceLE, Int.reduceLT, Int.reduceEq, Int.reduceToNat, Int.reducePow, Int.reduceNeg, mset, g0, g3]
          refine hK _ ?_; clear hK
          refine bwp_seq fun K hK => bwp_region (decide_eq_true (Nat.le_add_left 2 _)) ?_
          simp -implicitDefEqProofs only [go_sem, ↓reduceIte, Nat.reduceEqDiff, Nat.reduceAdd, Nat.reduceLeDiff, Nat.reduceMul, Nat.reduceSub, Int.reduceLE, Int.reduceLT, Int.reduceEq, Int.reduceToNat, Int.reducePow, Int.reduceNeg, g0, g3]
          refine pmust_callK hs h7.ps [61, 61] rfl rfl ?_
          intro q8 h8
          simp -implicitDefEqProofs only [go_sem, ↓reduceIte, Nat.reduceEqDiff, Nat.reduceAdd, Nat.reduceLeDiff, Nat.reduceMul, Nat.reduceSub, Int.reduceLE, Int.reduceLT, Int.reduceEq, Int.reduceToNat, Int.reducePow, Int.reduceNeg, mset, g0, g3]
          refine hK _ ?_; clear hK
          refine bwp_region (decide_eq_true (Nat.le_add_left 2 _)) ?_
          simp -implicitDefEqProofs only [go_sem, ↓reduceIte, Nat.reduceEqDiff, Nat.reduceAdd, Nat.reduceLeDiff, Nat.reduceMul, Nat.reduceSub, Int.reduceLE, Int.reduceLT, Int.reduceEq, Int.reduceToNat, Int.reducePow, Int.reduceNeg, g0, g3]
          refine popd_callK hs h8.ps rfl rfl ?_
          intro y q9 h9
          simp -implicitDefEqProofs only [go_sem, ↓reduceIte, Nat.reduceEqDiff, Nat.reduceAdd, Nat.reduceLeDiff, Nat.reduceMul, Nat.reduceSub, Int.reduceLE, Int.reduceLT, Int.reduceEq, Int.reduceToNat, Int.reducePow, Int.reduceNeg, mset, g0, g3]
          refine fin _ _ q9 ⟨6, 0, 0, x, 0, y, N⟩ (by simp [fget, g2]) (by simp [fget, g3]) ?_ (by omega)
          refine hgoal _ _ ?_
          exact PQ.bind h5 (PQ.bind h6 (PQ.bind h7 (PQ.bind h8 (PQ.bind h9 (PQ.ret h9.ps)))))
        have up : ∀ {x' : Ins} {q' : PSt}, PQ s (thn (thn σ (eatW s)) ((PT.cur fun d y => if d = 2 ∧ (parseW y).1 < 0 then .bad 6 else
            tNum.bind fun n => (tMust wIf).bind fun _ => tOpd.bind fun x => (tMust [61, 61]).bind fun _ => tOpd.bind fun y => PT.ret (⟨6, 0, 0, x, 0, y, n⟩ : Ins)).run s)) x' q' → PQ s (thn σ (tIns.run s)) x' q' :=
          fun hq => PQ.take_no h hb1 (PQ.take_no h hb2 (PQ.take_yes h hb3 hq))
        by_cases hk : q3.tok.kd = 2
        · by_cases hneg : pn < 0
          · refine bwp_seq fun K hK => bwp_region rfl ?_
            simp -implicitDefEqProofs only [go_sem, ↓reduceIte, Nat.reduceEqDiff, Nat.reduceAdd, Nat.reduceLeDiff, Nat.reduceMul, Nat.reduceSub, Int.reduceLE, Int.reduceLT, Int.reduceEq, Int.reduceToNat, Int.reducePow, Int.reduceNeg, parC, eq_true hk, eq_true hneg, decide_true]
            refine hK _ ?_; clear hK
            refine bwp_cond true (by simp [ev, fget]) (fun _ => ?_) (fun h => nomatch h)
            refine bwp_region rfl ?_
            simp -implicitDefEqProofs only [go_sem, ↓reduceIte, Nat.reduceEqDiff, Nat.reduceAdd, Nat.reduceLeDiff, Nat.reduceMul, Nat.reduceSub, Int.reduceLE, Int.reduceLT, Int.reduceEq, Int.reduceToNat, Int.reducePow, Int.reduceNeg]
            refine pfail_callK s q3 6 rfl rfl ?_
            simp -implicitDefEqProofs only [go_sem, ↓reduceIte, Nat.reduceEqDiff, Nat.reduceAdd, Nat.reduceLeDiff, Nat.reduceMul, Nat.reduceSub, Int.reduceLE, Int.reduceLT, Int.reduceEq, Int.reduceToNat, Int.reducePow, Int.reduceNeg, mset]
            refine rest _ _ (failF q3 6) _ (h3.fail (by decide) (α := Ins)) rfl rfl rfl (by omega) ?_
            intro x' q' hq
            refine up (PQ.cur h3 ?_)
            rw [if_pos ⟨hk, by rw [hpn]; exact hneg⟩]
            exact PQ.past_bad hq
          · refine bwp_seq fun K hK => bwp_region rfl ?_
            simp -implicitDefEqProofs only [go_sem, ↓reduceIte, Nat.reduceEqDiff, Nat.reduceAdd, Nat.reduceLeDiff, Nat.reduceMul, Nat.reduceSub, Int.reduceLE, Int.reduceLT, Int.reduceEq, Int.reduceToNat, Int.reducePow, Int.reduceNeg, parC, eq_true hk, eq_false hneg, decide_true]
            refine hK _ ?_; clear hK
            refine bwp_cond false (by simp [ev, fget]) (fun h => nomatch h) (fun _ => ?_)
            refine bwp_skip ?_
            refine rest _ _ q3 _ h3 rfl rfl rfl (by omega) ?_
            intro x' q' hq
            refine up (PQ.cur h3 ?_)
            rw [if_neg (fun hh => hneg (by rw [← hpn]; exact hh.2))]
            exact hq
        · refine bwp_seq fun K hK => bwp_region rfl ?_
          simp -implicitDefEqProofs only [go_sem, ↓reduceIte, Nat.reduceEqDiff, Nat.reduceAdd, Nat.reduceLeDiff, Nat.reduceMul, Nat.reduceSub, Int.reduceLE, Int.reduceLT, Int.reduceEq, Int.reduceToNat, Int.reducePow, Int.reduceNeg, parC, eq_false hk, decide_false]
          refine hK _ ?_; clear hK
          refine bwp_cond false (by simp [ev, fget]) (fun h => nomatch h) (fun _ => ?_)
          refine bwp_skip ?_
          refine rest _ _ q3 _ h3 rfl rfl rfl (by omega) ?_
          intro x' q' hq
          refine up (PQ.cur h3 ?_)
          rw [if_neg (fun hh => hk hh.1)]
          exact hq

theorem pins_callK {s : List UInt8} (hs : s.length ≤ 140737488351232) {σ : PR Nat} {q : PSt} (h : PS s σ q) {dst : Option Nat} {ops : List AOper} {K : St → Prop} {t : Fr} {m : Mem} {n : Nat} (hm0 : mget m 0 = some (parC q)) (hm1 : mget m 1 = some (lexQ s q))
    (hk : ∀ (x : Ins) q', PQ s (thn σ (tIns.run s)) x q' → runOps Tryd.prog ops ⟨putF t dst (.agg (insC x)), mset (mset m 0 (parC q')) 1 (lexQ s q'), n + 2⟩ K) : callK Tryd.prog 75 [.ptr 0 0] dst ops K t m n := by
  refine par_callK (rest := []) (Q := fun r q' => ∃ x : Ins, r = .agg (insC x) ∧ PQ s (thn σ (tIns.run s)) x q') (pins_calls hs h) rfl ?_ hm0 hm1 ?_
  · rintro _ _ ⟨x, rfl, _⟩; exact insC_in _ x
  · rintro _ q' ⟨x, rfl, h⟩; exact hk x q' h

end Go.Proofs.YtpfbljkfbjjlkaaDoor

/- The parser's atoms, what locations begin with, threads. -/
namespace Go.Proofs.YtpfbljkfbjjlkaaDoor
open Go Go.Jq
set_option maxRecDepth 100000
set_option linter.unusedSimpArgs false

theorem PQ.bind_stop {α β : Type} {s : List UInt8} {σ : PR Nat} {t : PT α} {f : α → PT β} {y : β} {q' : PSt} (h : PS s (posR (thn σ (t.run s))) q') (he : q'.code ≠ 0) : PQ s (thn σ ((t.bind f).run s)) y q' := by
  cases σ with
  | error e => exact h
  | ok a =>
    simp only [thn] at h ⊢
    rw [PT.run_bind]
    cases ht : t.run s a with
    | error e => rw [ht] at h; exact h
    | ok p =>
      rw [ht] at h
      exact absurd h.code he

def atC (x : Atom) : List AV := x.cells.map .d
theorem atC_in (π : Nat → Option Nat) (x : Atom) : inL π (atC x) = true := rfl

set_option maxHeartbeats 32000000 in
theorem patom_calls {s : List UInt8} (hs : s.length ≤ 140737488351232) {σ : PR Nat} {q : PSt} (h : PS s σ q) :
    ACalls Tryd.prog 76 [.ptr 0 0] [(0, parC q), (1, lexQ s q)] fun r m' => ∃ q', m' = [(0, parC q'), (1, lexQ s q')] ∧ ∃ x : Atom, r = .agg (atC x) ∧ PQ s (thn σ (tAtom.run s)) x q' := by
  have hld : ldk Tryd.prog 61 = some (some 4) := by kernel_rfl
  have kp := parse_pure (s := q.tok.tx) (by have := h.pos.2; omega)
  refine acalls_of Tryd.func76 ac76_ok Tryd.ntmps76 Tryd.results76 rfl ?_
  unfold ac76
  refine bwp_seq fun K hK => bwp_region rfl ?_
  simp -implicitDefEqProofs only [go_sem, ↓reduceIte, Nat.reduceEqDiff, Nat.reduceAdd, Nat.reduceLeDiff, Nat.reduceMul, Nat.reduceSub, Int.reduceLE, Int.reduceLT, Int.reduceEq, Int.reduceToNat, Int.reducePow, Int.reduceNeg]
  refine hK _ ?_; clear hK
  refine bwp_seq fun K hK => bwp_region rfl ?_
  simp -implicitDefEqProofs only [go_sem, ↓reduceIte, Nat.reduceEqDiff, Nat.reduceAdd, Nat.reduceLeDiff, Nat.reduceMul, Nat.reduceSub, Int.reduceLE, Int.reduceLT, Int.reduceEq, Int.reduceToNat, Int.reducePow, Int.reduceNeg]
  refine hK _ ?_; clear hK
  refine bwp_seq fun K0 hK0 => ?_
  have fin : ∀ (t : Fr) (n : Nat) (q1 : PSt) (x1 : Atom), fget t 0 = .ptr 0 0 → fget t 2 = .ptr 2 0 → fget t 3 = .ptr 3 0 → PQ s (thn σ (tWho.run s)) x1 q1 → 2 ≤ n → K0 ⟨t, [(0, parC q1), (1, lexQ s q1), (2, [.d (.int .i64 0), .d (.int .i64 0), .d (.int .i64 0), .d (.int .i64 0)]), (3, atC x1)], n⟩ := by
    intro t n q1 x1 g0 g2 g3 hq hn
    refine hK0 _ ?_; clear hK0
    refine bwp_seq fun K hK => bwp_region (decide_eq_true hn) ?_
    simp -implicitDefEqProofs only [go_sem, ↓reduceIte, Nat.reduceEqDiff, Nat.reduceAdd, Nat.reduceLeDiff, Nat.reduceMul, Nat.reduceSub, Int.reduceLE, Int.reduceLT, Int.reduceEq, Int.reduceToNat, Int.reducePow, Int.reduceNeg, g0, g2, g3, atC, Atom.cells]
    refine pmust_callK hs hq.ps [61] rfl rfl ?_
    intro q2 h2
    simp -implicitDefEqProofs only [go_sem, ↓reduceIte, Nat.reduceEqDiff, Nat.reduceAdd, Nat.reduceLeDiff, Nat.reduceMul, Nat.reduceSub, Int.reduceLE, Int.reduceLT, Int.reduceEq, Int.reduceToNat, Int.reducePow, Int.reduceNeg, mset, g0, g2, g3]
    refine hK _ ?_; clear hK
    refine bwp_seq fun K hK => bwp_region (decide_eq_true (Nat.le_add_left 2 _)) ?_
    simp -implicitDefEqProofs only [go_sem, ↓reduceIte, Nat.reduceEqDiff, Nat.reduceAdd, Nat.reduceLeDiff, Nat.reduceMul, Nat.reduceSub, Int.reduceLE, Int.reduceLT, Int.reduceEq, Int.reduceToNat, Int.reducePow, Int.reduceNeg, g0, g2, g3]
    refine pnum_callK hs h2.ps rfl rfl ?_
    intro N q3 h3
    simp -implicitDefEqProofs only [go_sem, ↓reduceIte, Nat.reduceEqDiff, Nat.reduceAdd, Nat.reduceLeDiff, Nat.reduceMul, Nat.reduceSub, Int.reduceLE, Int.reduceLT, Int.reduceEq, Int.reduceToNat, Int.reducePow, Int.reduceNeg, mset, g0, g2, g3]
    refine hK _ ?_; clear hK
    refine bwp_seq fun K hK => bwp_region (decide_eq_true (Nat.le_add_left 2 _)) ?_
    simp -implicitDefEqProofs only [go_sem, ↓reduceIte, Nat.reduceEqDiff, Nat.reduceAdd, Nat.reduceLeDiff, Nat.reduceMul, Nat.reduceSub, Int.reduceLE, Int.reduceLT, Int.reduceEq, Int.reduceToNat, Int.reducePow, Int.reduceNeg, g0, g2, g3]
    refine hK _ ?_; clear hK
    refine bwp_ret ?_
    simp only [go_sem]
    refine aend_mem (.agg (atC { x1 with value := N })) [(0, 0), (1, 1)] [(0, parC q3), (1, lexQ s q3)] ?_ rfl rfl ?_ ⟨q3, rfl, { x1 with value := N }, rfl, ?_⟩
    · simp [resA, resVs, resV, fget, mget, mset, loadA, hld, g2, atC, Atom.cells]
    · simp [entM, pinv, mget, mset, renL, AV.ren, parC, lexQ, lexC, pget]
    · exact PQ.bind hq (PQ.bind h2 (PQ.bind h3 (PQ.ret h3.ps)))
  refine bwp_seq fun K hK => bwp_region rfl ?_
  simp -implicitDefEqProofs only [go_sem, ↓reduceIte, Nat.reduceEqDiff, Nat.reduceAdd, Nat.reduceLeDiff, Nat.reduceMul, Nat.reduceSub, Int.reduceLE, Int.reduceLT, Int.reduceEq, Int.reduceToNat, Int.reducePow, Int.reduceNeg]
  refine pok_callK s q rfl rfl ?_
  by_cases hc : q.code = 0
  · by_cases h2 : q.tok.kd = 2
    · simp -implicitDefEqProofs only [go_sem, ↓reduceIte, Nat.reduceEqDiff, Nat.reduceAdd, Nat.reduceLeDiff, Nat.reduceMul, Nat.reduceSub, Int.reduceLE, Int.reduceLT, Int.reduceEq, Int.reduceToNat, Int.reducePow, Int.reduceNeg, mset, eq_true hc, eq_true h2, parC, decide_true]
      refine hK _ ?_; clear hK
      refine bwp_cond true (by simp [ev, fget]) (fun _ => ?_) (fun h => nomatch h)
      refine bwp_seq fun K hK => bwp_region rfl ?_
      simp -implicitDefEqProofs only [go_sem, ↓reduceIte, Nat.reduceEqDiff, Nat.reduceAdd, Nat.reduceLeDiff, Nat.reduceMul, Nat.reduceSub, Int.reduceLE, Int.reduceLT, Int.reduceEq, Int.reduceToNat, Int.reducePow, Int.reduceNeg]
      repeat' (first
        | (refine gateK_split (fun hb => ?_) (fun hb => ?_) <;> simp -implicitDefEqProofs only [go_sem, ↓reduceIte, Nat.reduceEqDiff, Nat.reduceAdd, Nat.reduceLeDiff, Nat.reduceMul, Nat.reduceSub, Int.reduceLE, Int.reduceLT, Int.reduceEq, Int.reduceToNat, Int.reducePow, Int.reduceNeg, hb])
        | (refine dGateK_split (fun hb => ?_) (fun hb => ?_) <;> simp -implicitDefEqProofs only [go_sem, ↓reduceIte, Nat.reduceEqDiff, Nat.reduceAdd, Nat.reduceLeDiff, Nat.reduceMul, Nat.reduceSub, Int.reduceLE, Int.reduceLT, Int.reduceEq, Int.reduceToNat, Int.reducePow, Int.reduceNeg, hb])
        | (refine callK_pure (kp) rfl rfl ?_; simp -implicitDefEqProofs only [go_sem, ↓reduceIte, Nat.reduceEqDiff, Nat.reduceAdd, Nat.reduceLeDiff, Nat.reduceMul, Nat.reduceSub, Int.reduceLE, Int.reduceLT, Int.reduceEq, Int.reduceToNat, Int.reducePow, Int.reduceNeg])
        | (refine dCallK_pure (kp) rfl rfl ?_; simp -implicitDefEqProofs only [go_sem, ↓reduceIte, Nat.reduceEqDiff, Nat.reduceAdd, Nat.reduceLeDiff, Nat.reduceMul, Nat.reduceSub, Int.reduceLE, Int.reduceLT, Int.reduceEq, Int.reduceToNat, Int.reducePow, Int.reduceNeg])
        | (rw [if_pos (by (try simp only [List.length_append, List.length_cons, List.length_nil, List.length_map]); omega)]; simp -implicitDefEqProofs only [go_sem, ↓reduceIte, Nat.reduceEqDiff, Nat.reduceAdd, Nat.reduceLeDiff, Nat.reduceMul, Nat.reduceSub, Int.reduceLE, Int.reduceLT, Int.reduceEq, Int.reduceToNat, Int.reducePow, Int.reduceNeg]))
      refine hK _ ?_; clear hK
      generalize hpn : (parseW q.tok.tx).1 = pn at *
      generalize (parseW q.tok.tx).2 = pb at *
      by_cases hbad : pn < 0 ∨ 9 < pn
      · have hstop : PQ s (thn σ (tWho.run s)) ⟨0, 0, 0, 0⟩ (failF q 7) := by
          refine PQ.cur h ?_
          rw [if_pos h2, hpn, if_pos hbad]
          exact PQ.bad h (by decide) _
        by_cases n1 : pn < 0
        · refine bwp_seq fun K1 hK1 => ?_
          refine bwp_seq fun K hK => bwp_region rfl ?_
          simp -implicitDefEqProofs only [go_sem, ↓reduceIte, Nat.reduceEqDiff, Nat.reduceAdd, Nat.reduceLeDiff, Nat.reduceMul, Nat.reduceSub, Int.reduceLE, Int.reduceLT, Int.reduceEq, Int.reduceToNat, Int.reducePow, Int.reduceNeg, eq_true n1, decide_true, decide_false]
          refine hK _ ?_; clear hK
          refine bwp_cond true (by simp [ev, fget]) (fun _ => ?_) (fun h => nomatch h)
          refine bwp_seq fun K hK => bwp_region rfl ?_
          simp -implicitDefEqProofs only [go_sem, ↓reduceIte, Nat.reduceEqDiff, Nat.reduceAdd, Nat.reduceLeDiff, Nat.reduceMul, Nat.reduceSub, Int.reduceLE, Int.reduceLT, Int.reduceEq, Int.reduceToNat, Int.reducePow, Int.reduceNeg]
          refine pfail_callK s q 7 rfl rfl ?_
          simp -implicitDefEqProofs only [go_sem, ↓reduceIte, Nat.reduceEqDiff, Nat.reduceAdd, Nat.reduceLeDiff, Nat.reduceMul, Nat.reduceSub, Int.reduceLE, Int.reduceLT, Int.reduceEq, Int.reduceToNat, Int.reducePow, Int.reduceNeg, mset]
          refine hK _ ?_; clear hK
          refine bwp_seq fun K hK => bwp_region rfl ?_
          simp -implicitDefEqProofs only [go_sem, ↓reduceIte, Nat.reduceEqDiff, Nat.reduceAdd, Nat.reduceLeDiff, Nat.reduceMul, Nat.reduceSub, Int.reduceLE, Int.reduceLT, Int.reduceEq, Int.reduceToNat, Int.reducePow, Int.reduceNeg]
          refine hK _ ?_; clear hK
          refine bwp_ret ?_
          simp only [go_sem]
          refine aend_mem (.agg (atC ⟨0, 0, 0, 0⟩)) [(0, 0), (1, 1)] [(0, parC (failF q 7)), (1, lexQ s (failF q 7))] ?_ rfl rfl ?_ ⟨_, rfl, ⟨0, 0, 0, 0⟩, rfl, ?_⟩
          · simp [resA, resVs, resV, fget, mget, mset, loadA, hld, atC, Atom.cells]
          · simp [entM, pinv, mget, mset, renL, AV.ren, parC, lexQ, lexC, pget]
          · exact PQ.bind_stop hstop.ps (failF_code (by decide))
        · have n2 : 9 < pn := by omega
          refine bwp_seq fun K1 hK1 => ?_
          refine bwp_seq fun K hK => bwp_region rfl ?_
          simp -implicitDefEqProofs only [go_sem, ↓reduceIte, Nat.reduceEqDiff, Nat.reduceAdd, Nat.reduceLeDiff, Nat.reduceMul, Nat.reduceSub, Int.reduceLE, Int.reduceLT, Int.reduceEq, Int.reduceToNat, Int.reducePow, Int.reduceNeg, eq_false n1, eq_true n2, decide_true, decide_false]
          refine hK _ ?_; clear hK
          refine bwp_cond true (by simp [ev, fget]) (fun _ => ?_) (fun h => nomatch h)
          refine bwp_seq fun K hK => bwp_region rfl ?_
          simp -implicitDefEqProofs only [go_sem, ↓reduceIte, Nat.reduceEqDiff, Nat.reduceAdd, Nat.reduceLeDiff, Nat.reduceMul, Nat.reduceSub, Int.reduceLE, Int.reduceLT, Int.reduceEq, Int.reduceToNat, Int.reducePow, Int.reduceNeg]
          refine pfail_callK s q 7 rfl rfl ?_
          simp -implicitDefEqProofs only [go_sem, ↓reduceIte, Nat.reduceEqDiff, Nat.reduceAdd, Nat.reduceLeDiff, Nat.reduceMul, Nat.reduceSub, Int.reduceLE, Int.reduceLT, Int.reduceEq, Int.reduceToNat, Int.reducePow, Int.reduceNeg, mset]
          refine hK _ ?_; clear hK
          refine bwp_seq fun K hK => bwp_region rfl ?_
          simp -implicitDefEqProofs only [go_sem, ↓reduceIte, Nat.reduceEqDiff, Nat.reduceAdd, Nat.reduceLeDiff, Nat.reduceMul, Nat.reduceSub, Int.reduceLE, Int.reduceLT, Int.reduceEq, Int.reduceToNat, Int.reducePow, Int.reduceNeg]
          refine hK _ ?_; clear hK
          refine bwp_ret ?_
          simp only [go_sem]
          refine aend_mem (.agg (atC ⟨0, 0, 0, 0⟩)) [(0, 0), (1, 1)] [(0, parC (failF q 7)), (1, lexQ s (failF q 7))] ?_ rfl rfl ?_ ⟨_, rfl, ⟨0, 0, 0, 0⟩, rfl, ?_⟩
          · simp [resA, resVs, resV, fget, mget, mset, loadA, hld, atC, Atom.cells]
          · simp [entM, pinv, mget, mset, renL, AV.ren, parC, lexQ, lexC, pget]
          · exact PQ.bind_stop hstop.ps (failF_code (by decide))
      · have n1 : ¬ pn < 0 := fun h => hbad (.inl h)
        have n2 : ¬ 9 < pn := fun h => hbad (.inr h)
        refine bwp_seq fun K1 hK1 => ?_
        refine bwp_seq fun K hK => bwp_region rfl ?_
        simp -implicitDefEqProofs only [go_sem, ↓reduceIte, Nat.reduceEqDiff, Nat.reduceAdd, Nat.reduceLeDiff, Nat.reduceMul, Nat.reduceSub, Int.reduceLE, Int.reduceLT, Int.reduceEq, Int.reduceToNat, Int.reducePow, Int.reduceNeg, eq_false n1, eq_false n2, decide_false]
        refine hK _ ?_; clear hK
        refine bwp_cond false (by simp [ev, fget]) (fun h => nomatch h) (fun _ => ?_)
        refine bwp_skip ?_
        refine hK1 _ ?_; clear hK1
        refine bwp_seq fun K hK => bwp_region rfl ?_
        simp -implicitDefEqProofs only [go_sem, ↓reduceIte, Nat.reduceEqDiff, Nat.reduceAdd, Nat.reduceLeDiff, Nat.reduceMul, Nat.reduceSub, Int.reduceLE, Int.reduceLT, Int.reduceEq, Int.reduceToNat, Int.reducePow, Int.reduceNeg]
        refine hK _ ?_; clear hK
        refine bwp_seq fun K hK => bwp_region rfl ?_
        simp -implicitDefEqProofs only [go_sem, ↓reduceIte, Nat.reduceEqDiff, Nat.reduceAdd, Nat.reduceLeDiff, Nat.reduceMul, Nat.reduceSub, Int.reduceLE, Int.reduceLT, Int.reduceEq, Int.reduceToNat, Int.reducePow, Int.reduceNeg]
        refine pnext_callK (q := q) hs h rfl rfl ?_
        intro q2 hq2
        simp -implicitDefEqProofs only [go_sem, ↓reduceIte, Nat.reduceEqDiff, Nat.reduceAdd, Nat.reduceLeDiff, Nat.reduceMul, Nat.reduceSub, Int.reduceLE, Int.reduceLT, Int.reduceEq, Int.reduceToNat, Int.reducePow, Int.reduceNeg, mset]
        refine hK _ ?_; clear hK
        refine bwp_seq fun K hK => bwp_region rfl ?_
        simp -implicitDefEqProofs only [go_sem, ↓reduceIte, Nat.reduceEqDiff, Nat.reduceAdd, Nat.reduceLeDiff, Nat.reduceMul, Nat.reduceSub, Int.reduceLE, Int.reduceLT, Int.reduceEq, Int.reduceToNat, Int.reducePow, Int.reduceNeg]
        refine pmust_callK hs hq2 [58] rfl rfl ?_
        intro q3 h3
        simp -implicitDefEqProofs only [go_sem, ↓reduceIte, Nat.reduceEqDiff, Nat.reduceAdd, Nat.reduceLeDiff, Nat.reduceMul, Nat.reduceSub, Int.reduceLE, Int.reduceLT, Int.reduceEq, Int.reduceToNat, Int.reducePow, Int.reduceNeg, mset]
        refine hK _ ?_; clear hK
        refine bwp_region rfl ?_
        simp -implicitDefEqProofs only [go_sem, ↓reduceIte, Nat.reduceEqDiff, Nat.reduceAdd, Nat.reduceLeDiff, Nat.reduceMul, Nat.reduceSub, Int.reduceLE, Int.reduceLT, Int.reduceEq, Int.reduceToNat, Int.reducePow, Int.reduceNeg]
        refine preg_callK hs h3.ps rfl rfl ?_
        intro rg q4 h4
        simp -implicitDefEqProofs only [go_sem, ↓reduceIte, Nat.reduceEqDiff, Nat.reduceAdd, Nat.reduceLeDiff, Nat.reduceMul, Nat.reduceSub, Int.reduceLE, Int.reduceLT, Int.reduceEq, Int.reduceToNat, Int.reducePow, Int.reduceNeg, mset]
        refine fin _ _ q4 ⟨pn, rg, 0, 0⟩ rfl rfl rfl ?_ (by omega)
        refine PQ.cur h ?_
        rw [if_pos h2, hpn, if_neg hbad]
        exact PQ.eat (PQ.bind h3 (PQ.bind h4 (PQ.ret h4.ps)))
    · simp -implicitDefEqProofs only [go_sem, ↓reduceIte, Nat.reduceEqDiff, Nat.reduceAdd, Nat.reduceLeDiff, Nat.reduceMul, Nat.reduceSub, Int.reduceLE, Int.reduceLT, Int.reduceEq, Int.reduceToNat, Int.reducePow, Int.reduceNeg, mset, eq_true hc, eq_false h2, parC, decide_true]
      refine hK _ ?_; clear hK
      refine bwp_cond false (by simp [ev, fget]) (fun h => nomatch h) (fun _ => ?_)
      refine bwp_region rfl ?_
      simp -implicitDefEqProofs only [go_sem, ↓reduceIte, Nat.reduceEqDiff, Nat.reduceAdd, Nat.reduceLeDiff, Nat.reduceMul, Nat.reduceSub, Int.reduceLE, Int.reduceLT, Int.reduceEq, Int.reduceToNat, Int.reducePow, Int.reduceNeg]
      refine ploc_callK (q := q) hs h rfl rfl ?_
      intro l q2 hq2
      simp -implicitDefEqProofs only [go_sem, ↓reduceIte, Nat.reduceEqDiff, Nat.reduceAdd, Nat.reduceLeDiff, Nat.reduceMul, Nat.reduceSub, Int.reduceLE, Int.reduceLT, Int.reduceEq, Int.reduceToNat, Int.reducePow, Int.reduceNeg, mset]
      refine fin _ _ q2 ⟨-1, 0, l, 0⟩ rfl rfl rfl ?_ (by omega)
      refine PQ.cur h ?_
      rw [if_neg h2]
      exact PQ.bind hq2 (PQ.ret hq2.ps)
  · simp -implicitDefEqProofs only [go_sem, ↓reduceIte, Nat.reduceEqDiff, Nat.reduceAdd, Nat.reduceLeDiff, Nat.reduceMul, Nat.reduceSub, Int.reduceLE, Int.reduceLT, Int.reduceEq, Int.reduceToNat, Int.reducePow, Int.reduceNeg, mset, eq_false hc, parC, decide_false]
    refine hK _ ?_; clear hK
    refine bwp_cond false (by simp [ev, fget]) (fun h => nomatch h) (fun _ => ?_)
    refine bwp_region rfl ?_
    simp -implicitDefEqProofs only [go_sem, ↓reduceIte, Nat.reduceEqDiff, Nat.reduceAdd, Nat.reduceLeDiff, Nat.reduceMul, Nat.reduceSub, Int.reduceLE, Int.reduceLT, Int.reduceEq, Int.reduceToNat, Int.reducePow, Int.reduceNeg]
    refine ploc_callK (q := q) hs h rfl rfl ?_
    intro l q2 hq2
    simp -implicitDefEqProofs only [go_sem, ↓reduceIte, Nat.reduceEqDiff, Nat.reduceAdd, Nat.reduceLeDiff, Nat.reduceMul, Nat.reduceSub, Int.reduceLE, Int.reduceLT, Int.reduceEq, Int.reduceToNat, Int.reducePow, Int.reduceNeg, mset]
    refine fin _ _ q2 ⟨-1, 0, l, 0⟩ rfl rfl rfl ?_ (by omega)
    cases σ with
    | ok a => exact absurd h.code hc
    | error e => exact hq2

theorem patom_callK {s : List UInt8} (hs : s.length ≤ 140737488351232) {σ : PR Nat} {q : PSt} (h : PS s σ q) {dst : Option Nat} {ops : List AOper} {K : St → Prop} {t : Fr} {m : Mem} {n : Nat} (hm0 : mget m 0 = some (parC q)) (hm1 : mget m 1 = some (lexQ s q))
    (hk : ∀ (x : Atom) q', PQ s (thn σ (tAtom.run s)) x q' → runOps Tryd.prog ops ⟨putF t dst (.agg (atC x)), mset (mset m 0 (parC q')) 1 (lexQ s q'), n + 2⟩ K) : callK Tryd.prog 76 [.ptr 0 0] dst ops K t m n := by
  refine par_callK (rest := []) (Q := fun r q' => ∃ x : Atom, r = .agg (atC x) ∧ PQ s (thn σ (tAtom.run s)) x q') (patom_calls hs h) rfl ?_ hm0 hm1 ?_
  · rintro _ _ ⟨x, rfl, _⟩; exact atC_in _ x
  · rintro _ q' ⟨x, rfl, h⟩; exact hk x q' h

end Go.Proofs.YtpfbljkfbjjlkaaDoor

/- The parser's loops: threads' instructions, what locations begin with. -/
namespace Go.Proofs.YtpfbljkfbjjlkaaDoor
open Go Go.Jq
set_option maxRecDepth 100000
set_option linter.unusedSimpArgs false

/-! ### Progress -/

/-- What comes to something goes on. -/
def PT.Prog {α : Type} (t : PT α) : Prop := ∀ (s : List UInt8) (a : Nat) (x : α) (b : Nat), a ≤ s.length → (nextW s a).2.2 = 0 → t.run s a = .ok (x, b) → a < b

theorem eat_prog {α : Type} {s : List UInt8} {k : PT α} {a b : Nat} {x : α} (ha : a ≤ s.length) (h0 : (nextW s a).2.2 = 0) (h4 : (curT s a).kd ≠ 4) (h : (PT.eat k).run s a = .ok (x, b)) : a < b := by
  simp only [PT.run] at h
  split at h
  · rename_i e he
    obtain ⟨rfl, _⟩ := eatW_ok he
    have h1 := nextW_to ha
    have h2 := h1.2.2 h0 h4
    have h3 := k.run_le h1.2.1 h
    omega
  · cases h

theorem prog_bind {α β : Type} {t : PT α} {f : α → PT β} (h : t.Prog) : (t.bind f).Prog := by
  intro s a y b ha h0 hr
  rw [PT.run_bind] at hr
  cases ht : t.run s a with
  | error e => rw [ht] at hr; cases hr
  | ok p =>
    obtain ⟨x, c⟩ := p
    rw [ht] at hr
    have h1 := h s a x c ha h0 ht
    have h2 := t.run_le ha ht
    have h3 := (f x).run_le h2.2 hr
    omega

theorem isK_kd {d : Int} {y x : List UInt8} (h : isK d y x = true) : d ≠ 4 := by
  rintro rfl
  simp [isK] at h

theorem prog_take {α : Type} {x : List UInt8} {yes no : PT α} (h : no.Prog) : (tTake x yes no).Prog := by
  intro s a y b ha h0 hr
  unfold tTake at hr
  simp only [PT.run] at hr
  by_cases hk : isK (curT s a).kd (curT s a).tx x = true
  · rw [if_pos hk] at hr
    exact eat_prog ha h0 (isK_kd hk) hr
  · rw [if_neg hk] at hr
    exact h s a y b ha h0 hr

theorem prog_named (f : List UInt8 → Option Int) : (tNamed f).Prog := by
  intro s a y b ha h0 hr
  unfold tNamed at hr
  simp only [PT.run] at hr
  by_cases hk : (curT s a).kd = 1
  · rw [if_pos hk] at hr
    cases hf : f (curT s a).tx with
    | none => rw [hf] at hr; cases hr
    | some n => rw [hf] at hr; exact eat_prog ha h0 (by rw [hk]; decide) hr
  · rw [if_neg hk] at hr
    cases hr

theorem prog_init : tInit.Prog := prog_bind (prog_named _)
theorem prog_insE : tInsE.Prog := prog_bind (prog_take (prog_take (prog_take (prog_bind (prog_named _)))))
theorem prog_atom : tAtom.Prog := by
  refine prog_bind ?_
  intro s a y b ha h0 hr
  unfold tWho at hr
  simp only [PT.run] at hr
  by_cases hk : (curT s a).kd = 2
  · rw [if_pos hk] at hr
    split at hr
    · cases hr
    · exact eat_prog ha h0 (by rw [hk]; decide) hr
  · rw [if_neg hk] at hr
    exact prog_bind (prog_named _) s a y b ha h0 hr

/-! ### Things up to a brace -/

/-- The slice that a list is told as. -/
def slD {α : Type} (enc : α → List DV) (l : List α) : DV := .sl l.length (l.flatMap enc)
/-- How far a loop over things is. -/
structure MI {α : Type} (s : List UInt8) (one : PT α) (σ0 : PR Nat) (f0 : Nat) (acc : List α) (q : PSt) (σ : PR Nat) (f : Nat) : Prop where
  ps : PS s σ q
  to : ∀ l qf, PQ s (thn σ ((tMany one f).run s)) l qf → PQ s (thn σ0 ((tMany one f0).run s)) (acc ++ l) qf
  fuel : ∀ a, σ = .ok a → s.length - a < f
  len : acc.length + f ≤ f0 ∨ (∃ e, σ = .error e) ∧ acc.length ≤ f0

theorem thn_ok {β : Type} {σ : PR Nat} {f : Nat → PR β} {r : β} (h : thn σ f = .ok r) : ∃ a, σ = .ok a ∧ f a = .ok r := by
  cases σ with
  | error e => cases h
  | ok a => exact ⟨a, rfl, h⟩

theorem posR_ok {α : Type} {τ : PR (α × Nat)} {b : Nat} (h : posR τ = .ok b) : ∃ x, τ = .ok (x, b) := by
  cases τ with
  | error e => cases h
  | ok p => exact ⟨p.1, by cases h; rfl⟩

/-- One thing more. -/
theorem MI.next {α : Type} {s : List UInt8} {one : PT α} (hp : one.Prog) {σ0 : PR Nat} {f0 : Nat} {acc : List α} {q : PSt} {a f : Nat} (h : MI s one σ0 f0 acc q (.ok a) f) (hb : tkB q [125] = false) {x : α} {q' : PSt} (hq : PQ s (one.run s a) x q') :
    ∃ f', f = f' + 1 ∧ MI s one σ0 f0 (acc ++ [x]) q' (posR (one.run s a)) f' := by
  have hf := h.fuel a rfl
  obtain ⟨f', rfl⟩ : ∃ f', f = f' + 1 := ⟨f - 1, by omega⟩
  refine ⟨f', rfl, ⟨hq.ps, fun l qf hl => ?_, fun b hb' => ?_, ?_⟩⟩
  · have : PQ s (thn (.ok a) ((tMany one (f' + 1)).run s)) (x :: l) qf := by
      refine PQ.take_no h.ps hb ?_
      refine PQ.bind (σ := .ok a) hq (PQ.bind hl ?_)
      exact PQ.ret hl.ps
    have := h.to _ _ this
    simpa using this
  · obtain ⟨y, hy⟩ := posR_ok hb'
    have h1 := hp s a y b h.ps.1 h.ps.2.1 hy
    have h2 := one.run_le h.ps.1 hy
    omega
  · rcases h.len with hl | ⟨⟨e, he⟩, _⟩
    · left
      simp only [List.length_append, List.length_cons, List.length_nil]
      omega
    · cases he

/-- The end of it. -/
theorem MI.done {α : Type} {s : List UInt8} {one : PT α} {σ0 : PR Nat} {f0 : Nat} {acc : List α} {q : PSt} {a f : Nat} (h : MI s one σ0 f0 acc q (.ok a) f) (hb : tkB q [125] = true) {q' : PSt} (hq : PS s (eatW s a) q') :
    PQ s (thn σ0 ((tMany one f0).run s)) acc q' := by
  have hf := h.fuel a rfl
  obtain ⟨f', rfl⟩ : ∃ f', f = f' + 1 := ⟨f - 1, by omega⟩
  have : PQ s (thn (.ok a) ((tMany one (f' + 1)).run s)) [] q' := PQ.take_yes h.ps hb (PQ.ret hq)
  have := h.to _ _ this
  simpa using this

theorem MI.err {α : Type} {s : List UInt8} {one : PT α} {σ0 : PR Nat} {f0 : Nat} {acc : List α} {q : PSt} {e : PE} {f : Nat} (h : MI s one σ0 f0 acc q (.error e) f) : PQ s (thn σ0 ((tMany one f0).run s)) acc q := by
  have := h.to [] q h.ps
  simpa using this

theorem MI.start {α : Type} {s : List UInt8} {one : PT α} {σ : PR Nat} {q : PSt} (hs : s.length ≤ 4000) (h : PS s σ q) : MI s one σ fuelP [] q σ fuelP :=
  ⟨h, fun l qf hl => hl, fun a _ => by unfold fuelP; omega, .inl (by simp)⟩

theorem MI.short {α : Type} {s : List UInt8} {one : PT α} {σ0 σ : PR Nat} {acc : List α} {q : PSt} {f : Nat} (h : MI s one σ0 fuelP acc q σ f) : acc.length ≤ 4001 := by
  rcases h.len with h | h
  · unfold fuelP at h; omega
  · exact h.2

def thS (s : List UInt8) (acc : List Ins) (q : PSt) : St := ⟨[(3, .sl 2 9 0 acc.length), (0, .ptr 0 0)], [(0, parC q), (1, lexQ s q), (2, (acc.flatMap Ins.cells).map .d)], 3⟩

theorem ins_flat (l : List Ins) : (l.flatMap Ins.cells).length = l.length * 9 := by
  induction l with
  | nil => rfl
  | cons x l ih => simp only [List.flatMap_cons, List.length_append, ins_len, List.length_cons, ih]; omega

set_option maxHeartbeats 16000000 in
theorem pth_loop {s : List UInt8} (hs : s.length ≤ 4000) {σ0 : PR Nat} {q0 : PSt} (h0 : PS s σ0 q0) {Q : Exit → St → Prop}
    (hQ : ∀ acc q', acc.length ≤ 4001 → PQ s (thn σ0 ((tMany tInsE fuelP).run s)) acc q' → Q (.exit 0) (thS s acc q')) :
    BWP Tryd.prog 2 21 (.loop ac49L0) (thS s [] q0) Q := by
  have hs' : s.length ≤ 140737488351232 := by omega
  refine bwp_fam (ι := { p : List Ins × PSt × PR Nat × Nat // MI s tInsE σ0 fuelP p.1 p.2.1 p.2.2.1 p.2.2.2 }) (fun p => thS s p.1.1 p.1.2.1) (fun p => if p.1.2.1.code = 0 then p.1.2.2.2 + 1 else 0) ⟨([], q0, σ0, fuelP), MI.start hs h0⟩ ?_
  rintro ⟨⟨acc, q, σ, f⟩, hI⟩
  simp only at hI ⊢
  unfold ac49L0 thS
  have hshort := hI.short
  have hfl : ((acc.flatMap Ins.cells).map AV.d).length = acc.length * 9 := by rw [List.length_map, ins_flat]
  have hb1 : (acc.length + 1) * 72 ≤ 140737488351232 := by omega
  refine bwp_seq fun K1 hK1 => ?_
  refine bwp_seq fun K hK => bwp_region rfl ?_
  simp -implicitDefEqProofs only [go_sem, ↓reduceIte, Nat.reduceEqDiff, Nat.reduceAdd, Nat.reduceLeDiff, Nat.reduceMul, Nat.reduceSub, Int.reduceLE, Int.reduceLT, Int.reduceEq, Int.reduceToNat, Int.reducePow, Int.reduceNeg]
  refine pok_callK s q rfl rfl ?_
  by_cases hc : q.code = 0
  · obtain ⟨a, rfl⟩ : ∃ a, σ = .ok a := by
      cases σ with
      | ok a => exact ⟨a, rfl⟩
      | error e => exact absurd hc hI.ps.codeE
    simp -implicitDefEqProofs only [go_sem, ↓reduceIte, Nat.reduceEqDiff, Nat.reduceAdd, Nat.reduceLeDiff, Nat.reduceMul, Nat.reduceSub, Int.reduceLE, Int.reduceLT, Int.reduceEq, Int.reduceToNat, Int.reducePow, Int.reduceNeg, mset, eq_true hc, decide_true]
    refine ptake_callK hs' hI.ps [125] rfl rfl ?_
    intro q1 hy hn
    cases hb : tkB q [125] with
    | true =>
      simp -implicitDefEqProofs only [go_sem, ↓reduceIte, Nat.reduceEqDiff, Nat.reduceAdd, Nat.reduceLeDiff, Nat.reduceMul, Nat.reduceSub, Int.reduceLE, Int.reduceLT, Int.reduceEq, Int.reduceToNat, Int.reducePow, Int.reduceNeg, mset]
      refine hK _ ?_; clear hK
      refine bwp_cond false (by simp [ev, fget]) (fun h => nomatch h) (fun _ => ?_)
      refine bwp_leads (S' := thS s acc q1) (Leads.ent [(0, 0), (1, 1), (2, 2)] ⟨by simp [entT, fget, AV.ren, renL, pget, thS, parC, lexQ, lexC], by simp [entM, pinv, mget, mset, renL, AV.ren, pget, renL_append, -List.map_map, thS, parC, lexQ, lexC], rfl, rfl⟩) ?_
      exact bwp_exit (hQ acc q1 hshort (hI.done hb (hy hb)))
    | false =>
      have hq1 := hn hb
      subst hq1
      simp -implicitDefEqProofs only [go_sem, ↓reduceIte, Nat.reduceEqDiff, Nat.reduceAdd, Nat.reduceLeDiff, Nat.reduceMul, Nat.reduceSub, Int.reduceLE, Int.reduceLT, Int.reduceEq, Int.reduceToNat, Int.reducePow, Int.reduceNeg, mset]
      refine hK _ ?_; clear hK
      refine bwp_cond true (by simp [ev, fget]) (fun _ => ?_) (fun h => nomatch h)
      refine bwp_skip ?_
      refine hK1 _ ?_; clear hK1
      refine bwp_block ?_
      refine bwp_seq fun K hK => bwp_region rfl ?_
      simp -implicitDefEqProofs only [go_sem, ↓reduceIte, Nat.reduceEqDiff, Nat.reduceAdd, Nat.reduceLeDiff, Nat.reduceMul, Nat.reduceSub, Int.reduceLE, Int.reduceLT, Int.reduceEq, Int.reduceToNat, Int.reducePow, Int.reduceNeg]
      refine pins_callK (q := q1) hs' hI.ps rfl rfl ?_
      intro x q2 h2
      simp -implicitDefEqProofs only [go_sem, ↓reduceIte, Nat.reduceEqDiff, Nat.reduceAdd, Nat.reduceLeDiff, Nat.reduceMul, Nat.reduceSub, Int.reduceLE, Int.reduceLT, Int.reduceEq, Int.reduceToNat, Int.reducePow, Int.reduceNeg, mset, insC, Ins.cells, hfl, hb1, List.length_append, List.length_map, List.length_cons, List.length_nil]
      refine hK _ ?_; clear hK
      refine bwp_region rfl ?_
      simp -implicitDefEqProofs only [go_sem, ↓reduceIte, Nat.reduceEqDiff, Nat.reduceAdd, Nat.reduceLeDiff, Nat.reduceMul, Nat.reduceSub, Int.reduceLE, Int.reduceLT, Int.reduceEq, Int.reduceToNat, Int.reducePow, Int.reduceNeg]
      refine pmust_callK hs' h2.ps [59] rfl rfl ?_
      intro q3 h3
      simp -implicitDefEqProofs only [go_sem, ↓reduceIte, Nat.reduceEqDiff, Nat.reduceAdd, Nat.reduceLeDiff, Nat.reduceMul, Nat.reduceSub, Int.reduceLE, Int.reduceLT, Int.reduceEq, Int.reduceToNat, Int.reducePow, Int.reduceNeg, mset]
      obtain ⟨f', rfl, hN⟩ := hI.next prog_insE hb (PQ.bind (σ := .ok a) h2 (PQ.bind h3 (PQ.ret h3.ps)))
      refine ⟨⟨(acc ++ [x], q3, _, f'), hN⟩, ?_, ?_⟩
      · simp only [hc, if_true]
        split <;> omega
      · exact Leads.ent [(0, 0), (1, 1), (10, 2)] ⟨by simp [thS, entT, fget, AV.ren, renL, pget], by simp [thS, entM, pinv, mget, mset, renL, AV.ren, pget, renL_append, -List.map_map, parC, lexQ, lexC, Ins.cells], rfl, rfl⟩
  · obtain ⟨e, rfl⟩ : ∃ e, σ = .error e := by
      cases σ with
      | ok a => exact absurd hI.ps.code hc
      | error e => exact ⟨e, rfl⟩
    simp -implicitDefEqProofs only [go_sem, ↓reduceIte, Nat.reduceEqDiff, Nat.reduceAdd, Nat.reduceLeDiff, Nat.reduceMul, Nat.reduceSub, Int.reduceLE, Int.reduceLT, Int.reduceEq, Int.reduceToNat, Int.reducePow, Int.reduceNeg, mset, eq_false hc, decide_false]
    refine hK _ ?_; clear hK
    refine bwp_cond false (by simp [ev, fget]) (fun h => nomatch h) (fun _ => ?_)
    refine bwp_leads (S' := thS s acc q) (Leads.ent [(0, 0), (1, 1), (2, 2)] ⟨by simp [entT, fget, AV.ren, renL, pget, thS, parC, lexQ, lexC], by simp [entM, pinv, mget, mset, renL, AV.ren, pget, renL_append, -List.map_map, thS, parC, lexQ, lexC], rfl, rfl⟩) ?_
    exact bwp_exit (hQ acc q hshort hI.err)

/-- From an own row's end: it is told as data. -/
theorem ins_take (l : List Ins) : (l.flatMap Ins.cells).take (l.length * 9) = l.flatMap Ins.cells := List.take_of_length_le (by rw [ins_flat]; exact Nat.le_refl _)

set_option maxHeartbeats 16000000 in
theorem pthread_calls {s : List UInt8} (hs : s.length ≤ 4000) {σ : PR Nat} {q : PSt} (h : PS s σ q) :
    ACalls Tryd.prog 49 [.ptr 0 0] [(0, parC q), (1, lexQ s q)] fun r m' => ∃ q', m' = [(0, parC q'), (1, lexQ s q')] ∧ ∃ l : List Ins, l.length ≤ 4001 ∧ r = .d (slD Ins.cells l) ∧ PQ s (thn σ (tThread.run s)) l q' := by
  have hs' : s.length ≤ 140737488351232 := by omega
  refine acalls_of Tryd.func49 ac49_ok Tryd.ntmps49 Tryd.results49 rfl ?_
  unfold ac49
  refine bwp_seq fun K hK => bwp_region rfl ?_
  simp -implicitDefEqProofs only [go_sem, ↓reduceIte, Nat.reduceEqDiff, Nat.reduceAdd, Nat.reduceLeDiff, Nat.reduceMul, Nat.reduceSub, Int.reduceLE, Int.reduceLT, Int.reduceEq, Int.reduceToNat, Int.reducePow, Int.reduceNeg]
  refine hK _ ?_; clear hK
  refine bwp_seq fun K hK => bwp_region rfl ?_
  simp -implicitDefEqProofs only [go_sem, ↓reduceIte, Nat.reduceEqDiff, Nat.reduceAdd, Nat.reduceLeDiff, Nat.reduceMul, Nat.reduceSub, Int.reduceLE, Int.reduceLT, Int.reduceEq, Int.reduceToNat, Int.reducePow, Int.reduceNeg]
  refine hK _ ?_; clear hK
  refine bwp_seq fun K hK => bwp_region rfl ?_
  simp -implicitDefEqProofs only [go_sem, ↓reduceIte, Nat.reduceEqDiff, Nat.reduceAdd, Nat.reduceLeDiff, Nat.reduceMul, Nat.reduceSub, Int.reduceLE, Int.reduceLT, Int.reduceEq, Int.reduceToNat, Int.reducePow, Int.reduceNeg]
  refine pmust_callK hs' h [123] rfl rfl ?_
  intro q1 h1
  simp -implicitDefEqProofs only [go_sem, ↓reduceIte, Nat.reduceEqDiff, Nat.reduceAdd, Nat.reduceLeDiff, Nat.reduceMul, Nat.reduceSub, Int.reduceLE, Int.reduceLT, Int.reduceEq, Int.reduceToNat, Int.reducePow, Int.reduceNeg, mset]
  refine hK _ ?_; clear hK
  refine bwp_seq fun K1 hK1 => ?_
  refine bwp_block ?_
  refine bwp_leads (S' := ⟨[(3, .d .nsl), (0, .ptr 0 0)], [(0, parC q1), (1, lexQ s q1)], 2⟩) (Leads.ent [(0, 0), (1, 1)] ⟨by simp [entT, fget, AV.ren, renL, pget, parC, lexQ, lexC], by simp [entM, pinv, mget, mset, renL, AV.ren, pget, renL_append, -List.map_map, parC, lexQ, lexC], rfl, rfl⟩) ?_
  refine bwp_leads (Leads.nil 3 9 rfl rfl) ?_
  refine bwp_leads (S' := thS s [] q1) (Leads.ent [(0, 0), (1, 1), (2, 2)] ⟨by simp [entT, fget, AV.ren, renL, pget, thS, parC, lexQ, lexC], by simp [entM, pinv, mget, mset, renL, AV.ren, pget, renL_append, -List.map_map, thS, parC, lexQ, lexC], rfl, rfl⟩) ?_
  refine pth_loop hs h1.ps ?_
  intro acc q2 hlen h2
  unfold thS
  simp -implicitDefEqProofs only [go_sem, ↓reduceIte, Nat.reduceEqDiff, Nat.reduceAdd, Nat.reduceLeDiff, Nat.reduceMul, Nat.reduceSub, Int.reduceLE, Int.reduceLT, Int.reduceEq, Int.reduceToNat, Int.reducePow, Int.reduceNeg]
  refine hK1 _ ?_; clear hK1
  refine bwp_seq fun K hK => bwp_region rfl ?_
  simp -implicitDefEqProofs only [go_sem, ↓reduceIte, Nat.reduceEqDiff, Nat.reduceAdd, Nat.reduceLeDiff, Nat.reduceMul, Nat.reduceSub, Int.reduceLE, Int.reduceLT, Int.reduceEq, Int.reduceToNat, Int.reducePow, Int.reduceNeg]
  refine hK _ ?_; clear hK
  have htk := ins_take acc
  generalize hds : acc.flatMap Ins.cells = ds at htk
  refine bwp_leads (Leads.frz (S' := ⟨[(2, .d (.sl acc.length ds)), (0, .ptr 0 0)], [(0, parC q2), (1, lexQ s q2)], 2⟩) [(0, 0), (1, 1)] [(2, ds)] ⟨?_, ?_, rfl, rfl, ?_⟩) ?_
  · simp [frzT, fget, AV.cv, cvL, zget, pget, htk]
  · simp [frzM, pinv, zget, mget, cvL, AV.cv, parC, lexQ, lexC, pget]
  · simp [zokFrom, mget, cvL_d]
  refine bwp_ret ?_
  simp only [go_sem]
  refine aend_mem (.d (slD Ins.cells acc)) [(0, 0), (1, 1)] [(0, parC q2), (1, lexQ s q2)] ?_ rfl rfl ?_ ⟨q2, rfl, acc, hlen, rfl, PQ.bind h1 h2⟩
  · simp [resA, resVs, resV, fget, slD, hds]
  · simp [entM, pinv, mget, mset, renL, AV.ren, parC, lexQ, lexC, pget]

def inS (s : List UInt8) (acc : List Init) (q : PSt) : St := ⟨[(3, .sl 2 2 0 acc.length), (0, .ptr 0 0)], [(0, parC q), (1, lexQ s q), (2, (acc.flatMap Init.cells).map .d)], 3⟩

theorem init_flat (l : List Init) : (l.flatMap Init.cells).length = l.length * 2 := by
  induction l with
  | nil => rfl
  | cons x l ih => simp only [List.flatMap_cons, List.length_append, init_len, List.length_cons, ih]; omega
theorem init_take (l : List Init) : (l.flatMap Init.cells).take (l.length * 2) = l.flatMap Init.cells := List.take_of_length_le (by rw [init_flat]; exact Nat.le_refl _)

set_option maxHeartbeats 16000000 in
theorem pin_loop {s : List UInt8} (hs : s.length ≤ 4000) {σ0 : PR Nat} {q0 : PSt} (h0 : PS s σ0 q0) {Q : Exit → St → Prop}
    (hQ : ∀ acc q', acc.length ≤ 4001 → PQ s (thn σ0 ((tMany tInit fuelP).run s)) acc q' → Q (.exit 0) (inS s acc q')) :
    BWP Tryd.prog 2 29 (.loop ac48L0) (inS s [] q0) Q := by
  have hs' : s.length ≤ 140737488351232 := by omega
  refine bwp_fam (ι := { p : List Init × PSt × PR Nat × Nat // MI s tInit σ0 fuelP p.1 p.2.1 p.2.2.1 p.2.2.2 }) (fun p => inS s p.1.1 p.1.2.1) (fun p => if p.1.2.1.code = 0 then p.1.2.2.2 + 1 else 0) ⟨([], q0, σ0, fuelP), MI.start hs h0⟩ ?_
  rintro ⟨⟨acc, q, σ, f⟩, hI⟩
  simp only at hI ⊢
  unfold ac48L0 inS
  have hshort := hI.short
  have hfl : ((acc.flatMap Init.cells).map AV.d).length = acc.length * 2 := by rw [List.length_map, init_flat]
  have hb1 : (acc.length + 1) * 16 ≤ 140737488351232 := by omega
  refine bwp_seq fun K1 hK1 => ?_
  refine bwp_seq fun K hK => bwp_region rfl ?_
  simp -implicitDefEqProofs only [go_sem, ↓reduceIte, Nat.reduceEqDiff, Nat.reduceAdd, Nat.reduceLeDiff, Nat.reduceMul, Nat.reduceSub, Int.reduceLE, Int.reduceLT, Int.reduceEq, Int.reduceToNat, Int.reducePow, Int.reduceNeg]
  refine pok_callK s q rfl rfl ?_
  by_cases hc : q.code = 0
  · obtain ⟨a, rfl⟩ : ∃ a, σ = .ok a := by
      cases σ with
      | ok a => exact ⟨a, rfl⟩
      | error e => exact absurd hc hI.ps.codeE
    simp -implicitDefEqProofs only [go_sem, ↓reduceIte, Nat.reduceEqDiff, Nat.reduceAdd, Nat.reduceLeDiff, Nat.reduceMul, Nat.reduceSub, Int.reduceLE, Int.reduceLT, Int.reduceEq, Int.reduceToNat, Int.reducePow, Int.reduceNeg, mset, eq_true hc, decide_true]
    refine ptake_callK hs' hI.ps [125] rfl rfl ?_
    intro q1 hy hn
    cases hb : tkB q [125] with
    | true =>
      simp -implicitDefEqProofs only [go_sem, ↓reduceIte, Nat.reduceEqDiff, Nat.reduceAdd, Nat.reduceLeDiff, Nat.reduceMul, Nat.reduceSub, Int.reduceLE, Int.reduceLT, Int.reduceEq, Int.reduceToNat, Int.reducePow, Int.reduceNeg, mset]
      refine hK _ ?_; clear hK
      refine bwp_cond false (by simp [ev, fget]) (fun h => nomatch h) (fun _ => ?_)
      refine bwp_leads (S' := inS s acc q1) (Leads.ent [(0, 0), (1, 1), (2, 2)] ⟨by simp [entT, fget, AV.ren, renL, pget, inS, parC, lexQ, lexC], by simp [entM, pinv, mget, mset, renL, AV.ren, pget, renL_append, -List.map_map, inS, parC, lexQ, lexC], rfl, rfl⟩) ?_
      exact bwp_exit (hQ acc q1 hshort (hI.done hb (hy hb)))
    | false =>
      have hq1 := hn hb
      subst hq1
      simp -implicitDefEqProofs only [go_sem, ↓reduceIte, Nat.reduceEqDiff, Nat.reduceAdd, Nat.reduceLeDiff, Nat.reduceMul, Nat.reduceSub, Int.reduceLE, Int.reduceLT, Int.reduceEq, Int.reduceToNat, Int.reducePow, Int.reduceNeg, mset]
      refine hK _ ?_; clear hK
      refine bwp_cond true (by simp [ev, fget]) (fun _ => ?_) (fun h => nomatch h)
      refine bwp_skip ?_
      refine hK1 _ ?_; clear hK1
      refine bwp_block ?_
      refine bwp_seq fun K hK => bwp_region rfl ?_
      simp -implicitDefEqProofs only [go_sem, ↓reduceIte, Nat.reduceEqDiff, Nat.reduceAdd, Nat.reduceLeDiff, Nat.reduceMul, Nat.reduceSub, Int.reduceLE, Int.reduceLT, Int.reduceEq, Int.reduceToNat, Int.reducePow, Int.reduceNeg]
      refine ploc_callK (q := q1) hs' hI.ps rfl rfl ?_
      intro l q2 h2
      simp -implicitDefEqProofs only [go_sem, ↓reduceIte, Nat.reduceEqDiff, Nat.reduceAdd, Nat.reduceLeDiff, Nat.reduceMul, Nat.reduceSub, Int.reduceLE, Int.reduceLT, Int.reduceEq, Int.reduceToNat, Int.reducePow, Int.reduceNeg, mset]
      refine hK _ ?_; clear hK
      refine bwp_seq fun K hK => bwp_region rfl ?_
      simp -implicitDefEqProofs only [go_sem, ↓reduceIte, Nat.reduceEqDiff, Nat.reduceAdd, Nat.reduceLeDiff, Nat.reduceMul, Nat.reduceSub, Int.reduceLE, Int.reduceLT, Int.reduceEq, Int.reduceToNat, Int.reducePow, Int.reduceNeg]
      refine pmust_callK hs' h2.ps [61] rfl rfl ?_
      intro q3 h3
      simp -implicitDefEqProofs only [go_sem, ↓reduceIte, Nat.reduceEqDiff, Nat.reduceAdd, Nat.reduceLeDiff, Nat.reduceMul, Nat.reduceSub, Int.reduceLE, Int.reduceLT, Int.reduceEq, Int.reduceToNat, Int.reducePow, Int.reduceNeg, mset]
      refine hK _ ?_; clear hK
      refine bwp_seq fun K hK => bwp_region rfl ?_
      simp -implicitDefEqProofs only [go_sem, ↓reduceIte, Nat.reduceEqDiff, Nat.reduceAdd, Nat.reduceLeDiff, Nat.reduceMul, Nat.reduceSub, Int.reduceLE, Int.reduceLT, Int.reduceEq, Int.reduceToNat, Int.reducePow, Int.reduceNeg]
      refine pnum_callK hs' h3.ps rfl rfl ?_
      intro v q4 h4
      simp -implicitDefEqProofs only [go_sem, ↓reduceIte, Nat.reduceEqDiff, Nat.reduceAdd, Nat.reduceLeDiff, Nat.reduceMul, Nat.reduceSub, Int.reduceLE, Int.reduceLT, Int.reduceEq, Int.reduceToNat, Int.reducePow, Int.reduceNeg, mset]
      refine hK _ ?_; clear hK
      refine bwp_seq fun K hK => bwp_region rfl ?_
      simp -implicitDefEqProofs only [go_sem, ↓reduceIte, Nat.reduceEqDiff, Nat.reduceAdd, Nat.reduceLeDiff, Nat.reduceMul, Nat.reduceSub, Int.reduceLE, Int.reduceLT, Int.reduceEq, Int.reduceToNat, Int.reducePow, Int.reduceNeg]
      refine pmust_callK hs' h4.ps [59] rfl rfl ?_
      intro q5 h5
      simp -implicitDefEqProofs only [go_sem, ↓reduceIte, Nat.reduceEqDiff, Nat.reduceAdd, Nat.reduceLeDiff, Nat.reduceMul, Nat.reduceSub, Int.reduceLE, Int.reduceLT, Int.reduceEq, Int.reduceToNat, Int.reducePow, Int.reduceNeg, mset]
      refine hK _ ?_; clear hK
      refine bwp_region rfl ?_
      simp -implicitDefEqProofs only [go_sem, ↓reduceIte, Nat.reduceEqDiff, Nat.reduceAdd, Nat.reduceLeDiff, Nat.reduceMul, Nat.reduceSub, Int.reduceLE, Int.reduceLT, Int.reduceEq, Int.reduceToNat, Int.reducePow, Int.reduceNeg, hfl, hb1, List.length_append, List.length_map, List.length_cons, List.length_nil]
      obtain ⟨f', rfl, hN⟩ := hI.next prog_init hb (PQ.bind (σ := .ok a) h2 (PQ.bind h3 (PQ.bind h4 (PQ.bind h5 (PQ.ret h5.ps)))))
      refine ⟨⟨(acc ++ [⟨l, v⟩], q5, _, f'), hN⟩, ?_, ?_⟩
      · simp only [hc, if_true]
        split <;> omega
      · exact Leads.ent [(0, 0), (1, 1), (17, 2)] ⟨by simp [inS, entT, fget, AV.ren, renL, pget], by simp [inS, entM, pinv, mget, mset, renL, AV.ren, pget, renL_append, -List.map_map, parC, lexQ, lexC, Init.cells], rfl, rfl⟩
  · obtain ⟨e, rfl⟩ : ∃ e, σ = .error e := by
      cases σ with
      | ok a => exact absurd hI.ps.code hc
      | error e => exact ⟨e, rfl⟩
    simp -implicitDefEqProofs only [go_sem, ↓reduceIte, Nat.reduceEqDiff, Nat.reduceAdd, Nat.reduceLeDiff, Nat.reduceMul, Nat.reduceSub, Int.reduceLE, Int.reduceLT, Int.reduceEq, Int.reduceToNat, Int.reducePow, Int.reduceNeg, mset, eq_false hc, decide_false]
    refine hK _ ?_; clear hK
    refine bwp_cond false (by simp [ev, fget]) (fun h => nomatch h) (fun _ => ?_)
    refine bwp_leads (S' := inS s acc q) (Leads.ent [(0, 0), (1, 1), (2, 2)] ⟨by simp [entT, fget, AV.ren, renL, pget, inS, parC, lexQ, lexC], by simp [entM, pinv, mget, mset, renL, AV.ren, pget, renL_append, -List.map_map, inS, parC, lexQ, lexC], rfl, rfl⟩) ?_
    exact bwp_exit (hQ acc q hshort hI.err)

set_option maxHeartbeats 16000000 in
theorem pinit_calls {s : List UInt8} (hs : s.length ≤ 4000) {σ : PR Nat} {q : PSt} (h : PS s σ q) :
    ACalls Tryd.prog 48 [.ptr 0 0] [(0, parC q), (1, lexQ s q)] fun r m' => ∃ q', m' = [(0, parC q'), (1, lexQ s q')] ∧ ∃ l : List Init, l.length ≤ 4001 ∧ r = .d (slD Init.cells l) ∧ PQ s (thn σ (tInits.run s)) l q' := by
  have hs' : s.length ≤ 140737488351232 := by omega
  refine acalls_of Tryd.func48 ac48_ok Tryd.ntmps48 Tryd.results48 rfl ?_
  unfold ac48
  refine bwp_seq fun K hK => bwp_region rfl ?_
  simp -implicitDefEqProofs only [go_sem, ↓reduceIte, Nat.reduceEqDiff, Nat.reduceAdd, Nat.reduceLeDiff, Nat.reduceMul, Nat.reduceSub, Int.reduceLE, Int.reduceLT, Int.reduceEq, Int.reduceToNat, Int.reducePow, Int.reduceNeg]
  refine hK _ ?_; clear hK
  refine bwp_seq fun K hK => bwp_region rfl ?_
  simp -implicitDefEqProofs only [go_sem, ↓reduceIte, Nat.reduceEqDiff, Nat.reduceAdd, Nat.reduceLeDiff, Nat.reduceMul, Nat.reduceSub, Int.reduceLE, Int.reduceLT, Int.reduceEq, Int.reduceToNat, Int.reducePow, Int.reduceNeg]
  refine hK _ ?_; clear hK
  refine bwp_seq fun K hK => bwp_region rfl ?_
  simp -implicitDefEqProofs only [go_sem, ↓reduceIte, Nat.reduceEqDiff, Nat.reduceAdd, Nat.reduceLeDiff, Nat.reduceMul, Nat.reduceSub, Int.reduceLE, Int.reduceLT, Int.reduceEq, Int.reduceToNat, Int.reducePow, Int.reduceNeg]
  refine pmust_callK hs' h [123] rfl rfl ?_
  intro q1 h1
  simp -implicitDefEqProofs only [go_sem, ↓reduceIte, Nat.reduceEqDiff, Nat.reduceAdd, Nat.reduceLeDiff, Nat.reduceMul, Nat.reduceSub, Int.reduceLE, Int.reduceLT, Int.reduceEq, Int.reduceToNat, Int.reducePow, Int.reduceNeg, mset]
  refine hK _ ?_; clear hK
  refine bwp_seq fun K1 hK1 => ?_
  refine bwp_block ?_
  refine bwp_leads (S' := ⟨[(3, .d .nsl), (0, .ptr 0 0)], [(0, parC q1), (1, lexQ s q1)], 2⟩) (Leads.ent [(0, 0), (1, 1)] ⟨by simp [entT, fget, AV.ren, renL, pget, parC, lexQ, lexC], by simp [entM, pinv, mget, mset, renL, AV.ren, pget, renL_append, -List.map_map, parC, lexQ, lexC], rfl, rfl⟩) ?_
  refine bwp_leads (Leads.nil 3 2 rfl rfl) ?_
  refine bwp_leads (S' := inS s [] q1) (Leads.ent [(0, 0), (1, 1), (2, 2)] ⟨by simp [entT, fget, AV.ren, renL, pget, inS, parC, lexQ, lexC], by simp [entM, pinv, mget, mset, renL, AV.ren, pget, renL_append, -List.map_map, inS, parC, lexQ, lexC], rfl, rfl⟩) ?_
  refine pin_loop hs h1.ps ?_
  intro acc q2 hlen h2
  unfold inS
  simp -implicitDefEqProofs only [go_sem, ↓reduceIte, Nat.reduceEqDiff, Nat.reduceAdd, Nat.reduceLeDiff, Nat.reduceMul, Nat.reduceSub, Int.reduceLE, Int.reduceLT, Int.reduceEq, Int.reduceToNat, Int.reducePow, Int.reduceNeg]
  refine hK1 _ ?_; clear hK1
  refine bwp_seq fun K hK => bwp_region rfl ?_
  simp -implicitDefEqProofs only [go_sem, ↓reduceIte, Nat.reduceEqDiff, Nat.reduceAdd, Nat.reduceLeDiff, Nat.reduceMul, Nat.reduceSub, Int.reduceLE, Int.reduceLT, Int.reduceEq, Int.reduceToNat, Int.reducePow, Int.reduceNeg]
  refine hK _ ?_; clear hK
  have htk := init_take acc
  generalize hds : acc.flatMap Init.cells = ds at htk
  refine bwp_leads (Leads.frz (S' := ⟨[(2, .d (.sl acc.length ds)), (0, .ptr 0 0)], [(0, parC q2), (1, lexQ s q2)], 2⟩) [(0, 0), (1, 1)] [(2, ds)] ⟨?_, ?_, rfl, rfl, ?_⟩) ?_
  · simp [frzT, fget, AV.cv, cvL, zget, pget, htk]
  · simp [frzM, pinv, zget, mget, cvL, AV.cv, parC, lexQ, lexC, pget]
  · simp [zokFrom, mget, cvL_d]
  refine bwp_ret ?_
  simp only [go_sem]
  refine aend_mem (.d (slD Init.cells acc)) [(0, 0), (1, 1)] [(0, parC q2), (1, lexQ s q2)] ?_ rfl rfl ?_ ⟨q2, rfl, acc, hlen, rfl, PQ.bind h1 h2⟩
  · simp [resA, resVs, resV, fget, slD, hds]
  · simp [entM, pinv, mget, mset, renL, AV.ren, parC, lexQ, lexC, pget]

theorem pthread_callK {s : List UInt8} (hs : s.length ≤ 4000) {σ : PR Nat} {q : PSt} (h : PS s σ q) {dst : Option Nat} {ops : List AOper} {K : St → Prop} {t : Fr} {m : Mem} {n : Nat} (hm0 : mget m 0 = some (parC q)) (hm1 : mget m 1 = some (lexQ s q))
    (hk : ∀ (l : List Ins) q', l.length ≤ 4001 → PQ s (thn σ (tThread.run s)) l q' → runOps Tryd.prog ops ⟨putF t dst (.d (slD Ins.cells l)), mset (mset m 0 (parC q')) 1 (lexQ s q'), n + 2⟩ K) : callK Tryd.prog 49 [.ptr 0 0] dst ops K t m n := by
  refine par_callK (rest := []) (Q := fun r q' => ∃ l : List Ins, l.length ≤ 4001 ∧ r = .d (slD Ins.cells l) ∧ PQ s (thn σ (tThread.run s)) l q') (pthread_calls hs h) rfl ?_ hm0 hm1 ?_
  · rintro _ _ ⟨_, _, rfl, _⟩; rfl
  · rintro _ q' ⟨l, h1, rfl, h⟩; exact hk l q' h1 h

theorem pinit_callK {s : List UInt8} (hs : s.length ≤ 4000) {σ : PR Nat} {q : PSt} (h : PS s σ q) {dst : Option Nat} {ops : List AOper} {K : St → Prop} {t : Fr} {m : Mem} {n : Nat} (hm0 : mget m 0 = some (parC q)) (hm1 : mget m 1 = some (lexQ s q))
    (hk : ∀ (l : List Init) q', l.length ≤ 4001 → PQ s (thn σ (tInits.run s)) l q' → runOps Tryd.prog ops ⟨putF t dst (.d (slD Init.cells l)), mset (mset m 0 (parC q')) 1 (lexQ s q'), n + 2⟩ K) : callK Tryd.prog 48 [.ptr 0 0] dst ops K t m n := by
  refine par_callK (rest := []) (Q := fun r q' => ∃ l : List Init, l.length ≤ 4001 ∧ r = .d (slD Init.cells l) ∧ PQ s (thn σ (tInits.run s)) l q') (pinit_calls hs h) rfl ?_ hm0 hm1 ?_
  · rintro _ _ ⟨_, _, rfl, _⟩; rfl
  · rintro _ q' ⟨l, h1, rfl, h⟩; exact hk l q' h1 h

end Go.Proofs.YtpfbljkfbjjlkaaDoor

/- The parser's conditions. -/
namespace Go.Proofs.YtpfbljkfbjjlkaaDoor
open Go Go.Jq
set_option maxRecDepth 100000
set_option linter.unusedSimpArgs false

theorem atom_flat (l : List Atom) : (l.flatMap Atom.cells).length = l.length * 4 := by
  induction l with
  | nil => rfl
  | cons x l ih => simp only [List.flatMap_cons, List.length_append, atom_len, List.length_cons, ih]; omega
theorem atom_take (l : List Atom) : (l.flatMap Atom.cells).take (l.length * 4) = l.flatMap Atom.cells := List.take_of_length_le (by rw [atom_flat]; exact Nat.le_refl _)

/-- How far the loop over a row's atoms is. -/
structure RI (s : List UInt8) (σ0 : PR Nat) (f0 : Nat) (acc : List Atom) (q : PSt) (σ : PR Nat) (f : Nat) : Prop where
  ps : PS s σ q
  to : ∀ l qf, PQ s (thn σ ((tRow f).run s)) l qf → PQ s (thn σ0 ((tRow f0).run s)) (acc ++ l) qf
  fuel : ∀ a, σ = .ok a → s.length - a < f
  len : acc.length + f ≤ f0 ∨ (∃ e, σ = .error e) ∧ acc.length ≤ f0

theorem tkB_ok {s : List UInt8} {σ : PR Nat} {q : PSt} {x : List UInt8} (h : PS s σ q) (hb : tkB q x = true) : ∃ a, σ = .ok a ∧ (curT s a).kd ≠ 4 := by
  cases σ with
  | error e =>
    exfalso
    unfold tkB at hb
    simp only [Bool.and_eq_true, decide_eq_true_eq] at hb
    exact h.codeE hb.1
  | ok a =>
    refine ⟨a, rfl, ?_⟩
    unfold tkB at hb
    simp only [Bool.and_eq_true, decide_eq_true_eq] at hb
    rw [← h.2.2.1]
    exact isK_kd hb.2

theorem eatW_lt {s : List UInt8} {a b : Nat} (ha : a ≤ s.length) (h0 : (nextW s a).2.2 = 0) (h4 : (curT s a).kd ≠ 4) (h : eatW s a = .ok b) : a < b ∧ b ≤ s.length := by
  obtain ⟨rfl, _⟩ := eatW_ok h
  have h1 := nextW_to ha
  exact ⟨h1.2.2 h0 h4, h1.2.1⟩

theorem RI.next {s : List UInt8} {σ0 : PR Nat} {f0 : Nat} {acc : List Atom} {q : PSt} {σ : PR Nat} {f : Nat} (h : RI s σ0 f0 acc q σ f) (hb : tkB q [38] = true) {x : Atom} {q' : PSt} (hq : PQ s (thn (thn σ (eatW s)) (tAtom.run s)) x q') :
    ∃ f', f = f' + 1 ∧ RI s σ0 f0 (acc ++ [x]) q' (posR (thn (thn σ (eatW s)) (tAtom.run s))) f' := by
  obtain ⟨a, rfl, h4⟩ := tkB_ok h.ps hb
  have hf := h.fuel a rfl
  obtain ⟨f', rfl⟩ : ∃ f', f = f' + 1 := ⟨f - 1, by omega⟩
  refine ⟨f', rfl, ⟨hq.ps, fun l qf hl => ?_, fun b hb' => ?_, ?_⟩⟩
  · have : PQ s (thn (.ok a) ((tRow (f' + 1)).run s)) (x :: l) qf := PQ.take_yes h.ps hb (PQ.bind hq (PQ.bind hl (PQ.ret hl.ps)))
    have := h.to _ _ this
    simpa using this
  · obtain ⟨y, hy⟩ := posR_ok hb'
    obtain ⟨c, hc, hy'⟩ := thn_ok hy
    have h1 := eatW_lt h.ps.1 h.ps.2.1 h4 hc
    have h2 := tAtom.run_le h1.2 hy'
    omega
  · rcases h.len with hl | ⟨⟨e, he⟩, _⟩
    · left
      simp only [List.length_append, List.length_cons, List.length_nil]
      omega
    · cases he

theorem RI.done {s : List UInt8} {σ0 : PR Nat} {f0 : Nat} {acc : List Atom} {q : PSt} {σ : PR Nat} {f : Nat} (h : RI s σ0 f0 acc q σ f) (hb : tkB q [38] = false) : PQ s (thn σ0 ((tRow f0).run s)) acc q := by
  have : PQ s (thn σ ((tRow f).run s)) [] q := by
    cases σ with
    | error e => exact h.ps
    | ok a =>
      have hf := h.fuel a rfl
      obtain ⟨f', rfl⟩ : ∃ f', f = f' + 1 := ⟨f - 1, by omega⟩
      exact PQ.take_no h.ps hb (PQ.ret h.ps)
  have := h.to _ _ this
  simpa using this

theorem RI.start {s : List UInt8} {σ : PR Nat} {q : PSt} (hs : s.length ≤ 4000) (h : PS s σ q) : RI s σ fuelP [] q σ fuelP :=
  ⟨h, fun l qf hl => hl, fun a _ => by unfold fuelP; omega, .inl (by simp)⟩

theorem RI.short {s : List UInt8} {σ0 σ : PR Nat} {acc : List Atom} {q : PSt} {f : Nat} (h : RI s σ0 fuelP acc q σ f) : acc.length ≤ 4001 := by
  rcases h.len with h | h
  · unfold fuelP at h; omega
  · exact h.2

/-- The rows so far, as cells. -/
def rowsC (accs : List (List Atom)) : List DV := accs.map (slD Atom.cells)

def icS (s : List UInt8) (kind : Int) (accs : List (List Atom)) (row : List Atom) (q : PSt) : St :=
  ⟨[(6, .sl 5 4 0 row.length), (4, .ptr 2 0), (5, .ptr 3 0), (0, .ptr 0 0)], [(0, parC q), (1, lexQ s q), (2, [.d (.int .i64 0), .d .nsl]), (3, [.d (.int .i64 kind), .sl 4 1 0 accs.length]), (4, (rowsC accs).map .d), (5, (row.flatMap Atom.cells).map .d)], 6⟩

set_option maxHeartbeats 16000000 in
theorem pco_loop0 {s : List UInt8} (hs : s.length ≤ 4000) {kind : Int} {accs : List (List Atom)} {x0 : Atom} {σ0 : PR Nat} {q0 : PSt} (h0 : PS s σ0 q0) {Q : Exit → St → Prop}
    (hQ : ∀ acc q', acc.length ≤ 4001 → PQ s (thn σ0 ((tRow fuelP).run s)) acc q' → Q (.exit 2) (icS s kind accs (x0 :: acc) q')) :
    BWP Tryd.prog 2 31 (.loop ac50L0) (icS s kind accs [x0] q0) Q := by
  have hs' : s.length ≤ 140737488351232 := by omega
  refine bwp_fam (ι := { p : List Atom × PSt × PR Nat × Nat // RI s σ0 fuelP p.1 p.2.1 p.2.2.1 p.2.2.2 }) (fun p => icS s kind accs (x0 :: p.1.1) p.1.2.1) (fun p => if p.1.2.1.code = 0 then p.1.2.2.2 + 1 else 0) ⟨([], q0, σ0, fuelP), RI.start hs h0⟩ ?_
  rintro ⟨⟨acc, q, σ, f⟩, hI⟩
  simp only at hI ⊢
  unfold ac50L0 icS
  have hshort := hI.short
  have hfl : (((x0 :: acc).flatMap Atom.cells).map AV.d).length = (acc.length + 1) * 4 := by rw [List.length_map, atom_flat, List.length_cons]
  have hll : (x0 :: acc).length = acc.length + 1 := List.length_cons
  have hb1 : (acc.length + 1 + 1) * 32 ≤ 140737488351232 := by omega
  generalize hrow : (x0 :: acc).flatMap Atom.cells = row at *
  generalize hcs : (rowsC accs).map AV.d = cs
  have hcr : ∀ π, renL π cs = cs := fun π => by rw [← hcs]; exact renL_d _ _
  refine bwp_seq fun K1 hK1 => ?_
  refine bwp_seq fun K hK => bwp_region rfl ?_
  simp -implicitDefEqProofs only [go_sem, ↓reduceIte, Nat.reduceEqDiff, Nat.reduceAdd, Nat.reduceLeDiff, Nat.reduceMul, Nat.reduceSub, Int.reduceLE, Int.reduceLT, Int.reduceEq, Int.reduceToNat, Int.reducePow, Int.reduceNeg]
  refine ptake_callK hs' hI.ps [38] rfl rfl ?_
  intro q1 hy hn
  cases hb : tkB q [38] with
  | false =>
    have hq1 := hn hb
    subst hq1
    simp -implicitDefEqProofs only [go_sem, ↓reduceIte, Nat.reduceEqDiff, Nat.reduceAdd, Nat.reduceLeDiff, Nat.reduceMul, Nat.reduceSub, Int.reduceLE, Int.reduceLT, Int.reduceEq, Int.reduceToNat, Int.reducePow, Int.reduceNeg, mset]
    refine hK _ ?_; clear hK
    refine bwp_cond false (by simp [ev, fget]) (fun h => nomatch h) (fun _ => ?_)
    refine bwp_leads (S' := icS s kind accs (x0 :: acc) q1) (Leads.ent [(0, 0), (1, 1), (2, 2), (3, 3), (4, 4), (5, 5)] ⟨by simp [icS, entT, fget, AV.ren, renL, pget], ?_, rfl, rfl⟩) ?_
    · rw [← hrow, ← hcs]
      simp [icS, entM, pinv, mget, mset, renL, AV.ren, pget, renL_append, -List.map_map, parC, lexQ, lexC]
    exact bwp_exit (hQ acc q1 hshort (hI.done hb))
  | true =>
    have h1 := hy hb
    simp -implicitDefEqProofs only [go_sem, ↓reduceIte, Nat.reduceEqDiff, Nat.reduceAdd, Nat.reduceLeDiff, Nat.reduceMul, Nat.reduceSub, Int.reduceLE, Int.reduceLT, Int.reduceEq, Int.reduceToNat, Int.reducePow, Int.reduceNeg, mset]
    refine hK _ ?_; clear hK
    refine bwp_cond true (by simp [ev, fget]) (fun _ => ?_) (fun h => nomatch h)
    refine bwp_skip ?_
    refine hK1 _ ?_; clear hK1
    refine bwp_block ?_
    refine bwp_region rfl ?_
    simp -implicitDefEqProofs only [go_sem, ↓reduceIte, Nat.reduceEqDiff, Nat.reduceAdd, Nat.reduceLeDiff, Nat.reduceMul, Nat.reduceSub, Int.reduceLE, Int.reduceLT, Int.reduceEq, Int.reduceToNat, Int.reducePow, Int.reduceNeg]
    refine patom_callK hs' h1 rfl rfl ?_
    intro x q2 h2
    simp -implicitDefEqProofs only [go_sem, ↓reduceIte, Nat.reduceEqDiff, Nat.reduceAdd, Nat.reduceLeDiff, Nat.reduceMul, Nat.reduceSub, Int.reduceLE, Int.reduceLT, Int.reduceEq, Int.reduceToNat, Int.reducePow, Int.reduceNeg, mset, atC, Atom.cells, hfl, hb1, List.length_append, List.length_map, List.length_cons, List.length_nil]
    obtain ⟨f', rfl, hN⟩ := hI.next hb h2
    have hrow' : (x0 :: (acc ++ [x])).flatMap Atom.cells = row ++ Atom.cells x := by rw [← hrow]; simp
    have hc : q.code = 0 := by
      obtain ⟨a, ha, _⟩ := tkB_ok hI.ps hb
      have := hI.ps
      rw [ha] at this
      exact this.code
    refine ⟨⟨(acc ++ [x], q2, _, f'), hN⟩, ?_, ?_⟩
    · simp only [hc, if_true]
      split <;> omega
    · refine Leads.ent [(0, 0), (1, 1), (2, 2), (3, 3), (4, 4), (11, 5)] ⟨by simp [entT, fget, AV.ren, renL, pget], ?_, rfl, rfl⟩
      simp only [hrow']
      simp [entM, pinv, mget, mset, renL, AV.ren, pget, renL_append, -List.map_map, parC, lexQ, lexC, hcr, Atom.cells]

/-- How far the loop over rows is. -/
structure OI (s : List UInt8) (σ0 : PR Nat) (f0 : Nat) (acc : List (List Atom)) (q : PSt) (σ : PR Nat) (f : Nat) : Prop where
  ps : PS s σ q
  to : ∀ l qf, PQ s (thn σ ((tRows f).run s)) l qf → PQ s (thn σ0 ((tRows f0).run s)) (acc ++ l) qf
  fuel : ∀ a, σ = .ok a → s.length - a < f
  len : acc.length + f ≤ f0 ∨ (∃ e, σ = .error e) ∧ acc.length ≤ f0
  rows : ∀ l ∈ acc, l.length ≤ 4002

theorem OI.start {s : List UInt8} {σ : PR Nat} {q : PSt} (hs : s.length ≤ 4000) (h : PS s σ q) : OI s σ fuelP [] q σ fuelP :=
  ⟨h, fun l qf hl => hl, fun a _ => by unfold fuelP; omega, .inl (by simp), fun l hl => by cases hl⟩

theorem OI.short {s : List UInt8} {σ0 σ : PR Nat} {acc : List (List Atom)} {q : PSt} {f : Nat} (h : OI s σ0 fuelP acc q σ f) : acc.length ≤ 4001 := by
  rcases h.len with h | h
  · unfold fuelP at h; omega
  · exact h.2

theorem OI.next {s : List UInt8} {σ0 : PR Nat} {f0 : Nat} {acc : List (List Atom)} {q : PSt} {σ : PR Nat} {f : Nat} (h : OI s σ0 f0 acc q σ f) {x : Atom} {l : List Atom} {q1 q2 q3 : PSt} (h1 : PQ s (thn σ (tAtom.run s)) x q1)
    (h2 : PQ s (thn (posR (thn σ (tAtom.run s))) ((tRow fuelP).run s)) l q2) (hl : l.length ≤ 4001) (hb : tkB q2 [124] = true) (h3 : PS s (thn (posR (thn (posR (thn σ (tAtom.run s))) ((tRow fuelP).run s))) (eatW s)) q3) :
    ∃ f', f = f' + 1 ∧ OI s σ0 f0 (acc ++ [x :: l]) q3 (thn (posR (thn (posR (thn σ (tAtom.run s))) ((tRow fuelP).run s))) (eatW s)) f' ∧ q.code = 0 := by
  obtain ⟨c, hc, h4⟩ := tkB_ok h2.ps hb
  obtain ⟨l', hl'⟩ := posR_ok hc
  obtain ⟨b, hb', hrow⟩ := thn_ok hl'
  obtain ⟨x', hx'⟩ := posR_ok hb'
  obtain ⟨a, rfl, hat⟩ := thn_ok hx'
  have hf := h.fuel a rfl
  obtain ⟨f', rfl⟩ : ∃ f', f = f' + 1 := ⟨f - 1, by omega⟩
  have p1 := prog_atom s a x' b h.ps.1 h.ps.2.1 hat
  have p2 := tAtom.run_le h.ps.1 hat
  have p3 := (tRow fuelP).run_le p2.2 hrow
  refine ⟨f', rfl, ⟨h3, fun r qf hr => ?_, fun d hd => ?_, ?_, fun l0 hl0 => ?_⟩, h.ps.code⟩
  · have : PQ s (thn (.ok a) ((tRows (f' + 1)).run s)) ((x :: l) :: r) qf := PQ.bind h1 (PQ.bind h2 (PQ.take_yes h2.ps hb (PQ.bind hr (PQ.ret hr.ps))))
    have := h.to _ _ this
    simpa using this
  · rw [hc] at hd
    have hps := h2.ps
    rw [hc] at hps
    have := eatW_lt hps.1 hps.2.1 h4 hd
    omega
  · rcases h.len with hl | ⟨⟨e, he⟩, _⟩
    · left
      simp only [List.length_append, List.length_cons, List.length_nil]
      omega
    · cases he
  · rcases List.mem_append.1 hl0 with h' | h'
    · exact h.rows l0 h'
    · simp only [List.mem_cons, List.not_mem_nil, or_false] at h'
      subst h'
      simp only [List.length_cons]
      omega

theorem OI.done {s : List UInt8} {σ0 : PR Nat} {f0 : Nat} {acc : List (List Atom)} {q : PSt} {σ : PR Nat} {f : Nat} (h : OI s σ0 f0 acc q σ f) {x : Atom} {l : List Atom} {q1 q2 : PSt} (h1 : PQ s (thn σ (tAtom.run s)) x q1)
    (h2 : PQ s (thn (posR (thn σ (tAtom.run s))) ((tRow fuelP).run s)) l q2) (hb : tkB q2 [124] = false) : PQ s (thn σ0 ((tRows f0).run s)) (acc ++ [x :: l]) q2 := by
  refine h.to _ _ ?_
  cases σ with
  | error e => exact h2.ps
  | ok a =>
    have hf := h.fuel a rfl
    obtain ⟨f', rfl⟩ : ∃ f', f = f' + 1 := ⟨f - 1, by omega⟩
    exact PQ.bind h1 (PQ.bind h2 (PQ.take_no h2.ps hb (PQ.ret h2.ps)))

def ocS (s : List UInt8) (kind : Int) (accs : List (List Atom)) (q : PSt) : St :=
  ⟨[(4, .ptr 2 0), (5, .ptr 3 0), (0, .ptr 0 0)], [(0, parC q), (1, lexQ s q), (2, [.d (.int .i64 0), .d .nsl]), (3, [.d (.int .i64 kind), .sl 4 1 0 accs.length]), (4, (rowsC accs).map .d)], 5⟩

theorem rowsC_len (accs : List (List Atom)) : (rowsC accs).length = accs.length := by simp [rowsC]
theorem rowsC_snoc (accs : List (List Atom)) (l : List Atom) : rowsC (accs ++ [l]) = rowsC accs ++ [slD Atom.cells l] := by simp [rowsC]

/-- Rows as data. -/
def rowsD (rows : List (List Atom)) : DV := .sl rows.length (rowsC rows)

set_option maxHeartbeats 32000000 in
theorem pco_loop1 {s : List UInt8} (hs : s.length ≤ 4000) {kind : Int} {σ0 : PR Nat} {q0 : PSt} (h0 : PS s σ0 q0) {Q : Exit → St → Prop}
    (hR : ∀ (rows : List (List Atom)) q', rows.length ≤ 4002 → (∀ l ∈ rows, l.length ≤ 4002) → PQ s (thn σ0 ((tAsk kind).run s)) (kind, rows) q' →
      Q .ret ⟨[(4, .ptr 2 0)], [(0, parC q'), (1, lexQ s q'), (2, [.d (.int .i64 kind), .d (rowsD rows)])], 3⟩) :
    BWP Tryd.prog 2 31 (.loop ac50L1) (ocS s kind [] q0) Q := by
  have hs' : s.length ≤ 140737488351232 := by omega
  refine bwp_fam (ι := { p : List (List Atom) × PSt × PR Nat × Nat // OI s σ0 fuelP p.1 p.2.1 p.2.2.1 p.2.2.2 }) (fun p => ocS s kind p.1.1 p.1.2.1) (fun p => if p.1.2.1.code = 0 then p.1.2.2.2 + 1 else 0) ⟨([], q0, σ0, fuelP), OI.start hs h0⟩ ?_
  rintro ⟨⟨accs, q, σ, f⟩, hI⟩
  simp only at hI ⊢
  unfold ac50L1 ocS
  have hshort := hI.short
  refine bwp_block ?_
  refine bwp_seq fun K hK => bwp_region rfl ?_
  simp -implicitDefEqProofs only [go_sem, ↓reduceIte, Nat.reduceEqDiff, Nat.reduceAdd, Nat.reduceLeDiff, Nat.reduceMul, Nat.reduceSub, Int.reduceLE, Int.reduceLT, Int.reduceEq, Int.reduceToNat, Int.reducePow, Int.reduceNeg]
  refine patom_callK hs' hI.ps rfl rfl ?_
  intro x q1 h1
  simp -implicitDefEqProofs only [go_sem, ↓reduceIte, Nat.reduceEqDiff, Nat.reduceAdd, Nat.reduceLeDiff, Nat.reduceMul, Nat.reduceSub, Int.reduceLE, Int.reduceLT, Int.reduceEq, Int.reduceToNat, Int.reducePow, Int.reduceNeg, mset, atC, Atom.cells]
  refine hK _ ?_; clear hK
  refine bwp_seq fun K1 hK1 => ?_
  refine bwp_block ?_
  have hcr : ∀ π, renL π ((rowsC accs).map AV.d) = (rowsC accs).map .d := fun π => renL_d _ _
  have hcl : ((rowsC accs).map AV.d).length = accs.length := by rw [List.length_map, rowsC_len]
  have hb1 : (accs.length + 1) * 24 ≤ 140737488351232 := by omega
  refine bwp_leads (S' := icS s kind accs [x] q1) (Leads.ent [(0, 0), (1, 1), (2, 2), (3, 3), (4, 4), (7, 5)] ⟨by simp [icS, entT, fget, AV.ren, renL, pget], ?_, rfl, rfl⟩) ?_
  · simp [icS, entM, pinv, mget, mset, renL, AV.ren, pget, renL_append, -List.map_map, parC, lexQ, lexC, Atom.cells]
  refine pco_loop0 hs h1.ps ?_
  intro acc q2 hlen h2
  unfold icS
  simp -implicitDefEqProofs only [go_sem, ↓reduceIte, Nat.reduceEqDiff, Nat.reduceAdd, Nat.reduceLeDiff, Nat.reduceMul, Nat.reduceSub, Int.reduceLE, Int.reduceLT, Int.reduceEq, Int.reduceToNat, Int.reducePow, Int.reduceNeg]
  refine hK1 _ ?_; clear hK1
  have htk := atom_take (x :: acc)
  have hll : (x :: acc).length = acc.length + 1 := List.length_cons
  have hsn := rowsC_snoc accs (x :: acc)
  have hsd : slD Atom.cells (x :: acc) = .sl (acc.length + 1) ((x :: acc).flatMap Atom.cells) := by simp only [slD, hll]
  rw [hll] at htk
  generalize hds : (x :: acc).flatMap Atom.cells = ds at htk hsd
  refine bwp_leads (Leads.frz (S' := ⟨[(6, .d (.sl (acc.length + 1) ds)), (4, .ptr 2 0), (5, .ptr 3 0), (0, .ptr 0 0)], [(0, parC q2), (1, lexQ s q2), (2, [.d (.int .i64 0), .d .nsl]), (3, [.d (.int .i64 kind), .sl 4 1 0 accs.length]), (4, (rowsC accs).map .d)], 5⟩) [(0, 0), (1, 1), (2, 2), (3, 3), (4, 4)] [(5, ds)] ⟨?_, ?_, rfl, rfl, ?_⟩) ?_
  · simp [frzT, fget, AV.cv, cvL, zget, pget, htk]
  · simp [frzM, pinv, zget, mget, cvL, AV.cv, parC, lexQ, lexC, pget, cvL_d, -List.map_map]
  · simp [zokFrom, mget, cvL_d]
  generalize hcs : (rowsC accs).map AV.d = cs at *
  refine bwp_seq fun K hK => bwp_region rfl ?_
  simp -implicitDefEqProofs only [go_sem, ↓reduceIte, Nat.reduceEqDiff, Nat.reduceAdd, Nat.reduceLeDiff, Nat.reduceMul, Nat.reduceSub, Int.reduceLE, Int.reduceLT, Int.reduceEq, Int.reduceToNat, Int.reducePow, Int.reduceNeg, hcl, hb1, List.length_append, List.length_map, List.length_cons, List.length_nil]
  refine hK _ ?_; clear hK
  refine bwp_seq fun K hK => bwp_region rfl ?_
  simp -implicitDefEqProofs only [go_sem, ↓reduceIte, Nat.reduceEqDiff, Nat.reduceAdd, Nat.reduceLeDiff, Nat.reduceMul, Nat.reduceSub, Int.reduceLE, Int.reduceLT, Int.reduceEq, Int.reduceToNat, Int.reducePow, Int.reduceNeg]
  refine ptake_callK hs' h2.ps [124] rfl rfl ?_
  intro q3 hy hn
  cases hb : tkB q2 [124] with
  | true =>
    have h3 := hy hb
    obtain ⟨f', rfl, hN, hc⟩ := hI.next h1 h2 hlen hb h3
    simp -implicitDefEqProofs only [go_sem, ↓reduceIte, Nat.reduceEqDiff, Nat.reduceAdd, Nat.reduceLeDiff, Nat.reduceMul, Nat.reduceSub, Int.reduceLE, Int.reduceLT, Int.reduceEq, Int.reduceToNat, Int.reducePow, Int.reduceNeg, mset]
    refine hK _ ?_; clear hK
    refine bwp_cond false (by simp [ev, fget]) (fun h => nomatch h) (fun _ => ?_)
    refine bwp_skip ?_
    simp -implicitDefEqProofs only [go_sem, ↓reduceIte, Nat.reduceEqDiff, Nat.reduceAdd, Nat.reduceLeDiff, Nat.reduceMul, Nat.reduceSub, Int.reduceLE, Int.reduceLT, Int.reduceEq, Int.reduceToNat, Int.reducePow, Int.reduceNeg]
    refine ⟨⟨(accs ++ [x :: acc], q3, _, f'), hN⟩, ?_, ?_⟩
    · simp only [hc, if_true]
      split <;> omega
    · refine Leads.ent [(0, 0), (1, 1), (2, 2), (3, 3), (6, 4)] ⟨by simp [entT, fget, AV.ren, renL, pget], ?_, rfl, rfl⟩
      simp only [hsn, List.map_append, hcs]
      simp [entM, pinv, mget, mset, renL, AV.ren, pget, renL_append, -List.map_map, parC, lexQ, lexC, hcr, hsd]
  | false =>
    have hq := hn hb
    subst hq
    have h4 := hI.done h1 h2 hb
    simp -implicitDefEqProofs only [go_sem, ↓reduceIte, Nat.reduceEqDiff, Nat.reduceAdd, Nat.reduceLeDiff, Nat.reduceMul, Nat.reduceSub, Int.reduceLE, Int.reduceLT, Int.reduceEq, Int.reduceToNat, Int.reducePow, Int.reduceNeg, mset]
    refine hK _ ?_; clear hK
    refine bwp_cond true (by simp [ev, fget]) (fun _ => ?_) (fun h => nomatch h)
    refine bwp_seq fun K hK => bwp_region rfl ?_
    simp -implicitDefEqProofs only [go_sem, ↓reduceIte, Nat.reduceEqDiff, Nat.reduceAdd, Nat.reduceLeDiff, Nat.reduceMul, Nat.reduceSub, Int.reduceLE, Int.reduceLT, Int.reduceEq, Int.reduceToNat, Int.reducePow, Int.reduceNeg]
    refine pmust_callK hs' h4.ps [59] rfl rfl ?_
    intro q4 h5
    simp -implicitDefEqProofs only [go_sem, ↓reduceIte, Nat.reduceEqDiff, Nat.reduceAdd, Nat.reduceLeDiff, Nat.reduceMul, Nat.reduceSub, Int.reduceLE, Int.reduceLT, Int.reduceEq, Int.reduceToNat, Int.reducePow, Int.reduceNeg, mset]
    refine hK _ ?_; clear hK
    refine bwp_seq fun K hK => bwp_region rfl ?_
    simp -implicitDefEqProofs only [go_sem, ↓reduceIte, Nat.reduceEqDiff, Nat.reduceAdd, Nat.reduceLeDiff, Nat.reduceMul, Nat.reduceSub, Int.reduceLE, Int.reduceLT, Int.reduceEq, Int.reduceToNat, Int.reducePow, Int.reduceNeg]
    refine hK _ ?_; clear hK
    have hrl : (rowsC (accs ++ [x :: acc])).length = accs.length + 1 := by rw [rowsC_len]; simp
    have hrt : (rowsC (accs ++ [x :: acc])).take (accs.length + 1) = rowsC (accs ++ [x :: acc]) := List.take_of_length_le (by omega)
    have hrd : rowsD (accs ++ [x :: acc]) = .sl (accs.length + 1) (rowsC (accs ++ [x :: acc])) := by simp [rowsD]
    have hlast := hR (accs ++ [x :: acc]) q4 (by simp; omega) (fun l hl => by
      rcases List.mem_append.1 hl with h' | h'
      · exact hI.rows l h'
      · simp only [List.mem_cons, List.not_mem_nil, or_false] at h'
        subst h'
        simp only [List.length_cons]
        omega) (PQ.bind h4 (PQ.bind h5 (PQ.ret h5.ps)))
    rw [hrd] at hlast
    refine bwp_leads (S' := ⟨[(4, .ptr 2 0)], [(0, parC q4), (1, lexQ s q4), (2, [.d (.int .i64 kind), .sl 4 1 0 (accs.length + 1)]), (4, (rowsC (accs ++ [x :: acc])).map .d)], 5⟩) (Leads.ent [(0, 0), (1, 1), (2, 2), (6, 4)] ⟨by simp [entT, fget, AV.ren, renL, pget], ?_, rfl, rfl⟩) ?_
    · rw [hsn, List.map_append, hcs]
      simp [entM, pinv, mget, mset, renL, AV.ren, pget, renL_append, -List.map_map, parC, lexQ, lexC, hcr, hsd]
    generalize rowsC (accs ++ [x :: acc]) = rs at *
    refine bwp_leads (Leads.frz (S' := ⟨[(4, .ptr 2 0)], [(0, parC q4), (1, lexQ s q4), (2, [.d (.int .i64 kind), .d (.sl (accs.length + 1) rs)])], 3⟩) [(0, 0), (1, 1), (2, 2)] [(4, rs)] ⟨?_, ?_, rfl, rfl, ?_⟩) ?_
    · simp [frzT, fget, AV.cv, cvL, zget, pget]
    · simp [frzM, pinv, zget, mget, cvL, AV.cv, parC, lexQ, lexC, pget, hrt]
    · simp [zokFrom, mget, cvL_d]
    refine bwp_ret ?_
    simp -implicitDefEqProofs only [go_sem, ↓reduceIte, Nat.reduceEqDiff, Nat.reduceAdd, Nat.reduceLeDiff, Nat.reduceMul, Nat.reduceSub, Int.reduceLE, Int.reduceLT, Int.reduceEq, Int.reduceToNat, Int.reducePow, Int.reduceNeg]
    exact hlast

set_option maxHeartbeats 16000000 in
theorem pcond_calls {s : List UInt8} (hs : s.length ≤ 4000) {σ : PR Nat} {q : PSt} (h : PS s σ q) (kind : Int) :
    ACalls Tryd.prog 50 [.ptr 0 0, .d (.int .i64 kind)] [(0, parC q), (1, lexQ s q)] fun r m' => ∃ q', m' = [(0, parC q'), (1, lexQ s q')] ∧ ∃ rows : List (List Atom), (rows.length ≤ 4002 ∧ ∀ l ∈ rows, l.length ≤ 4002) ∧ r = .agg [.d (.int .i64 kind), .d (rowsD rows)] ∧ PQ s (thn σ ((tAsk kind).run s)) (kind, rows) q' := by
  have hld : ldk Tryd.prog 52 = some (some 2) := by kernel_rfl
  refine acalls_of Tryd.func50 ac50_ok Tryd.ntmps50 Tryd.results50 rfl ?_
  unfold ac50
  refine bwp_seq fun K hK => bwp_region rfl ?_
  simp -implicitDefEqProofs only [go_sem, ↓reduceIte, Nat.reduceEqDiff, Nat.reduceAdd, Nat.reduceLeDiff, Nat.reduceMul, Nat.reduceSub, Int.reduceLE, Int.reduceLT, Int.reduceEq, Int.reduceToNat, Int.reducePow, Int.reduceNeg]
  refine hK _ ?_; clear hK
  refine bwp_seq fun K hK => bwp_region rfl ?_
  simp -implicitDefEqProofs only [go_sem, ↓reduceIte, Nat.reduceEqDiff, Nat.reduceAdd, Nat.reduceLeDiff, Nat.reduceMul, Nat.reduceSub, Int.reduceLE, Int.reduceLT, Int.reduceEq, Int.reduceToNat, Int.reducePow, Int.reduceNeg]
  refine hK _ ?_; clear hK
  refine bwp_block ?_
  refine bwp_leads (S' := ⟨[(4, .ptr 2 0), (5, .ptr 3 0), (0, .ptr 0 0)], [(0, parC q), (1, lexQ s q), (2, [.d (.int .i64 0), .d .nsl]), (3, [.d (.int .i64 kind), .d .nsl])], 4⟩) (Leads.ent [(0, 0), (1, 1), (2, 2), (3, 3)] ⟨by simp [entT, fget, AV.ren, renL, pget, parC, lexQ, lexC], by simp [entM, pinv, mget, mset, renL, AV.ren, pget, renL_append, -List.map_map, parC, lexQ, lexC], rfl, rfl⟩) ?_
  refine bwp_leads (Leads.nilCell 3 1 1 rfl rfl rfl rfl) ?_
  refine bwp_leads (S' := ocS s kind [] q) (Leads.ent [(0, 0), (1, 1), (2, 2), (3, 3), (4, 4)] ⟨by simp [entT, fget, AV.ren, renL, pget, ocS, parC, lexQ, lexC, rowsC], by simp [entM, pinv, mget, mset, renL, AV.ren, pget, renL_append, -List.map_map, ocS, parC, lexQ, lexC, rowsC], rfl, rfl⟩) ?_
  refine pco_loop1 hs h ?_
  intro rows q' h1 h2 h3
  simp -implicitDefEqProofs only [go_sem, ↓reduceIte, Nat.reduceEqDiff, Nat.reduceAdd, Nat.reduceLeDiff, Nat.reduceMul, Nat.reduceSub, Int.reduceLE, Int.reduceLT, Int.reduceEq, Int.reduceToNat, Int.reducePow, Int.reduceNeg]
  refine aend_mem (.agg [.d (.int .i64 kind), .d (rowsD rows)]) [(0, 0), (1, 1)] [(0, parC q'), (1, lexQ s q')] ?_ rfl rfl ?_ ⟨q', rfl, rows, ⟨h1, h2⟩, rfl, h3⟩
  · simp [resA, resVs, resV, fget, mget, mset, loadA, hld]
  · simp [entM, pinv, mget, mset, renL, AV.ren, parC, lexQ, lexC, pget]

end Go.Proofs.YtpfbljkfbjjlkaaDoor

/- The document's reader, gone through: its small methods. -/
namespace Go.Proofs.YtpfbljkfbjjlkaaDoor
open Go Go.Jq
set_option maxRecDepth 100000
set_option linter.unusedSimpArgs false

/-- A reader: where it is, the last token looked at, where that ends, the first error. -/
structure RSt where
  pos : Nat
  tok : Tok
  to : Nat
  code : Int
  eat : Nat

def rdC (s : List UInt8) (r : RSt) : List AV := [.d (.str s), .d (.int .i64 r.pos), .d (.int .i64 r.tok.kd), .d (.str r.tok.tx), .d (.int .i64 r.tok.pl), .d (.int .i64 r.to), .d (.int .i64 r.code), .d (.int .i64 r.eat)]
theorem rdC_in (π : Nat → Option Nat) (s : List UInt8) (r : RSt) : inL π (rdC s r) = true := rfl

/-- How a reader stands: the next token may not have been looked at. -/
def RS (s : List UInt8) (σ : PR Nat) (r : RSt) : Prop :=
  (r.code = 0 ∧ r.pos ≤ s.length ∧ σ = goW s r.pos) ∨ ∃ e, σ = .error e ∧ r.code = e.1 ∧ e.1 ≠ 0 ∧ r.eat = e.2

/-- Behind a look. -/
def RL (s : List UInt8) : PR Nat → RSt → Prop
  | .ok a, r => r.code = 0 ∧ r.pos = a ∧ a ≤ s.length ∧ (nextW s a).2.2 = 0 ∧ r.tok = curT s a ∧ r.to = (nextW s a).2.1
  | .error e, r => r.code = e.1 ∧ e.1 ≠ 0 ∧ r.eat = e.2

theorem RL.rs {s : List UInt8} {σ : PR Nat} {r : RSt} (h : RL s σ r) : RS s σ r := by
  cases σ with
  | ok a =>
    obtain ⟨h1, rfl, h3, h4, _⟩ := h
    exact .inl ⟨h1, h3, by unfold goW; rw [if_pos h4]⟩
  | error e => exact .inr ⟨e, rfl, h⟩

theorem RL.code {s : List UInt8} {a : Nat} {r : RSt} (h : RL s (.ok a) r) : r.code = 0 := h.1
theorem RL.codeE {s : List UInt8} {e : PE} {r : RSt} (h : RL s (.error e) r) : r.code ≠ 0 := by rw [h.1]; exact h.2.1

def RQ {α : Type} (s : List UInt8) : PR (α × Nat) → α → RSt → Prop
  | .ok (y, b), x, r => y = x ∧ RS s (.ok b) r
  | .error e, _, r => RS s (.error e) r

theorem RQ.rs {α : Type} {s : List UInt8} {τ : PR (α × Nat)} {x : α} {r : RSt} (h : RQ s τ x r) : RS s (posR τ) r := by
  cases τ with
  | ok p => exact h.2
  | error e => exact h

theorem RQ.bind {α β : Type} {s : List UInt8} {σ : PR Nat} {t : PT α} {f : α → PT β} {x : α} {y : β} {q q' : RSt} (h : RQ s (thn σ (t.run s)) x q) (h' : RQ s (thn (posR (thn σ (t.run s))) ((f x).run s)) y q') :
    RQ s (thn σ ((t.bind f).run s)) y q' := by
  cases σ with
  | error e => exact h'
  | ok a =>
    simp only [thn] at h h' ⊢
    rw [PT.run_bind]
    cases ht : t.run s a with
    | error e => rw [ht] at h'; exact h'
    | ok p =>
      obtain ⟨x', b⟩ := p
      rw [ht] at h h'
      obtain ⟨rfl, _⟩ := h
      exact h'

theorem RQ.ret {α : Type} {s : List UInt8} {σ : PR Nat} {x : α} {q : RSt} (h : RS s σ q) : RQ s (thn σ ((PT.ret x).run s)) x q := by
  cases σ with
  | error e => exact h
  | ok a => exact ⟨rfl, h⟩

theorem RQ.cur {α : Type} {s : List UInt8} {σ : PR Nat} {k : Int → List UInt8 → PT α} {y : α} {q q' : RSt} (h : RL s σ q) (h' : RQ s (thn σ ((k q.tok.kd q.tok.tx).run s)) y q') : RQ s (thn σ ((PT.cur k).run s)) y q' := by
  cases σ with
  | error e => exact h'
  | ok a =>
    rw [h.2.2.2.2.1] at h'
    exact h'

theorem RQ.eat {α : Type} {s : List UInt8} {σ : PR Nat} {k : PT α} {y : α} {q' : RSt} (h' : RQ s (thn (thn σ (eatW s)) (k.run s)) y q') : RQ s (thn σ ((PT.eat k).run s)) y q' := by
  cases σ with
  | error e => exact h'
  | ok a =>
    simp only [thn] at h' ⊢
    simp only [PT.run]
    cases he : eatW s a with
    | error e => rw [he] at h'; exact h'
    | ok b => rw [he] at h'; exact h'

def failR (q : RSt) (c : Int) : RSt := if q.code = 0 then { q with code := c, eat := q.tok.pl } else q

theorem failR_code {q : RSt} {c : Int} (hc : c ≠ 0) : (failR q c).code ≠ 0 := by
  unfold failR
  split
  · exact hc
  · assumption

theorem RL.fail {s : List UInt8} {σ : PR Nat} {q : RSt} (h : RL s σ q) {c : Int} (hc : c ≠ 0) {α : Type} : RL s (posR (thn σ ((PT.bad c : PT α).run s))) (failR q c) := by
  cases σ with
  | error e =>
    have : failR q c = q := by unfold failR; rw [if_neg h.codeE]
    rw [this]
    exact h
  | ok a =>
    have : failR q c = { q with code := c, eat := q.tok.pl } := by unfold failR; rw [if_pos h.code]
    rw [this]
    exact ⟨rfl, hc, by simp only [h.2.2.2.2.1]⟩

theorem RQ.bad {α : Type} {s : List UInt8} {σ : PR Nat} {q : RSt} (h : RL s σ q) {c : Int} (hc : c ≠ 0) (y : α) : RQ s (thn σ ((PT.bad c : PT α).run s)) y (failR q c) := by
  have := (h.fail hc (α := α)).rs
  cases σ with
  | error e => exact this
  | ok a => exact this

theorem RQ.past_bad {α γ : Type} {s : List UInt8} {τ : PR Nat} {c : Int} {f : Nat → PR (γ × Nat)} {y : γ} {q' : RSt} (h : RQ s (thn (posR (thn τ ((PT.bad c : PT α).run s))) f) y q') : RQ s (thn τ ((PT.bad c : PT γ).run s)) y q' := by
  cases τ with
  | error e => exact h
  | ok a => exact h

/-- Whether a sign, or a word, stands there. -/
def ikB (q : RSt) (x : List UInt8) : Bool := decide (q.code = 0) && isK q.tok.kd q.tok.tx x

/-- Behind the token. -/
def goR (r : RSt) : RSt := { r with pos := r.to }

theorem RL.go {s : List UInt8} {a : Nat} {r : RSt} (h : RL s (.ok a) r) : RS s (eatW s a) (goR r) := by
  obtain ⟨h1, h2, h3, h4, h5, h6⟩ := h
  refine .inl ⟨h1, ?_, ?_⟩
  · show r.to ≤ s.length
    rw [h6]; exact (nextW_to h3).2.1
  · show eatW s a = goW s r.to
    rw [h6]; rfl

theorem RL.goT {s : List UInt8} {σ : PR Nat} {r : RSt} (h : RL s σ r) (hc : r.code = 0) : RS s (thn σ (eatW s)) (goR r) := by
  cases σ with
  | error e => exact absurd hc h.codeE
  | ok a => exact h.go

theorem ikB_ok {s : List UInt8} {σ : PR Nat} {q : RSt} {x : List UInt8} (h : RL s σ q) (hb : ikB q x = true) : ∃ a, σ = .ok a ∧ (curT s a).kd ≠ 4 ∧ q.code = 0 := by
  unfold ikB at hb
  simp only [Bool.and_eq_true, decide_eq_true_eq] at hb
  cases σ with
  | error e => exact absurd hb.1 h.codeE
  | ok a =>
    refine ⟨a, rfl, ?_, hb.1⟩
    rw [← h.2.2.2.2.1]
    exact isK_kd hb.2

theorem RQ.take_yes {α : Type} {s : List UInt8} {σ : PR Nat} {q q' : RSt} {x : List UInt8} {yes no : PT α} {y : α} (h : RL s σ q) (hb : ikB q x = true) (h' : RQ s (thn (thn σ (eatW s)) (yes.run s)) y q') : RQ s (thn σ ((tTake x yes no).run s)) y q' := by
  unfold ikB at hb
  simp only [Bool.and_eq_true] at hb
  refine RQ.cur h ?_
  rw [if_pos hb.2]
  exact RQ.eat h'

theorem RQ.take_no {α : Type} {s : List UInt8} {σ : PR Nat} {q q' : RSt} {x : List UInt8} {yes no : PT α} {y : α} (h : RL s σ q) (hb : ikB q x = false) (h' : RQ s (thn σ (no.run s)) y q') : RQ s (thn σ ((tTake x yes no).run s)) y q' := by
  cases σ with
  | error e => exact h'
  | ok a =>
    refine RQ.cur h ?_
    have hk : isK q.tok.kd q.tok.tx x = false := by simpa [ikB, h.code] using hb
    rw [if_neg (by rw [hk]; decide)]
    exact h'

/-! ### A method with the reader's own block -/

theorem rd_callK {P : Program} {f : Nat} {rest : List AV} {s : List UInt8} {q : RSt} {Q : AV → RSt → Prop}
    (h : ACalls P f (.ptr 0 0 :: rest) [(0, rdC s q)] fun r m' => ∃ q', m' = [(0, rdC s q')] ∧ Q r q')
    (hr : inL (fun _ => none) rest = true) (hQ : ∀ r q', Q r q' → inB (fun _ => none) r = true)
    {j : Nat} {dst : Option Nat} {ops : List AOper} {K : St → Prop} {t : Fr} {m : Mem} {n : Nat} (hm : mget m j = some (rdC s q))
    (hk : ∀ r q', Q r q' → runOps P ops ⟨putF t dst r, mset m j (rdC s q'), n + 1⟩ K) : callK P f (.ptr j 0 :: rest) dst ops K t m n := by
  refine meth_callK (rest := rest) (Q := fun r c' => ∃ q', c' = rdC s q' ∧ Q r q') (h.mono fun r m' ⟨q', h1, h2⟩ => ⟨_, h1, q', rfl, h2⟩) hr (rdC_in _ s q) ?_ hm ?_
  · rintro r c' ⟨q', rfl, h2⟩; exact ⟨hQ r q' h2, rdC_in _ s q'⟩
  · rintro r c' ⟨q', rfl, h2⟩; exact hk r q' h2

/-- The token that a look comes to. -/
def lkT (r : RSt) : Tok := if r.code = 0 then r.tok else ⟨4, [], 0⟩

end Go.Proofs.YtpfbljkfbjjlkaaDoor

/- The abstract layer: a region that draws its order, gone through in every order. -/
namespace Go.Jq
open Go

/-- One operation, its guard looked at. -/
def stepG (P : Program) (o : AOper) (S : St) (K : St → Prop) : Prop :=
  match o.guard with
  | none => stepOp P o S K
  | some (g, want) => match fget S.t g with
    | .d (.bool b) => if b = want then stepOp P o S K else K ⟨putF S.t o.dst (.tup []), S.m, S.n⟩
    | .tup _ => K ⟨putF S.t o.dst (.tup []), S.m, S.n⟩
    | _ => False

def readyM (ms : List Nat) (L : Nat) : List Nat := (List.range ms.length).filter fun i => !L.testBit i && (ms.getD i 0 &&& L == ms.getD i 0)

def runAny (P : Program) (al : List AOper) (ms : List Nat) (K : St → Prop) : Nat → Nat → St → Prop
  | 0, L, S => readyM ms L = [] ∧ K S
  | f + 1, L, S => (readyM ms L = [] → K S) ∧ ∀ i ∈ readyM ms L, match al[i]? with
    | some ao => stepG P ao S (runAny P al ms K f (L ||| 2 ^ i))
    | none => False

theorem mask_bit (i : Nat) : ∀ (l : List Edge) (s : Nat), (s.testBit i = true ∨ ∃ e ∈ l, Region.binds .any e = true ∧ e.on = i) → (l.foldl (fun s e => if Region.binds .any e then s ||| 2 ^ e.on else s) s).testBit i = true
  | [], s, h => by
    rcases h with h | ⟨e, he, _⟩
    · exact h
    · cases he
  | e :: l, s, h => by
    simp only [List.foldl_cons]
    refine mask_bit i l _ ?_
    rcases h with h | ⟨e', he', h1, h2⟩
    · left
      split
      · rw [Nat.testBit_or, h]; rfl
      · exact h
    · rcases List.mem_cons.1 he' with rfl | he'
      · left
        rw [if_pos h1, Nat.testBit_or, h2, Nat.testBit_two_pow_self, Bool.or_true]
      · exact .inr ⟨e', he', h1, h2⟩

theorem and_eq_iff (m L : Nat) : (m &&& L == m) = true ↔ ∀ b, m.testBit b = true → L.testBit b = true := by
  rw [beq_iff_eq]
  constructor
  · intro h b hb
    rw [← h, Nat.testBit_and, Bool.and_eq_true] at hb
    exact hb.2
  · intro h
    apply Nat.eq_of_testBit_eq
    intro b
    rw [Nat.testBit_and]
    cases hb : m.testBit b with
    | false => rfl
    | true => rw [h b hb]; rfl

section
variable {P : Program} {k : Nat} {ops : Array Oper}

theorem ready_iff {listed : Array Bool} {L : Nat} (hsz : listed.size = ops.size) (hL : ∀ i, L.testBit i = listed.getD i false) (i : Nat) : i ∈ readyM (masksOf ops) L ↔ i ∈ Region.ready .any ops listed := by
  rw [mem_ready]
  unfold readyM
  rw [List.mem_filter, List.mem_range, Bool.and_eq_true, Bool.not_eq_true', and_eq_iff]
  have hlen : (masksOf ops).length = ops.size := by simp [masksOf]
  rw [hlen]
  constructor
  · rintro ⟨h1, h2, h3⟩
    have hi : i < listed.size := by omega
    refine ⟨?_, ops[i], by simp [h1], fun e he hb => ?_⟩
    · have := hL i
      rw [h2] at this
      simp [hi] at this ⊢
      exact this
    · rw [← hL]
      refine h3 _ ?_
      have : (masksOf ops).getD i 0 = (ops[i]).after.toList.foldl (fun s e => if Region.binds .any e then s ||| 2 ^ e.on else s) 0 := by
        simp [masksOf, h1]
      rw [this]
      exact mask_bit _ _ _ (.inr ⟨e, by simpa using he, hb, rfl⟩)
  · rintro ⟨h1, o, ho, h3⟩
    have hi : i < ops.size := (Array.getElem?_eq_some_iff.1 ho).1
    have hi' : i < listed.size := by omega
    refine ⟨hi, ?_, fun b hb => ?_⟩
    · rw [hL]
      simp [hi'] at h1 ⊢
      exact h1
    · have : (masksOf ops).getD i 0 = o.after.toList.foldl (fun s e => if Region.binds .any e then s ||| 2 ^ e.on else s) 0 := by
        have e : ops[i] = o := (Array.getElem?_eq_some_iff.1 ho).2
        simp [masksOf, hi, e]
      rw [this] at hb
      rcases mask_spec b _ _ hb with h | ⟨e, he, h4, h5⟩
      · simp at h
      · rw [hL, ← h5]
        exact h3 e (by simpa using he) h4

theorem ready_nil {listed : Array Bool} {L : Nat} (hsz : listed.size = ops.size) (hL : ∀ i, L.testBit i = listed.getD i false) : Region.ready .any ops listed = [] → readyM (masksOf ops) L = [] := by
  intro h
  rw [List.eq_nil_iff_forall_not_mem]
  intro i hi
  rw [ready_iff hsz hL, h] at hi
  cases hi

theorem runAny_sound {E : Env} {al : List AOper} {Q : Exit → Act → World → Prop} {K : St → Prop} (hc : cOpers P ops k ops.toList = some al) (hK : ∀ S' a' w', K S' → Conc E k S' a' w' → Q .normal a' w') :
    ∀ (fuel L : Nat) (listed : Array Bool) (S : St) (a : Act) (w : World), listed.size = ops.size → (∀ i, L.testBit i = listed.getD i false) → E.n ≤ S.n → Conc E k S a w → runAny P al (masksOf ops) K fuel L S →
      wpAny P .any ops Q fuel listed a w
  | 0, L, listed, S, a, w, hsz, hL, _, hcc, h => ⟨by
      rw [List.eq_nil_iff_forall_not_mem]
      intro i hi
      rw [← ready_iff hsz hL, h.1] at hi
      exact absurd hi (List.not_mem_nil), hK _ _ _ h.2 hcc⟩
  | fuel + 1, L, listed, S, a, w, hsz, hL, hn, hcc, h => by
    refine ⟨fun h0 => hK _ _ _ (h.1 (ready_nil hsz hL h0)) hcc, fun i hi => ?_⟩
    have h1 := h.2 i ((ready_iff hsz hL i).2 hi)
    obtain ⟨_, o, ho, _⟩ := mem_ready.1 hi
    have hco : ∃ ao, al[i]? = some ao ∧ cOper P ops k o = some ao := by
      have key : ∀ (l : List Oper) (al : List AOper), cOpers P ops k l = some al → ∀ (i : Nat) (o : Oper), l[i]? = some o → ∃ ao, al[i]? = some ao ∧ cOper P ops k o = some ao := by
        intro l
        induction l with
        | nil => intro al _ i o ho; simp at ho
        | cons x l ih =>
          intro al hc i o ho
          simp only [cOpers] at hc
          split at hc
          · rename_i ao r' e1 e2
            cases hc
            cases i with
            | zero => simp at ho; subst ho; exact ⟨ao, rfl, e1⟩
            | succ i => exact ih r' e2 i o (by simpa using ho)
          · cases hc
      exact key _ _ hc i o (by rw [Array.getElem?_toList]; exact ho)
    obtain ⟨ao, hao, hco⟩ := hco
    rw [hao] at h1
    simp only at h1
    have hsz' : (listed.setIfInBounds i true).size = ops.size := by simp [hsz]
    have hi' : i < listed.size := by rw [hsz]; exact (Array.getElem?_eq_some_iff.1 ho).1
    have hL' : ∀ j, (L ||| 2 ^ i).testBit j = (listed.setIfInBounds i true).getD j false := by
      intro j
      rw [Nat.testBit_or, Nat.testBit_two_pow]
      by_cases hij : i = j
      · subst hij
        simp [hi']
      · rw [getD_set_ne false hij, ← hL j]
        simp [hij]
    have next : ∀ S' a' w', runAny P al (masksOf ops) K fuel (L ||| 2 ^ i) S' → Conc E k S' a' w' → S.n ≤ S'.n → wpAny P .any ops Q fuel (listed.setIfInBounds i true) a' w' :=
      fun S' a' w' hs hc' hle => runAny_sound hc hK fuel _ _ S' a' w' hsz' hL' (Nat.le_trans hn hle) hc' hs
    obtain ⟨hg, hd, hdk⟩ := cOper_guard hco
    unfold wpOp
    simp only [ho]
    unfold stepG at h1
    split at h1
    · rename_i hgn
      rw [hgn] at hg
      rw [if_pos (guard_none hg _)]
      exact .inl (wp_step hco hn next hcc h1)
    · rename_i g want hgs
      rw [hgs] at hg
      split at h1
      · rename_i b hb
        obtain ⟨c, hcr, hp⟩ := id hcc
        have hw := guard_wanted hg hcr.fr hb
        split at h1
        · rename_i hbw
          rw [hw, if_pos (by simpa using hbw)]
          exact .inl (wp_step hco hn next hcc h1)
        · rename_i hbw
          rw [hw, if_neg (by simpa using hbw)]
          refine next ⟨putF S.t ao.dst (.tup []), S.m, S.n⟩ _ _ h1 ?_ (Nat.le_refl _)
          rw [hd]
          exact conc_put hcr hp hn hdk (.inl (rel_undef _ _)) hcr.mr (Step.refl _ _ _) (fun _ h => .inl h) (fun _ _ => rfl) (fun _ _ h => h) hcr.free rfl
      · rename_i cs hb
        obtain ⟨c, hcr, hp⟩ := hcc
        have hw := guard_tup hg hcr.fr hb
        rw [hw, if_neg (by simp)]
        refine next ⟨putF S.t ao.dst (.tup []), S.m, S.n⟩ _ _ h1 ?_ (Nat.le_refl _)
        rw [hd]
        exact conc_put hcr hp hn hdk (.inl (rel_undef _ _)) hcr.mr (Step.refl _ _ _) (fun _ h => .inl h) (fun _ _ => rfl) (fun _ _ h => h) hcr.free rfl
      · exact h1.elim

theorem awp_region_any {n0 : Nat} {S : St} {Q : Exit → St → Prop} {id : Nat} {al : List AOper} (hm : P.follows .mixedOrders = true) (hc : cOpers P ops k ops.toList = some al) (hn : n0 ≤ S.n)
    (h : runAny P al (masksOf ops) (fun S' => Q .normal S') (masksOf ops).length 0 S) : AWP P n0 k (.region id ops true) S Q := by
  intro E hE a w hcc
  refine wp_region_any hm ?_
  have hconc : Conc E k S a { w with drawn := w.drawn + 1 } := conc_drew hcc rfl rfl rfl rfl
  have hlen : (masksOf ops).length = ops.size := by simp [masksOf]
  rw [hlen] at h
  refine runAny_sound hc (K := fun S' => Q .normal S') (fun S' a' w' h1 h2 => ⟨S', h1, h2⟩) ops.size 0 _ S a _ (by simp) (fun i => ?_) (hE ▸ hn) hconc h
  rw [Nat.zero_testBit, Array.getD_eq_getD_getElem?]
  by_cases hi : i < ops.size
  · simp [hi]
  · rw [Array.getElem?_eq_none (by simpa using Nat.le_of_not_lt hi)]
    rfl

theorem bwp_region_any {n0 : Nat} {S : St} {Q : Exit → St → Prop} {al : List AOper} {ms : List Nat} (hm : P.follows .mixedOrders = true) (hn : decide (n0 ≤ S.n) = true) (h : runAny P al ms (fun S' => Q .normal S') ms.length 0 S) :
    BWP P n0 k (.region true al ms) S Q := by
  intro code hc
  cases code with
  | region id ops draw =>
    simp only [cCode] at hc
    split at hc
    · rename_i al' hal
      split at hc
      · rename_i hd
        split at hc
        · cases hc
          subst hd
          exact awp_region_any hm hal (of_decide_eq_true hn) h
        · cases hc
      · cases hc
    · cases hc
  | cond c a b => simp only [cCode] at hc; repeat' split at hc
                  all_goals cases hc
  | seq a b => simp only [cCode] at hc; repeat' split at hc
               all_goals cases hc
  | _ => simp [cCode] at hc

/-! ### Going through -/

theorem runAny_step {al : List AOper} {ms : List Nat} {K : St → Prop} {f L : Nat} {S : St} (l : List Nat) (hl : readyM ms L = l) (hne : l ≠ []) (h : ∀ i ∈ l, match al[i]? with
    | some ao => stepG P ao S (runAny P al ms K f (L ||| 2 ^ i))
    | none => False) : runAny P al ms K (f + 1) L S := by
  subst hl
  exact ⟨fun h0 => absurd h0 hne, h⟩

theorem runAny_done {al : List AOper} {ms : List Nat} {K : St → Prop} {f L : Nat} {S : St} (hl : readyM ms L = []) (h : K S) : runAny P al ms K f L S := by
  cases f with
  | zero => exact ⟨hl, h⟩
  | succ f => exact ⟨fun _ => h, fun i hi => by rw [hl] at hi; cases hi⟩

theorem stepG_run {o : AOper} {S : St} {K : St → Prop} (h : runOps P [o] S K) : stepG P o S K := by
  unfold stepG
  simp only [runOps] at h
  exact h

/-- One operation may come up now. -/
theorem runAny_one {al : List AOper} {ms : List Nat} {K : St → Prop} {f L i : Nat} {S : St} {ao : AOper} (hl : readyM ms L = [i]) (ha : al[i]? = some ao) (h : runOps P [ao] S (runAny P al ms K f (L ||| 2 ^ i))) : runAny P al ms K (f + 1) L S := by
  refine runAny_step [i] hl (by simp) ?_
  intro j hj
  simp only [List.mem_cons, List.not_mem_nil, or_false] at hj
  subst hj
  rw [ha]
  exact stepG_run h

/-- One of two. -/
theorem runAny_two {al : List AOper} {ms : List Nat} {K : St → Prop} {f L i j : Nat} {S : St} {ao bo : AOper} (hl : readyM ms L = [i, j]) (ha : al[i]? = some ao) (hb : al[j]? = some bo)
    (h : runOps P [ao] S (runAny P al ms K f (L ||| 2 ^ i))) (h' : runOps P [bo] S (runAny P al ms K f (L ||| 2 ^ j))) : runAny P al ms K (f + 1) L S := by
  refine runAny_step [i, j] hl (by simp) ?_
  intro k hk
  simp only [List.mem_cons, List.not_mem_nil, or_false] at hk
  rcases hk with rfl | rfl
  · rw [ha]; exact stepG_run h
  · rw [hb]; exact stepG_run h'

end
end Go.Jq

/- The document's reader: look, is, go1, fail, eat. -/
namespace Go.Proofs.YtpfbljkfbjjlkaaDoor
open Go Go.Jq
set_option maxRecDepth 100000
set_option linter.unusedSimpArgs false

theorem lkT_ok {r : RSt} (h : r.code = 0) : (lkT r).cells.map AV.d = [.d (.int .i64 r.tok.kd), .d (.str r.tok.tx), .d (.int .i64 r.tok.pl)] := by
  unfold lkT; rw [if_pos h]; rfl
theorem lkT_no {r : RSt} (h : r.code ≠ 0) : (lkT r).cells.map AV.d = [.d (.int .i64 4), .d (.str []), .d (.int .i64 0)] := by
  unfold lkT; rw [if_neg h]; rfl

set_option maxHeartbeats 4000000 in
theorem look_calls {s : List UInt8} (hs : s.length ≤ 140737488351232) {σ : PR Nat} {r : RSt} (h : RS s σ r) :
    ACalls Tryd.prog 61 [.ptr 0 0] [(0, rdC s r)] fun v m' => ∃ r', m' = [(0, rdC s r')] ∧ (v = .agg ((lkT r').cells.map .d) ∧ RL s σ r') := by
  have h34 : ldk Tryd.prog 34 = some (some 3) := by kernel_rfl
  rcases h with ⟨hc, hp, hσ⟩ | ⟨e, rfl, he⟩
  · have k1 := refNext_pure hs hp
    obtain ⟨pos, tok, to, code, eat⟩ := r
    simp only at hc hp hσ k1
    subst hc
    refine acalls_of Tryd.func61 ac61_ok Tryd.ntmps61 Tryd.results61 rfl ?_
    unfold ac61
    refine bwp_seq fun K hK => bwp_region rfl ?_
    simp -implicitDefEqProofs only [go_sem, ↓reduceIte, Nat.reduceEqDiff, Nat.reduceAdd, Nat.reduceLeDiff, Nat.reduceMul, Nat.reduceSub, Int.reduceLE, Int.reduceLT, Int.reduceEq, Int.reduceToNat, Int.reducePow, Int.reduceNeg]
    refine hK _ ?_; clear hK
    refine bwp_seq fun K1 hK1 => ?_
    refine bwp_seq fun K hK => bwp_region rfl ?_
    simp -implicitDefEqProofs only [go_sem, ↓reduceIte, Nat.reduceEqDiff, Nat.reduceAdd, Nat.reduceLeDiff, Nat.reduceMul, Nat.reduceSub, Int.reduceLE, Int.reduceLT, Int.reduceEq, Int.reduceToNat, Int.reducePow, Int.reduceNeg, rdC]
    refine hK _ ?_; clear hK
    refine bwp_cond false (by simp [ev, fget]) (fun h => nomatch h) (fun _ => ?_)
    refine bwp_skip ?_
    refine hK1 _ ?_; clear hK1
    by_cases h0 : (nextW s pos).2.2 = 0
    · have he : nextW s pos = ((nextW s pos).1, (nextW s pos).2.1, 0) := by rw [← h0]
      rw [nxV_ok he] at k1
      refine bwp_seq fun K hK => bwp_region_draw rfl rfl ?_
      simp -implicitDefEqProofs only [go_sem, ↓reduceIte, Nat.reduceEqDiff, Nat.reduceAdd, Nat.reduceLeDiff, Nat.reduceMul, Nat.reduceSub, Int.reduceLE, Int.reduceLT, Int.reduceEq, Int.reduceToNat, Int.reducePow, Int.reduceNeg]
      repeat' (first
        | (refine gateK_split (fun hb => ?_) (fun hb => ?_) <;> simp -implicitDefEqProofs only [go_sem, ↓reduceIte, Nat.reduceEqDiff, Nat.reduceAdd, Nat.reduceLeDiff, Nat.reduceMul, Nat.reduceSub, Int.reduceLE, Int.reduceLT, Int.reduceEq, Int.reduceToNat, Int.reducePow, Int.reduceNeg, hb])
        | (refine dGateK_split (fun hb => ?_) (fun hb => ?_) <;> simp -implicitDefEqProofs only [go_sem, ↓reduceIte, Nat.reduceEqDiff, Nat.reduceAdd, Nat.reduceLeDiff, Nat.reduceMul, Nat.reduceSub, Int.reduceLE, Int.reduceLT, Int.reduceEq, Int.reduceToNat, Int.reducePow, Int.reduceNeg, hb])
        | (refine callK_pure (k1) rfl rfl ?_; simp -implicitDefEqProofs only [go_sem, ↓reduceIte, Nat.reduceEqDiff, Nat.reduceAdd, Nat.reduceLeDiff, Nat.reduceMul, Nat.reduceSub, Int.reduceLE, Int.reduceLT, Int.reduceEq, Int.reduceToNat, Int.reducePow, Int.reduceNeg])
        | (refine dCallK_pure (k1) rfl rfl ?_; simp -implicitDefEqProofs only [go_sem, ↓reduceIte, Nat.reduceEqDiff, Nat.reduceAdd, Nat.reduceLeDiff, Nat.reduceMul, Nat.reduceSub, Int.reduceLE, Int.reduceLT, Int.reduceEq, Int.reduceToNat, Int.reducePow, Int.reduceNeg])
        | (rw [if_pos (by (try simp only [List.length_append, List.length_cons, List.length_nil, List.length_map]); omega)]; simp -implicitDefEqProofs only [go_sem, ↓reduceIte, Nat.reduceEqDiff, Nat.reduceAdd, Nat.reduceLeDiff, Nat.reduceMul, Nat.reduceSub, Int.reduceLE, Int.reduceLT, Int.reduceEq, Int.reduceToNat, Int.reducePow, Int.reduceNeg]))
      refine ⟨rfl, hK _ ?_⟩; clear hK
      refine bwp_seq fun K hK => bwp_region rfl ?_
      simp -implicitDefEqProofs only [go_sem, ↓reduceIte, Nat.reduceEqDiff, Nat.reduceAdd, Nat.reduceLeDiff, Nat.reduceMul, Nat.reduceSub, Int.reduceLE, Int.reduceLT, Int.reduceEq, Int.reduceToNat, Int.reducePow, Int.reduceNeg]
      refine hK _ ?_; clear hK
      refine bwp_seq fun K1 hK1 => ?_
      refine bwp_seq fun K hK => bwp_region rfl ?_
      simp -implicitDefEqProofs only [go_sem, ↓reduceIte, Nat.reduceEqDiff, Nat.reduceAdd, Nat.reduceLeDiff, Nat.reduceMul, Nat.reduceSub, Int.reduceLE, Int.reduceLT, Int.reduceEq, Int.reduceToNat, Int.reducePow, Int.reduceNeg]
      refine hK _ ?_; clear hK
      refine bwp_cond false (by simp [ev, fget]) (fun h => nomatch h) (fun _ => ?_)
      refine bwp_skip ?_
      refine hK1 _ ?_; clear hK1
      refine bwp_seq fun K hK => bwp_region rfl ?_
      simp -implicitDefEqProofs only [go_sem, ↓reduceIte, Nat.reduceEqDiff, Nat.reduceAdd, Nat.reduceLeDiff, Nat.reduceMul, Nat.reduceSub, Int.reduceLE, Int.reduceLT, Int.reduceEq, Int.reduceToNat, Int.reducePow, Int.reduceNeg]
      refine hK _ ?_; clear hK
      refine bwp_ret ?_
      simp only [go_sem]
      refine aend_mem (.agg ((lkT ⟨pos, (nextW s pos).1, (nextW s pos).2.1, 0, eat⟩).cells.map .d)) [(0, 0)] [(0, rdC s ⟨pos, (nextW s pos).1, (nextW s pos).2.1, 0, eat⟩)] ?_ rfl rfl ?_ ⟨⟨pos, (nextW s pos).1, (nextW s pos).2.1, 0, eat⟩, rfl, rfl, ?_⟩
      · rw [lkT_ok rfl]
        simp [resA, resVs, resV, fget, mget, mset, loadA, h34]
      · simp [entM, pinv, mget, mset, renL, AV.ren, rdC, pget]
      · rw [hσ]
        unfold goW
        rw [if_pos h0]
        exact ⟨rfl, rfl, hp, h0, rfl, rfl⟩
    · have hbad := curT_noTok h0
      have hne : ¬ (nextW s pos).2.2 = (0 : Int) := h0
      rw [nxV_bad h0 hbad] at k1
      refine bwp_seq fun K hK => bwp_region_draw rfl rfl ?_
      simp -implicitDefEqProofs only [go_sem, ↓reduceIte, Nat.reduceEqDiff, Nat.reduceAdd, Nat.reduceLeDiff, Nat.reduceMul, Nat.reduceSub, Int.reduceLE, Int.reduceLT, Int.reduceEq, Int.reduceToNat, Int.reducePow, Int.reduceNeg]
      repeat' (first
        | (refine gateK_split (fun hb => ?_) (fun hb => ?_) <;> simp -implicitDefEqProofs only [go_sem, ↓reduceIte, Nat.reduceEqDiff, Nat.reduceAdd, Nat.reduceLeDiff, Nat.reduceMul, Nat.reduceSub, Int.reduceLE, Int.reduceLT, Int.reduceEq, Int.reduceToNat, Int.reducePow, Int.reduceNeg, hb])
        | (refine dGateK_split (fun hb => ?_) (fun hb => ?_) <;> simp -implicitDefEqProofs only [go_sem, ↓reduceIte, Nat.reduceEqDiff, Nat.reduceAdd, Nat.reduceLeDiff, Nat.reduceMul, Nat.reduceSub, Int.reduceLE, Int.reduceLT, Int.reduceEq, Int.reduceToNat, Int.reducePow, Int.reduceNeg, hb])
        | (refine callK_pure (k1) rfl rfl ?_; simp -implicitDefEqProofs only [go_sem, ↓reduceIte, Nat.reduceEqDiff, Nat.reduceAdd, Nat.reduceLeDiff, Nat.reduceMul, Nat.reduceSub, Int.reduceLE, Int.reduceLT, Int.reduceEq, Int.reduceToNat, Int.reducePow, Int.reduceNeg])
        | (refine dCallK_pure (k1) rfl rfl ?_; simp -implicitDefEqProofs only [go_sem, ↓reduceIte, Nat.reduceEqDiff, Nat.reduceAdd, Nat.reduceLeDiff, Nat.reduceMul, Nat.reduceSub, Int.reduceLE, Int.reduceLT, Int.reduceEq, Int.reduceToNat, Int.reducePow, Int.reduceNeg])
        | (rw [if_pos (by (try simp only [List.length_append, List.length_cons, List.length_nil, List.length_map]); omega)]; simp -implicitDefEqProofs only [go_sem, ↓reduceIte, Nat.reduceEqDiff, Nat.reduceAdd, Nat.reduceLeDiff, Nat.reduceMul, Nat.reduceSub, Int.reduceLE, Int.reduceLT, Int.reduceEq, Int.reduceToNat, Int.reducePow, Int.reduceNeg]))
      refine ⟨rfl, hK _ ?_⟩; clear hK
      refine bwp_seq fun K hK => bwp_region rfl ?_
      simp -implicitDefEqProofs only [go_sem, ↓reduceIte, Nat.reduceEqDiff, Nat.reduceAdd, Nat.reduceLeDiff, Nat.reduceMul, Nat.reduceSub, Int.reduceLE, Int.reduceLT, Int.reduceEq, Int.reduceToNat, Int.reducePow, Int.reduceNeg]
      refine hK _ ?_; clear hK
      refine bwp_seq fun K1 hK1 => ?_
      refine bwp_seq fun K hK => bwp_region rfl ?_
      simp -implicitDefEqProofs only [go_sem, ↓reduceIte, Nat.reduceEqDiff, Nat.reduceAdd, Nat.reduceLeDiff, Nat.reduceMul, Nat.reduceSub, Int.reduceLE, Int.reduceLT, Int.reduceEq, Int.reduceToNat, Int.reducePow, Int.reduceNeg, eq_false hne]
      refine hK _ ?_; clear hK
      refine bwp_cond true (by simp [ev, fget]) (fun _ => ?_) (fun h => nomatch h)
      refine bwp_seq fun K hK => bwp_region rfl ?_
      simp -implicitDefEqProofs only [go_sem, ↓reduceIte, Nat.reduceEqDiff, Nat.reduceAdd, Nat.reduceLeDiff, Nat.reduceMul, Nat.reduceSub, Int.reduceLE, Int.reduceLT, Int.reduceEq, Int.reduceToNat, Int.reducePow, Int.reduceNeg]
      refine hK _ ?_; clear hK
      refine bwp_seq fun K hK => bwp_region rfl ?_
      simp -implicitDefEqProofs only [go_sem, ↓reduceIte, Nat.reduceEqDiff, Nat.reduceAdd, Nat.reduceLeDiff, Nat.reduceMul, Nat.reduceSub, Int.reduceLE, Int.reduceLT, Int.reduceEq, Int.reduceToNat, Int.reducePow, Int.reduceNeg]
      refine hK _ ?_; clear hK
      refine bwp_ret ?_
      simp only [go_sem]
      refine aend_mem (.agg ((lkT ⟨pos, noTok, (nextW s pos).2.1, (nextW s pos).2.2, skipA s pos⟩).cells.map .d)) [(0, 0)] [(0, rdC s ⟨pos, noTok, (nextW s pos).2.1, (nextW s pos).2.2, skipA s pos⟩)] ?_ rfl rfl ?_ ⟨⟨pos, noTok, (nextW s pos).2.1, (nextW s pos).2.2, skipA s pos⟩, rfl, rfl, ?_⟩
      · rw [lkT_no h0]
        simp [resA, resVs, resV, fget, mget, mset, loadA, h34]
      · simp [entM, pinv, mget, mset, renL, AV.ren, rdC, pget, noTok]
      · rw [hσ]
        unfold goW
        rw [if_neg h0]
        exact ⟨rfl, h0, rfl⟩
  · have hc : ¬ r.code = 0 := by rw [he.1]; exact he.2.1
    refine acalls_of Tryd.func61 ac61_ok Tryd.ntmps61 Tryd.results61 rfl ?_
    unfold ac61
    refine bwp_seq fun K hK => bwp_region rfl ?_
    simp -implicitDefEqProofs only [go_sem, ↓reduceIte, Nat.reduceEqDiff, Nat.reduceAdd, Nat.reduceLeDiff, Nat.reduceMul, Nat.reduceSub, Int.reduceLE, Int.reduceLT, Int.reduceEq, Int.reduceToNat, Int.reducePow, Int.reduceNeg]
    refine hK _ ?_; clear hK
    refine bwp_seq fun K1 hK1 => ?_
    refine bwp_seq fun K hK => bwp_region rfl ?_
    simp -implicitDefEqProofs only [go_sem, ↓reduceIte, Nat.reduceEqDiff, Nat.reduceAdd, Nat.reduceLeDiff, Nat.reduceMul, Nat.reduceSub, Int.reduceLE, Int.reduceLT, Int.reduceEq, Int.reduceToNat, Int.reducePow, Int.reduceNeg, rdC, eq_false hc]
    refine hK _ ?_; clear hK
    refine bwp_cond true (by simp [ev, fget]) (fun _ => ?_) (fun h => nomatch h)
    refine bwp_seq fun K hK => bwp_region rfl ?_
    simp -implicitDefEqProofs only [go_sem, ↓reduceIte, Nat.reduceEqDiff, Nat.reduceAdd, Nat.reduceLeDiff, Nat.reduceMul, Nat.reduceSub, Int.reduceLE, Int.reduceLT, Int.reduceEq, Int.reduceToNat, Int.reducePow, Int.reduceNeg]
    refine hK _ ?_; clear hK
    refine bwp_ret ?_
    simp only [go_sem]
    refine aend_mem (.agg ((lkT r).cells.map .d)) [(0, 0)] [(0, rdC s r)] ?_ rfl rfl ?_ ⟨r, rfl, rfl, he⟩
    · rw [lkT_no hc]
      simp [resA, resVs, resV, fget, mget, mset, loadA, h34]
    · simp [entM, pinv, mget, mset, renL, AV.ren, rdC, pget]

theorem look_callK {s : List UInt8} (hs : s.length ≤ 140737488351232) {σ : PR Nat} {r : RSt} (h : RS s σ r) {j : Nat} {dst : Option Nat} {ops : List AOper} {K : St → Prop} {t : Fr} {m : Mem} {n : Nat} (hm : mget m j = some (rdC s r))
    (hk : ∀ r', RL s σ r' → runOps Tryd.prog ops ⟨putF t dst (.agg ((lkT r').cells.map .d)), mset m j (rdC s r'), n + 1⟩ K) : callK Tryd.prog 61 [.ptr j 0] dst ops K t m n := by
  refine rd_callK (rest := []) (Q := fun v r' => v = .agg ((lkT r').cells.map .d) ∧ RL s σ r') (look_calls hs h) rfl ?_ hm ?_
  · rintro _ _ ⟨rfl, _⟩; rfl
  · rintro _ r' ⟨rfl, h⟩; exact hk r' h

set_option maxHeartbeats 4000000 in
theorem is2_calls {s : List UInt8} (hs : s.length ≤ 140737488351232) {σ : PR Nat} {r : RSt} (h : RS s σ r) (x : List UInt8) :
    ACalls Tryd.prog 55 [.ptr 0 0, .d (.str x)] [(0, rdC s r)] fun v m' => ∃ r', m' = [(0, rdC s r')] ∧ (v = .d (.bool (ikB r' x)) ∧ RL s σ r') := by
  refine acalls_of Tryd.func55 ac55_ok Tryd.ntmps55 Tryd.results55 rfl ?_
  unfold ac55
  refine bwp_seq fun K hK => bwp_region rfl ?_
  simp -implicitDefEqProofs only [go_sem, ↓reduceIte, Nat.reduceEqDiff, Nat.reduceAdd, Nat.reduceLeDiff, Nat.reduceMul, Nat.reduceSub, Int.reduceLE, Int.reduceLT, Int.reduceEq, Int.reduceToNat, Int.reducePow, Int.reduceNeg]
  refine hK _ ?_; clear hK
  refine bwp_seq fun K hK => bwp_region rfl ?_
  simp -implicitDefEqProofs only [go_sem, ↓reduceIte, Nat.reduceEqDiff, Nat.reduceAdd, Nat.reduceLeDiff, Nat.reduceMul, Nat.reduceSub, Int.reduceLE, Int.reduceLT, Int.reduceEq, Int.reduceToNat, Int.reducePow, Int.reduceNeg]
  refine look_callK hs h rfl ?_
  intro q hq
  by_cases h0 : q.code = 0
  · rw [lkT_ok h0]
    simp -implicitDefEqProofs only [go_sem, ↓reduceIte, Nat.reduceEqDiff, Nat.reduceAdd, Nat.reduceLeDiff, Nat.reduceMul, Nat.reduceSub, Int.reduceLE, Int.reduceLT, Int.reduceEq, Int.reduceToNat, Int.reducePow, Int.reduceNeg, mset]
    refine hK _ ?_; clear hK
    by_cases h3 : q.tok.kd = 3
    · have h1 : ¬ q.tok.kd = 1 := by omega
      refine bwp_seq fun K hK => bwp_region rfl ?_
      simp -implicitDefEqProofs only [go_sem, ↓reduceIte, Nat.reduceEqDiff, Nat.reduceAdd, Nat.reduceLeDiff, Nat.reduceMul, Nat.reduceSub, Int.reduceLE, Int.reduceLT, Int.reduceEq, Int.reduceToNat, Int.reducePow, Int.reduceNeg, eq_true h0, eq_true h3, eq_false h1, rdC, decide_true, decide_false]
      refine hK _ ?_; clear hK
      refine bwp_ret ?_
      simp only [go_sem]
      refine aend_mem (.d (.bool (ikB q x))) [(0, 0)] [(0, rdC s q)] ?_ rfl rfl ?_ ⟨q, rfl, rfl, hq⟩
      · simp [resA, resVs, resV, fget, ikB, isK, h0, h3]
      · simp [entM, pinv, mget, mset, renL, AV.ren, rdC, pget]
    · by_cases h1 : q.tok.kd = 1
      · refine bwp_seq fun K hK => bwp_region rfl ?_
        simp -implicitDefEqProofs only [go_sem, ↓reduceIte, Nat.reduceEqDiff, Nat.reduceAdd, Nat.reduceLeDiff, Nat.reduceMul, Nat.reduceSub, Int.reduceLE, Int.reduceLT, Int.reduceEq, Int.reduceToNat, Int.reducePow, Int.reduceNeg, eq_true h0, eq_true h1, eq_false h3, rdC, decide_true]
        refine hK _ ?_; clear hK
        refine bwp_ret ?_
        simp only [go_sem]
        refine aend_mem (.d (.bool (ikB q x))) [(0, 0)] [(0, rdC s q)] ?_ rfl rfl ?_ ⟨q, rfl, rfl, hq⟩
        · simp [resA, resVs, resV, fget, ikB, isK, h0, h1]
        · simp [entM, pinv, mget, mset, renL, AV.ren, rdC, pget]
      · refine bwp_seq fun K hK => bwp_region rfl ?_
        simp -implicitDefEqProofs only [go_sem, ↓reduceIte, Nat.reduceEqDiff, Nat.reduceAdd, Nat.reduceLeDiff, Nat.reduceMul, Nat.reduceSub, Int.reduceLE, Int.reduceLT, Int.reduceEq, Int.reduceToNat, Int.reducePow, Int.reduceNeg, eq_true h0, eq_false h1, eq_false h3, rdC, decide_true, decide_false]
        refine hK _ ?_; clear hK
        refine bwp_ret ?_
        simp only [go_sem]
        refine aend_mem (.d (.bool (ikB q x))) [(0, 0)] [(0, rdC s q)] ?_ rfl rfl ?_ ⟨q, rfl, rfl, hq⟩
        · simp [resA, resVs, resV, fget, ikB, isK, h0, h1, h3]
        · simp [entM, pinv, mget, mset, renL, AV.ren, rdC, pget]
  · rw [lkT_no h0]
    simp -implicitDefEqProofs only [go_sem, ↓reduceIte, Nat.reduceEqDiff, Nat.reduceAdd, Nat.reduceLeDiff, Nat.reduceMul, Nat.reduceSub, Int.reduceLE, Int.reduceLT, Int.reduceEq, Int.reduceToNat, Int.reducePow, Int.reduceNeg, mset]
    refine hK _ ?_; clear hK
    refine bwp_seq fun K hK => bwp_region rfl ?_
    simp -implicitDefEqProofs only [go_sem, ↓reduceIte, Nat.reduceEqDiff, Nat.reduceAdd, Nat.reduceLeDiff, Nat.reduceMul, Nat.reduceSub, Int.reduceLE, Int.reduceLT, Int.reduceEq, Int.reduceToNat, Int.reducePow, Int.reduceNeg, eq_false h0, rdC, decide_false]
    refine hK _ ?_; clear hK
    refine bwp_ret ?_
    simp only [go_sem]
    refine aend_mem (.d (.bool (ikB q x))) [(0, 0)] [(0, rdC s q)] ?_ rfl rfl ?_ ⟨q, rfl, rfl, hq⟩
    · simp [resA, resVs, resV, fget, ikB, h0]
    · simp [entM, pinv, mget, mset, renL, AV.ren, rdC, pget]

theorem is2_callK {s : List UInt8} (hs : s.length ≤ 140737488351232) {σ : PR Nat} {r : RSt} (h : RS s σ r) (x : List UInt8) {j : Nat} {dst : Option Nat} {ops : List AOper} {K : St → Prop} {t : Fr} {m : Mem} {n : Nat} (hm : mget m j = some (rdC s r))
    (hk : ∀ r', RL s σ r' → runOps Tryd.prog ops ⟨putF t dst (.d (.bool (ikB r' x))), mset m j (rdC s r'), n + 1⟩ K) : callK Tryd.prog 55 [.ptr j 0, .d (.str x)] dst ops K t m n := by
  refine rd_callK (rest := [.d (.str x)]) (Q := fun v r' => v = .d (.bool (ikB r' x)) ∧ RL s σ r') (is2_calls hs h x) rfl ?_ hm ?_
  · rintro _ _ ⟨rfl, _⟩; rfl
  · rintro _ r' ⟨rfl, h⟩; exact hk r' h

theorem go_calls (s : List UInt8) (r : RSt) : ACalls Tryd.prog 56 [.ptr 0 0] [(0, rdC s r)] fun v m' => ∃ r', m' = [(0, rdC s r')] ∧ (v = .tup [] ∧ r' = goR r) := by
  refine acalls_of Tryd.func56 ac56_ok Tryd.ntmps56 Tryd.results56 rfl ?_
  unfold ac56
  refine bwp_region rfl ?_
  simp -implicitDefEqProofs only [go_sem, ↓reduceIte, Nat.reduceEqDiff, Nat.reduceAdd, Nat.reduceLeDiff, Nat.reduceMul, Nat.reduceSub, Int.reduceLE, Int.reduceLT, Int.reduceEq, Int.reduceToNat, Int.reducePow, Int.reduceNeg, rdC]
  refine ⟨.tup [], rfl, [(0, 0)], [(0, rdC s (goR r))], rfl, rfl, ?_, ⟨_, rfl, rfl, rfl⟩⟩
  simp [entM, pinv, mget, mset, renL, AV.ren, rdC, pget, goR]

theorem go_callK (s : List UInt8) (r : RSt) {j : Nat} {dst : Option Nat} {ops : List AOper} {K : St → Prop} {t : Fr} {m : Mem} {n : Nat} (hm : mget m j = some (rdC s r))
    (hk : runOps Tryd.prog ops ⟨putF t dst (.tup []), mset m j (rdC s (goR r)), n + 1⟩ K) : callK Tryd.prog 56 [.ptr j 0] dst ops K t m n := by
  refine rd_callK (rest := []) (Q := fun v r' => v = .tup [] ∧ r' = goR r) (go_calls s r) rfl ?_ hm ?_
  · rintro _ _ ⟨rfl, _⟩; rfl
  · rintro _ r' ⟨rfl, rfl⟩; exact hk

theorem fail2_calls (s : List UInt8) (q : RSt) (c : Int) : ACalls Tryd.prog 62 [.ptr 0 0, .d (.int .i64 c)] [(0, rdC s q)] fun r m' => ∃ q', m' = [(0, rdC s q')] ∧ (r = .tup [] ∧ q' = failR q c) := by
  by_cases h : q.code = 0
  · have hf : failR q c = { q with code := c, eat := q.tok.pl } := by unfold failR; rw [if_pos h]
    rw [hf]
    refine acalls_of Tryd.func62 ac62_ok Tryd.ntmps62 Tryd.results62 rfl ?_
    unfold ac62
    refine bwp_seq fun K hK => bwp_region rfl ?_
    simp -implicitDefEqProofs only [go_sem, ↓reduceIte, Nat.reduceEqDiff, Nat.reduceAdd, Nat.reduceLeDiff, Nat.reduceMul, Nat.reduceSub, Int.reduceLE, Int.reduceLT, Int.reduceEq, Int.reduceToNat, Int.reducePow, Int.reduceNeg, rdC, h]
    refine hK _ ?_; clear hK
    refine bwp_cond true (by simp [ev, fget]) (fun _ => ?_) (fun h => nomatch h)
    refine bwp_region rfl ?_
    simp -implicitDefEqProofs only [go_sem, ↓reduceIte, Nat.reduceEqDiff, Nat.reduceAdd, Nat.reduceLeDiff, Nat.reduceMul, Nat.reduceSub, Int.reduceLE, Int.reduceLT, Int.reduceEq, Int.reduceToNat, Int.reducePow, Int.reduceNeg]
    refine ⟨.tup [], rfl, [(0, 0)], [(0, rdC s { q with code := c, eat := q.tok.pl })], rfl, rfl, ?_, ⟨_, rfl, rfl, rfl⟩⟩
    simp [entM, pinv, mget, mset, renL, AV.ren, rdC, pget]
  · have hf : failR q c = q := by unfold failR; rw [if_neg h]
    rw [hf]
    refine acalls_of Tryd.func62 ac62_ok Tryd.ntmps62 Tryd.results62 rfl ?_
    unfold ac62
    refine bwp_seq fun K hK => bwp_region rfl ?_
    simp -implicitDefEqProofs only [go_sem, ↓reduceIte, Nat.reduceEqDiff, Nat.reduceAdd, Nat.reduceLeDiff, Nat.reduceMul, Nat.reduceSub, Int.reduceLE, Int.reduceLT, Int.reduceEq, Int.reduceToNat, Int.reducePow, Int.reduceNeg, rdC, h]
    refine hK _ ?_; clear hK
    refine bwp_cond false (by simp [ev, fget]) (fun h => nomatch h) (fun _ => ?_)
    refine bwp_skip ?_
    refine ⟨.tup [], rfl, [(0, 0)], [(0, rdC s q)], rfl, rfl, ?_, ⟨_, rfl, rfl, rfl⟩⟩
    simp [entM, pinv, mget, mset, renL, AV.ren, rdC, pget]

theorem fail2_callK (s : List UInt8) (q : RSt) (c : Int) {j : Nat} {dst : Option Nat} {ops : List AOper} {K : St → Prop} {t : Fr} {m : Mem} {n : Nat} (hm : mget m j = some (rdC s q))
    (hk : runOps Tryd.prog ops ⟨putF t dst (.tup []), mset m j (rdC s (failR q c)), n + 1⟩ K) : callK Tryd.prog 62 [.ptr j 0, .d (.int .i64 c)] dst ops K t m n := by
  refine rd_callK (rest := [.d (.int .i64 c)]) (Q := fun r q' => r = .tup [] ∧ q' = failR q c) (fail2_calls s q c) rfl ?_ hm ?_
  · rintro _ _ ⟨rfl, _⟩; rfl
  · rintro _ q' ⟨rfl, rfl⟩; exact hk

theorem eat2_calls {s : List UInt8} (hs : s.length ≤ 140737488351232) {σ : PR Nat} {r : RSt} (h : RS s σ r) (x : List UInt8) :
    ACalls Tryd.prog 53 [.ptr 0 0, .d (.str x)] [(0, rdC s r)] fun v m' => ∃ r', m' = [(0, rdC s r')] ∧ (v = .tup [] ∧ RQ s (thn σ ((tMust x).run s)) () r') := by
  refine acalls_of Tryd.func53 ac53_ok Tryd.ntmps53 Tryd.results53 rfl ?_
  unfold ac53
  refine bwp_seq fun K1 hK1 => ?_
  refine bwp_seq fun K hK => bwp_region rfl ?_
  simp -implicitDefEqProofs only [go_sem, ↓reduceIte, Nat.reduceEqDiff, Nat.reduceAdd, Nat.reduceLeDiff, Nat.reduceMul, Nat.reduceSub, Int.reduceLE, Int.reduceLT, Int.reduceEq, Int.reduceToNat, Int.reducePow, Int.reduceNeg]
  refine is2_callK hs h x rfl ?_
  intro q hq
  simp -implicitDefEqProofs only [go_sem, ↓reduceIte, Nat.reduceEqDiff, Nat.reduceAdd, Nat.reduceLeDiff, Nat.reduceMul, Nat.reduceSub, Int.reduceLE, Int.reduceLT, Int.reduceEq, Int.reduceToNat, Int.reducePow, Int.reduceNeg, mset]
  refine hK _ ?_; clear hK
  cases hb : ikB q x with
  | true =>
    refine bwp_cond true (by simp [ev, fget]) (fun _ => ?_) (fun h => nomatch h)
    refine bwp_seq fun K hK => bwp_region rfl ?_
    simp -implicitDefEqProofs only [go_sem, ↓reduceIte, Nat.reduceEqDiff, Nat.reduceAdd, Nat.reduceLeDiff, Nat.reduceMul, Nat.reduceSub, Int.reduceLE, Int.reduceLT, Int.reduceEq, Int.reduceToNat, Int.reducePow, Int.reduceNeg]
    refine go_callK s q rfl ?_
    simp -implicitDefEqProofs only [go_sem, ↓reduceIte, Nat.reduceEqDiff, Nat.reduceAdd, Nat.reduceLeDiff, Nat.reduceMul, Nat.reduceSub, Int.reduceLE, Int.reduceLT, Int.reduceEq, Int.reduceToNat, Int.reducePow, Int.reduceNeg, mset]
    refine hK _ ?_; clear hK
    refine bwp_ret ?_
    simp -implicitDefEqProofs only [go_sem, ↓reduceIte, Nat.reduceEqDiff, Nat.reduceAdd, Nat.reduceLeDiff, Nat.reduceMul, Nat.reduceSub, Int.reduceLE, Int.reduceLT, Int.reduceEq, Int.reduceToNat, Int.reducePow, Int.reduceNeg]
    refine ⟨.tup [], rfl, [(0, 0)], [(0, rdC s (goR q))], rfl, rfl, ?_, ⟨_, rfl, rfl, ?_⟩⟩
    · simp [entM, pinv, mget, mset, renL, AV.ren, rdC, pget]
    · obtain ⟨a, rfl, h4, hc⟩ := ikB_ok hq hb
      exact RQ.take_yes (x := x) (no := .bad 6) hq hb (RQ.ret hq.go)
  | false =>
    refine bwp_cond false (by simp [ev, fget]) (fun h => nomatch h) (fun _ => ?_)
    refine bwp_skip ?_
    refine hK1 _ ?_; clear hK1
    refine bwp_region rfl ?_
    simp -implicitDefEqProofs only [go_sem, ↓reduceIte, Nat.reduceEqDiff, Nat.reduceAdd, Nat.reduceLeDiff, Nat.reduceMul, Nat.reduceSub, Int.reduceLE, Int.reduceLT, Int.reduceEq, Int.reduceToNat, Int.reducePow, Int.reduceNeg]
    refine fail2_callK s q 6 rfl ?_
    simp -implicitDefEqProofs only [go_sem, ↓reduceIte, Nat.reduceEqDiff, Nat.reduceAdd, Nat.reduceLeDiff, Nat.reduceMul, Nat.reduceSub, Int.reduceLE, Int.reduceLT, Int.reduceEq, Int.reduceToNat, Int.reducePow, Int.reduceNeg, mset]
    refine ⟨.tup [], rfl, [(0, 0)], [(0, rdC s (failR q 6))], rfl, rfl, ?_, ⟨_, rfl, rfl, ?_⟩⟩
    · simp [entM, pinv, mget, mset, renL, AV.ren, rdC, pget]
    · exact RQ.take_no (x := x) (yes := .ret ()) hq hb (RQ.bad hq (by decide) ())

theorem eat2_callK {s : List UInt8} (hs : s.length ≤ 140737488351232) {σ : PR Nat} {r : RSt} (h : RS s σ r) (x : List UInt8) {j : Nat} {dst : Option Nat} {ops : List AOper} {K : St → Prop} {t : Fr} {m : Mem} {n : Nat} (hm : mget m j = some (rdC s r))
    (hk : ∀ r', RQ s (thn σ ((tMust x).run s)) () r' → runOps Tryd.prog ops ⟨putF t dst (.tup []), mset m j (rdC s r'), n + 1⟩ K) : callK Tryd.prog 53 [.ptr j 0, .d (.str x)] dst ops K t m n := by
  refine rd_callK (rest := [.d (.str x)]) (Q := fun v r' => v = .tup [] ∧ RQ s (thn σ ((tMust x).run s)) () r') (eat2_calls hs h x) rfl ?_ hm ?_
  · rintro _ _ ⟨rfl, _⟩; rfl
  · rintro _ r' ⟨rfl, h⟩; exact hk r' h

end Go.Proofs.YtpfbljkfbjjlkaaDoor
