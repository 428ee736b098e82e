/- What the statement's proof leans on, part 5: the layer, the walks, the plain laws. -/
import Derived.Test.YtpfbljkfbjjlkaaDoorMJP2d
import Derived.Test.YtpfbljkfbjjlkaaDoorMJP2c
set_option linter.unusedSimpArgs false
set_option linter.unusedVariables false

/- The parser's instructions. -/
namespace Go.Proofs.YtpfbljkfbjjlkaaDoor
open Go Go.Jq
set_option maxRecDepth 100000
set_option linter.unusedSimpArgs false

theorem PQ.past_bad {α γ : Type} {s : List UInt8} {τ : PR Nat} {c : Int} {f : Nat → PR (γ × Nat)} {y : γ} {q' : PSt} (h : PQ s (thn (posR (thn τ ((PT.bad c : PT α).run s))) f) y q') : PQ s (thn τ ((PT.bad c : PT γ).run s)) y q' := by
  cases τ with
  | error e => exact h
  | ok a => exact h

def insC (x : Ins) : List AV := x.cells.map .d

set_option maxHeartbeats 16000000 in
theorem pright_calls {s : List UInt8} (hs : s.length ≤ 140737488351232) {σ : PR Nat} {q : PSt} (h : PS s σ q) (rg : Int) :
    ACalls Tryd.prog 93 [.ptr 0 0, .ptr 2 0] [(0, parC q), (1, lexQ s q), (2, insC ⟨0, rg, 0, ⟨0, 0⟩, 0, ⟨0, 0⟩, 0⟩)] fun r m' => ∃ q' x', m' = [(0, parC q'), (1, lexQ s q'), (2, insC x')] ∧ (r = .tup [] ∧ PQ s (thn σ ((tRight rg).run s)) x' q') := by
  refine acalls_of Tryd.func93 ac93_ok Tryd.ntmps93 Tryd.results93 rfl ?_
  unfold ac93
  refine bwp_block ?_
  have fin : ∀ (e : Exit) (t : Fr) (n : Nat) (q' : PSt) (x' : Ins), (e = .ret ∨ e = .normal) → PQ s (thn σ ((tRight rg).run s)) x' q' →
      AEnd Tryd.prog #[] 3 (fun r m' => ∃ q' x', m' = [(0, parC q'), (1, lexQ s q'), (2, insC x')] ∧ (r = .tup [] ∧ PQ s (thn σ ((tRight rg).run s)) x' q')) e ⟨t, [(0, parC q'), (1, lexQ s q'), (2, insC x')], n⟩ := by
    intro e t n q' x' he hq
    rcases he with rfl | rfl
    · refine ⟨.tup [], rfl, [(0, 0), (1, 1), (2, 2)], [(0, parC q'), (1, lexQ s q'), (2, insC x')], rfl, rfl, ?_, ⟨q', x', rfl, rfl, hq⟩⟩
      simp [entM, pinv, mget, mset, renL, AV.ren, parC, lexQ, lexC, pget, insC, Ins.cells]
    · refine ⟨.tup [], rfl, [(0, 0), (1, 1), (2, 2)], [(0, parC q'), (1, lexQ s q'), (2, insC x')], rfl, rfl, ?_, ⟨q', x', rfl, rfl, hq⟩⟩
      simp [entM, pinv, mget, mset, renL, AV.ren, parC, lexQ, lexC, pget, insC, Ins.cells]
  refine bwp_seq fun K hK => bwp_region rfl ?_
  simp -implicitDefEqProofs only [go_sem, ↓reduceIte, Nat.reduceEqDiff, Nat.reduceAdd, Nat.reduceLeDiff, Nat.reduceMul, Nat.reduceSub, Int.reduceLE, Int.reduceLT, Int.reduceEq, Int.reduceToNat, Int.reducePow, Int.reduceNeg]
  refine ptake_callK hs h [108, 111, 97, 100] rfl rfl ?_
  intro q1 hy hn
  cases hb1 : tkB q [108, 111, 97, 100] with
  | true =>
    have h1 := hy hb1
    simp -implicitDefEqProofs only [go_sem, ↓reduceIte, Nat.reduceEqDiff, Nat.reduceAdd, Nat.reduceLeDiff, Nat.reduceMul, Nat.reduceSub, Int.reduceLE, Int.reduceLT, Int.reduceEq, Int.reduceToNat, Int.reducePow, Int.reduceNeg, mset]
    refine hK _ ?_; clear hK
    refine bwp_cond true (by simp [ev, fget]) (fun _ => ?_) (fun h => nomatch h)
    refine bwp_region rfl ?_
    simp -implicitDefEqProofs only [go_sem, ↓reduceIte, Nat.reduceEqDiff, Nat.reduceAdd, Nat.reduceLeDiff, Nat.reduceMul, Nat.reduceSub, Int.reduceLE, Int.reduceLT, Int.reduceEq, Int.reduceToNat, Int.reducePow, Int.reduceNeg]
    refine ploc_callK hs h1 rfl rfl ?_
    intro l q2 h2
    simp -implicitDefEqProofs only [go_sem, ↓reduceIte, Nat.reduceEqDiff, Nat.reduceAdd, Nat.reduceLeDiff, Nat.reduceMul, Nat.reduceSub, Int.reduceLE, Int.reduceLT, Int.reduceEq, Int.reduceToNat, Int.reducePow, Int.reduceNeg, mset, insC, Ins.cells]
    refine fin .normal _ _ q2 ⟨2, rg, l, ⟨0, 0⟩, 0, ⟨0, 0⟩, 0⟩ (.inr rfl) ?_
    exact PQ.take_yes h hb1 (PQ.bind h2 (PQ.ret h2.ps))
  | false =>
    have h1 := hn hb1
    subst h1
    simp -implicitDefEqProofs only [go_sem, ↓reduceIte, Nat.reduceEqDiff, Nat.reduceAdd, Nat.reduceLeDiff, Nat.reduceMul, Nat.reduceSub, Int.reduceLE, Int.reduceLT, Int.reduceEq, Int.reduceToNat, Int.reducePow, Int.reduceNeg, mset]
    refine hK _ ?_; clear hK
    refine bwp_cond false (by simp [ev, fget]) (fun h => nomatch h) (fun _ => ?_)
    refine bwp_seq fun K hK => bwp_region rfl ?_
    simp -implicitDefEqProofs only [go_sem, ↓reduceIte, Nat.reduceEqDiff, Nat.reduceAdd, Nat.reduceLeDiff, Nat.reduceMul, Nat.reduceSub, Int.reduceLE, Int.reduceLT, Int.reduceEq, Int.reduceToNat, Int.reducePow, Int.reduceNeg]
    refine ptake_callK hs h [99, 97, 115] rfl rfl ?_
    intro q2 hy hn
    cases hb2 : tkB q1 [99, 97, 115] with
    | true =>
      have h2 := hy hb2
      simp -implicitDefEqProofs only [go_sem, ↓reduceIte, Nat.reduceEqDiff, Nat.reduceAdd, Nat.reduceLeDiff, Nat.reduceMul, Nat.reduceSub, Int.reduceLE, Int.reduceLT, Int.reduceEq, Int.reduceToNat, Int.reducePow, Int.reduceNeg, mset]
      refine hK _ ?_; clear hK
      refine bwp_cond true (by simp [ev, fget]) (fun _ => ?_) (fun h => nomatch h)
      refine bwp_seq fun K hK => bwp_region rfl ?_
      simp -implicitDefEqProofs only [go_sem, ↓reduceIte, Nat.reduceEqDiff, Nat.reduceAdd, Nat.reduceLeDiff, Nat.reduceMul, Nat.reduceSub, Int.reduceLE, Int.reduceLT, Int.reduceEq, Int.reduceToNat, Int.reducePow, Int.reduceNeg]
      refine ploc_callK hs h2 rfl rfl ?_
      intro l q3 h3
      simp -implicitDefEqProofs only [go_sem, ↓reduceIte, Nat.reduceEqDiff, Nat.reduceAdd, Nat.reduceLeDiff, Nat.reduceMul, Nat.reduceSub, Int.reduceLE, Int.reduceLT, Int.reduceEq, Int.reduceToNat, Int.reducePow, Int.reduceNeg, mset, insC, Ins.cells]
      refine hK _ ?_; clear hK
      refine bwp_seq fun K hK => bwp_region rfl ?_
      simp -implicitDefEqProofs only [go_sem, ↓reduceIte, Nat.reduceEqDiff, Nat.reduceAdd, Nat.reduceLeDiff, Nat.reduceMul, Nat.reduceSub, Int.reduceLE, Int.reduceLT, Int.reduceEq, Int.reduceToNat, Int.reducePow, Int.reduceNeg]
      refine popd_callK hs h3.ps rfl rfl ?_
      intro x q4 h4
      simp -implicitDefEqProofs only [go_sem, ↓reduceIte, Nat.reduceEqDiff, Nat.reduceAdd, Nat.reduceLeDiff, Nat.reduceMul, Nat.reduceSub, Int.reduceLE, Int.reduceLT, Int.reduceEq, Int.reduceToNat, Int.reducePow, Int.reduceNeg, mset]
      refine hK _ ?_; clear hK
      refine bwp_region rfl ?_
      simp -implicitDefEqProofs only [go_sem, ↓reduceIte, Nat.reduceEqDiff, Nat.reduceAdd, Nat.reduceLeDiff, Nat.reduceMul, Nat.reduceSub, Int.reduceLE, Int.reduceLT, Int.reduceEq, Int.reduceToNat, Int.reducePow, Int.reduceNeg]
      refine popd_callK hs h4.ps rfl rfl ?_
      intro y q5 h5
      simp -implicitDefEqProofs only [go_sem, ↓reduceIte, Nat.reduceEqDiff, Nat.reduceAdd, Nat.reduceLeDiff, Nat.reduceMul, Nat.reduceSub, Int.reduceLE, Int.reduceLT, Int.reduceEq, Int.reduceToNat, Int.reducePow, Int.reduceNeg, mset]
      refine fin .normal _ _ q5 ⟨4, rg, l, x, 0, y, 0⟩ (.inr rfl) ?_
      exact PQ.take_no h hb1 (PQ.take_yes h hb2 (PQ.bind h3 (PQ.bind h4 (PQ.bind h5 (PQ.ret h5.ps)))))
    | false =>
      have h2 := hn hb2
      subst h2
      simp -implicitDefEqProofs only [go_sem, ↓reduceIte, Nat.reduceEqDiff, Nat.reduceAdd, Nat.reduceLeDiff, Nat.reduceMul, Nat.reduceSub, Int.reduceLE, Int.reduceLT, Int.reduceEq, Int.reduceToNat, Int.reducePow, Int.reduceNeg, mset]
      refine hK _ ?_; clear hK
      refine bwp_cond false (by simp [ev, fget]) (fun h => nomatch h) (fun _ => ?_)
      refine bwp_seq fun K hK => bwp_region rfl ?_
      simp -implicitDefEqProofs only [go_sem, ↓reduceIte, Nat.reduceEqDiff, Nat.reduceAdd, Nat.reduceLeDiff, Nat.reduceMul, Nat.reduceSub, Int.reduceLE, Int.reduceLT, Int.reduceEq, Int.reduceToNat, Int.reducePow, Int.reduceNeg]
      refine popd_callK hs h rfl rfl ?_
      intro x q3 h3
      simp -implicitDefEqProofs only [go_sem, ↓reduceIte, Nat.reduceEqDiff, Nat.reduceAdd, Nat.reduceLeDiff, Nat.reduceMul, Nat.reduceSub, Int.reduceLE, Int.reduceLT, Int.reduceEq, Int.reduceToNat, Int.reducePow, Int.reduceNeg, mset, insC, Ins.cells]
      refine hK _ ?_; clear hK
      have stop : (q3.code = 0 → q3.tok.kd = 3 → (opW q3.tok.tx).2 = false) → PQ s (thn σ ((tRight rg).run s)) ⟨5, rg, 0, x, 0, ⟨-1, 0⟩, 0⟩ q3 := by
        intro hno
        refine PQ.take_no h hb1 (PQ.take_no h hb2 (PQ.bind h3 ?_))
        have h3' := h3.ps
        generalize posR (thn σ (tOpd.run s)) = τ at h3' ⊢
        cases τ with
        | error e => exact h3'
        | ok a =>
          refine PQ.cur h3' ?_
          rw [if_neg (fun hc => by rw [hno h3'.code hc.1] at hc; cases hc.2)]
          exact PQ.ret h3'
      refine bwp_seq fun K1 hK1 => ?_
      refine bwp_seq fun K hK => bwp_region rfl ?_
      simp -implicitDefEqProofs only [go_sem, ↓reduceIte, Nat.reduceEqDiff, Nat.reduceAdd, Nat.reduceLeDiff, Nat.reduceMul, Nat.reduceSub, Int.reduceLE, Int.reduceLT, Int.reduceEq, Int.reduceToNat, Int.reducePow, Int.reduceNeg]
      refine pok_callK s q3 rfl rfl ?_
      by_cases hc : q3.code = 0
      · by_cases hk : q3.tok.kd = 3
        · simp -implicitDefEqProofs only [go_sem, ↓reduceIte, Nat.reduceEqDiff, Nat.reduceAdd, Nat.reduceLeDiff, Nat.reduceMul, Nat.reduceSub, Int.reduceLE, Int.reduceLT, Int.reduceEq, Int.reduceToNat, Int.reducePow, Int.reduceNeg, mset, eq_true hc, eq_true hk, parC, decide_true]
          refine hK _ ?_; clear hK
          refine bwp_cond false (by simp [ev, fget]) (fun h => nomatch h) (fun _ => ?_)
          refine bwp_skip ?_
          refine hK1 _ ?_; clear hK1
          have hl := h3.ps.pos.2
          have kop := op_pure q3.tok.tx
          refine bwp_seq fun K hK => bwp_region rfl ?_
          simp -implicitDefEqProofs only [go_sem, ↓reduceIte, Nat.reduceEqDiff, Nat.reduceAdd, Nat.reduceLeDiff, Nat.reduceMul, Nat.reduceSub, Int.reduceLE, Int.reduceLT, Int.reduceEq, Int.reduceToNat, Int.reducePow, Int.reduceNeg]
          repeat' (first
            | (refine gateK_split (fun hb => ?_) (fun hb => ?_) <;> simp -implicitDefEqProofs only [go_sem, ↓reduceIte, Nat.reduceEqDiff, Nat.reduceAdd, Nat.reduceLeDiff, Nat.reduceMul, Nat.reduceSub, Int.reduceLE, Int.reduceLT, Int.reduceEq, Int.reduceToNat, Int.reducePow, Int.reduceNeg, hb])
            | (refine dGateK_split (fun hb => ?_) (fun hb => ?_) <;> simp -implicitDefEqProofs only [go_sem, ↓reduceIte, Nat.reduceEqDiff, Nat.reduceAdd, Nat.reduceLeDiff, Nat.reduceMul, Nat.reduceSub, Int.reduceLE, Int.reduceLT, Int.reduceEq, Int.reduceToNat, Int.reducePow, Int.reduceNeg, hb])
            | (refine callK_pure (kop) rfl rfl ?_; simp -implicitDefEqProofs only [go_sem, ↓reduceIte, Nat.reduceEqDiff, Nat.reduceAdd, Nat.reduceLeDiff, Nat.reduceMul, Nat.reduceSub, Int.reduceLE, Int.reduceLT, Int.reduceEq, Int.reduceToNat, Int.reducePow, Int.reduceNeg])
            | (refine dCallK_pure (kop) rfl rfl ?_; simp -implicitDefEqProofs only [go_sem, ↓reduceIte, Nat.reduceEqDiff, Nat.reduceAdd, Nat.reduceLeDiff, Nat.reduceMul, Nat.reduceSub, Int.reduceLE, Int.reduceLT, Int.reduceEq, Int.reduceToNat, Int.reducePow, Int.reduceNeg])
            | (rw [if_pos (by (try simp only [List.length_append, List.length_cons, List.length_nil, List.length_map]); omega)]; simp -implicitDefEqProofs only [go_sem, ↓reduceIte, Nat.reduceEqDiff, Nat.reduceAdd, Nat.reduceLeDiff, Nat.reduceMul, Nat.reduceSub, Int.reduceLE, Int.reduceLT, Int.reduceEq, Int.reduceToNat, Int.reducePow, Int.reduceNeg]))
          refine hK _ ?_; clear hK
          refine bwp_seq fun K hK => bwp_region rfl ?_
          simp -implicitDefEqProofs only [go_sem, ↓reduceIte, Nat.reduceEqDiff, Nat.reduceAdd, Nat.reduceLeDiff, Nat.reduceMul, Nat.reduceSub, Int.reduceLE, Int.reduceLT, Int.reduceEq, Int.reduceToNat, Int.reducePow, Int.reduceNeg]
          refine hK _ ?_; clear hK
          cases ho : (opW q3.tok.tx).2 with
          | false =>
            refine bwp_cond false (by simp [ev, fget, ho]) (fun h => nomatch h) (fun _ => ?_)
            refine bwp_skip ?_
            refine fin .normal _ _ q3 ⟨5, rg, 0, x, 0, ⟨-1, 0⟩, 0⟩ (.inr rfl) (stop fun _ _ => ho)
          | true =>
            refine bwp_cond true (by simp [ev, fget, ho]) (fun _ => ?_) (fun h => nomatch h)
            refine bwp_seq fun K hK => bwp_region rfl ?_
            simp -implicitDefEqProofs only [go_sem, ↓reduceIte, Nat.reduceEqDiff, Nat.reduceAdd, Nat.reduceLeDiff, Nat.reduceMul, Nat.reduceSub, Int.reduceLE, Int.reduceLT, Int.reduceEq, Int.reduceToNat, Int.reducePow, Int.reduceNeg]
            refine pnext_callK (q := q3) hs h3.ps rfl rfl ?_
            intro q4 h4
            simp -implicitDefEqProofs only [go_sem, ↓reduceIte, Nat.reduceEqDiff, Nat.reduceAdd, Nat.reduceLeDiff, Nat.reduceMul, Nat.reduceSub, Int.reduceLE, Int.reduceLT, Int.reduceEq, Int.reduceToNat, Int.reducePow, Int.reduceNeg, mset]
            refine hK _ ?_; clear hK
            refine bwp_region rfl ?_
            simp -implicitDefEqProofs only [go_sem, ↓reduceIte, Nat.reduceEqDiff, Nat.reduceAdd, Nat.reduceLeDiff, Nat.reduceMul, Nat.reduceSub, Int.reduceLE, Int.reduceLT, Int.reduceEq, Int.reduceToNat, Int.reducePow, Int.reduceNeg]
            refine popd_callK hs h4 rfl rfl ?_
            intro z q5 h5
            simp -implicitDefEqProofs only [go_sem, ↓reduceIte, Nat.reduceEqDiff, Nat.reduceAdd, Nat.reduceLeDiff, Nat.reduceMul, Nat.reduceSub, Int.reduceLE, Int.reduceLT, Int.reduceEq, Int.reduceToNat, Int.reducePow, Int.reduceNeg, mset]
            refine fin .normal _ _ q5 ⟨5, rg, 0, x, (opW q3.tok.tx).1, z, 0⟩ (.inr rfl) ?_
            refine PQ.take_no h hb1 (PQ.take_no h hb2 (PQ.bind h3 ?_))
            refine PQ.cur h3.ps ?_
            rw [if_pos ⟨hk, ho⟩]
            exact PQ.eat (PQ.bind h5 (PQ.ret h5.ps))
        · simp -implicitDefEqProofs only [go_sem, ↓reduceIte, Nat.reduceEqDiff, Nat.reduceAdd, Nat.reduceLeDiff, Nat.reduceMul, Nat.reduceSub, Int.reduceLE, Int.reduceLT, Int.reduceEq, Int.reduceToNat, Int.reducePow, Int.reduceNeg, mset, eq_true hc, eq_false hk, parC, decide_true]
          refine hK _ ?_; clear hK
          refine bwp_cond true (by simp [ev, fget]) (fun _ => ?_) (fun h => nomatch h)
          refine bwp_ret ?_
          simp -implicitDefEqProofs only [go_sem, ↓reduceIte, Nat.reduceEqDiff, Nat.reduceAdd, Nat.reduceLeDiff, Nat.reduceMul, Nat.reduceSub, Int.reduceLE, Int.reduceLT, Int.reduceEq, Int.reduceToNat, Int.reducePow, Int.reduceNeg]
          exact fin .ret _ _ q3 ⟨5, rg, 0, x, 0, ⟨-1, 0⟩, 0⟩ (.inl rfl) (stop fun _ h => absurd h hk)
      · simp -implicitDefEqProofs only [go_sem, ↓reduceIte, Nat.reduceEqDiff, Nat.reduceAdd, Nat.reduceLeDiff, Nat.reduceMul, Nat.reduceSub, Int.reduceLE, Int.reduceLT, Int.reduceEq, Int.reduceToNat, Int.reducePow, Int.reduceNeg, mset, eq_false hc, parC, decide_false]
        refine hK _ ?_; clear hK
        refine bwp_cond true (by simp [ev, fget]) (fun _ => ?_) (fun h => nomatch h)
        refine bwp_ret ?_
        simp -implicitDefEqProofs only [go_sem, ↓reduceIte, Nat.reduceEqDiff, Nat.reduceAdd, Nat.reduceLeDiff, Nat.reduceMul, Nat.reduceSub, Int.reduceLE, Int.reduceLT, Int.reduceEq, Int.reduceToNat, Int.reducePow, Int.reduceNeg]
        exact fin .ret _ _ q3 ⟨5, rg, 0, x, 0, ⟨-1, 0⟩, 0⟩ (.inl rfl) (stop fun h => absurd h hc)

theorem insC_ren (π : Nat → Option Nat) (x : Ins) : renL π (insC x) = insC x := renL_d _ _
theorem insC_in (π : Nat → Option Nat) (x : Ins) : inL π (insC x) = true := rfl

theorem pright_callK {s : List UInt8} (hs : s.length ≤ 140737488351232) {σ : PR Nat} {q : PSt} (h : PS s σ q) (rg : Int) {j : Nat} (hj : 2 ≤ j) {dst : Option Nat} {ops : List AOper} {K : St → Prop} {t : Fr} {m : Mem} {n : Nat} (hm0 : mget m 0 = some (parC q)) (hm1 : mget m 1 = some (lexQ s q)) (hm2 : mget m j = some (insC ⟨0, rg, 0, ⟨0, 0⟩, 0, ⟨0, 0⟩, 0⟩))
    (hk : ∀ x' q', PQ s (thn σ ((tRight rg).run s)) x' q' → runOps Tryd.prog ops ⟨putF t dst (.tup []), mset (mset (mset m 0 (parC q')) 1 (lexQ s q')) j (insC x'), n + 3⟩ K) : callK Tryd.prog 93 [.ptr 0 0, .ptr j 0] dst ops K t m n := by
  have e0 : pget [(0, 0), (1, 1), (2, j)] 1 = some 1 := rfl
  have ht : ∀ x, pget [(0, 0), (1, 1), (2, j)] x = if 0 = x then some 0 else if 1 = x then some 1 else if 2 = x then some j else none := fun x => rfl
  refine callK_gen [(0, 0), (1, 1), (2, j)] [.ptr 0 0, .ptr 2 0] [(0, parC q), (1, lexQ s q), (2, insC ⟨0, rg, 0, ⟨0, 0⟩, 0, ⟨0, 0⟩, 0⟩)] (nb := j + 1) (pright_calls hs h rg) ?_ (by simp [renL, AV.ren, pget]) rfl ?_ rfl ?_
  · simp [okRen]; omega
  · refine ⟨?_, ?_, ?_, trivial⟩
    · show mget m 0 = some (renL (pget _) (parC q)) ∧ _
      exact ⟨by rw [hm0, parC_ren _ e0], rfl⟩
    · show mget m 1 = some (renL (pget _) (lexQ s q)) ∧ _
      exact ⟨by rw [hm1, lexQ_ren], rfl⟩
    · show mget m j = some (renL (pget _) (insC _)) ∧ _
      exact ⟨by rw [hm2, insC_ren], rfl⟩
  · rintro r0 m' ⟨q', x', rfl, rfl, hq⟩
    have e1 : callMem [(0, 0), (1, 1), (2, j)] [(0, parC q), (1, lexQ s q), (2, insC ⟨0, rg, 0, ⟨0, 0⟩, 0, ⟨0, 0⟩, 0⟩)] [(0, parC q'), (1, lexQ s q'), (2, insC x')] n m = mset (mset (mset m 0 (parC q')) 1 (lexQ s q')) j (insC x') := by
      show mset (mset (mset m 0 (renL (renOf [(0, 0), (1, 1), (2, j)] _ _ n) (parC q'))) 1 (renL (renOf [(0, 0), (1, 1), (2, j)] _ _ n) (lexQ s q'))) j (renL (renOf [(0, 0), (1, 1), (2, j)] _ _ n) (insC x')) = _
      have hp : renOf [(0, 0), (1, 1), (2, j)] [(0, parC q), (1, lexQ s q), (2, insC ⟨0, rg, 0, ⟨0, 0⟩, 0, ⟨0, 0⟩, 0⟩)] [(0, parC q'), (1, lexQ s q'), (2, insC x')] n 1 = some 1 := rfl
      rw [parC_ren _ hp, lexQ_ren, insC_ren]
    rw [e1]
    exact hk x' q' hq

set_option maxHeartbeats 32000000 in
theorem pins_calls {s : List UInt8} (hs : s.length ≤ 140737488351232) {σ : PR Nat} {q : PSt} (h : PS s σ q) :
    ACalls Tryd.prog 75 [.ptr 0 0] [(0, parC q), (1, lexQ s q)] fun r m' => ∃ q', m' = [(0, parC q'), (1, lexQ s q')] ∧ ∃ x : Ins, r = .agg (insC x) ∧ PQ s (thn σ (tIns.run s)) x q' := by
  have hld : ldk Tryd.prog 86 = some (some 9) := by kernel_rfl
  refine acalls_of Tryd.func75 ac75_ok Tryd.ntmps75 Tryd.results75 rfl ?_
  unfold ac75
  refine bwp_seq fun K hK => bwp_region rfl ?_
  simp -implicitDefEqProofs only [go_sem, ↓reduceIte, Nat.reduceEqDiff, Nat.reduceAdd, Nat.reduceLeDiff, Nat.reduceMul, Nat.reduceSub, Int.reduceLE, Int.reduceLT, Int.reduceEq, Int.reduceToNat, Int.reducePow, Int.reduceNeg]
  refine hK _ ?_; clear hK
  refine bwp_seq fun K hK => bwp_region rfl ?_
  simp -implicitDefEqProofs only [go_sem, ↓reduceIte, Nat.reduceEqDiff, Nat.reduceAdd, Nat.reduceLeDiff, Nat.reduceMul, Nat.reduceSub, Int.reduceLE, Int.reduceLT, Int.reduceEq, Int.reduceToNat, Int.reducePow, Int.reduceNeg]
  refine hK _ ?_; clear hK
  refine bwp_seq fun K0 hK0 => ?_
  refine bwp_block ?_
  have fin : ∀ (t : Fr) (n : Nat) (q' : PSt) (x' : Ins), fget t 2 = .ptr 2 0 → fget t 3 = .ptr 3 0 → PQ s (thn σ (tIns.run s)) x' q' → 2 ≤ n → K0 ⟨t, [(0, parC q'), (1, lexQ s q'), (2, [.d (.int .i64 0), .d (.int .i64 0), .d (.int .i64 0), .d (.int .i64 0), .d (.int .i64 0), .d (.int .i64 0), .d (.int .i64 0), .d (.int .i64 0), .d (.int .i64 0)]), (3, insC x')], n⟩ := by
    intro t n q' x' h2 h3 hq hn
    refine hK0 _ ?_; clear hK0
    refine bwp_seq fun K hK => bwp_region (decide_eq_true hn) ?_
    simp -implicitDefEqProofs only [go_sem, ↓reduceIte, Nat.reduceEqDiff, Nat.reduceAdd, Nat.reduceLeDiff, Nat.reduceMul, Nat.reduceSub, Int.reduceLE, Int.reduceLT, Int.reduceEq, Int.reduceToNat, Int.reducePow, Int.reduceNeg, h2, h3, insC, Ins.cells]
    refine hK _ ?_; clear hK
    refine bwp_ret ?_
    simp only [go_sem]
    refine aend_mem (.agg (insC x')) [(0, 0), (1, 1)] [(0, parC q'), (1, lexQ s q')] ?_ rfl rfl ?_ ⟨q', rfl, x', rfl, hq⟩
    · simp [resA, resVs, resV, fget, mget, mset, loadA, hld, h2, insC, Ins.cells]
    · simp [entM, pinv, mget, mset, renL, AV.ren, parC, lexQ, lexC, pget]
  refine bwp_seq fun K hK => bwp_region rfl ?_
  simp -implicitDefEqProofs only [go_sem, ↓reduceIte, Nat.reduceEqDiff, Nat.reduceAdd, Nat.reduceLeDiff, Nat.reduceMul, Nat.reduceSub, Int.reduceLE, Int.reduceLT, Int.reduceEq, Int.reduceToNat, Int.reducePow, Int.reduceNeg]
  refine ptake_callK hs h wStore rfl rfl ?_
  intro q1 hy hn
  cases hb1 : tkB q wStore with
  | true =>
    have h1 := hy hb1
    simp -implicitDefEqProofs only [go_sem, ↓reduceIte, Nat.reduceEqDiff, Nat.reduceAdd, Nat.reduceLeDiff, Nat.reduceMul, Nat.reduceSub, Int.reduceLE, Int.reduceLT, Int.reduceEq, Int.reduceToNat, Int.reducePow, Int.reduceNeg, mset]
    refine hK _ ?_; clear hK
    refine bwp_cond true (by simp [ev, fget]) (fun _ => ?_) (fun h => nomatch h)
    refine bwp_seq fun K hK => bwp_region rfl ?_
    simp -implicitDefEqProofs only [go_sem, ↓reduceIte, Nat.reduceEqDiff, Nat.reduceAdd, Nat.reduceLeDiff, Nat.reduceMul, Nat.reduceSub, Int.reduceLE, Int.reduceLT, Int.reduceEq, Int.reduceToNat, Int.reducePow, Int.reduceNeg]
    refine ploc_callK hs h1 rfl rfl ?_
    intro l q2 h2
    simp -implicitDefEqProofs only [go_sem, ↓reduceIte, Nat.reduceEqDiff, Nat.reduceAdd, Nat.reduceLeDiff, Nat.reduceMul, Nat.reduceSub, Int.reduceLE, Int.reduceLT, Int.reduceEq, Int.reduceToNat, Int.reducePow, Int.reduceNeg, mset]
    refine hK _ ?_; clear hK
    refine bwp_region rfl ?_
    simp -implicitDefEqProofs only [go_sem, ↓reduceIte, Nat.reduceEqDiff, Nat.reduceAdd, Nat.reduceLeDiff, Nat.reduceMul, Nat.reduceSub, Int.reduceLE, Int.reduceLT, Int.reduceEq, Int.reduceToNat, Int.reducePow, Int.reduceNeg]
    refine popd_callK hs h2.ps rfl rfl ?_
    intro x q3 h3
    simp -implicitDefEqProofs only [go_sem, ↓reduceIte, Nat.reduceEqDiff, Nat.reduceAdd, Nat.reduceLeDiff, Nat.reduceMul, Nat.reduceSub, Int.reduceLE, Int.reduceLT, Int.reduceEq, Int.reduceToNat, Int.reducePow, Int.reduceNeg, mset]
    refine fin _ _ q3 ⟨1, 0, l, x, 0, ⟨0, 0⟩, 0⟩ rfl rfl ?_ (by omega)
    exact PQ.take_yes h hb1 (PQ.bind h2 (PQ.bind h3 (PQ.ret h3.ps)))
  | false =>
    have h1 := hn hb1
    subst h1
    simp -implicitDefEqProofs only [go_sem, ↓reduceIte, Nat.reduceEqDiff, Nat.reduceAdd, Nat.reduceLeDiff, Nat.reduceMul, Nat.reduceSub, Int.reduceLE, Int.reduceLT, Int.reduceEq, Int.reduceToNat, Int.reducePow, Int.reduceNeg, mset]
    refine hK _ ?_; clear hK
    refine bwp_cond false (by simp [ev, fget]) (fun h => nomatch h) (fun _ => ?_)
    refine bwp_seq fun K hK => bwp_region rfl ?_
    simp -implicitDefEqProofs only [go_sem, ↓reduceIte, Nat.reduceEqDiff, Nat.reduceAdd, Nat.reduceLeDiff, Nat.reduceMul, Nat.reduceSub, Int.reduceLE, Int.reduceLT, Int.reduceEq, Int.reduceToNat, Int.reducePow, Int.reduceNeg]
    refine ptake_callK hs h wFence rfl rfl ?_
    intro q2 hy hn
    cases hb2 : tkB q1 wFence with
    | true =>
      have h2 := hy hb2
      simp -implicitDefEqProofs only [go_sem, ↓reduceIte, Nat.reduceEqDiff, Nat.reduceAdd, Nat.reduceLeDiff, Nat.reduceMul, Nat.reduceSub, Int.reduceLE, Int.reduceLT, Int.reduceEq, Int.reduceToNat, Int.reducePow, Int.reduceNeg, mset]
      refine hK _ ?_; clear hK
      refine bwp_cond true (by simp [ev, fget]) (fun _ => ?_) (fun h => nomatch h)
      refine bwp_region rfl ?_
      simp -implicitDefEqProofs only [go_sem, ↓reduceIte, Nat.reduceEqDiff, Nat.reduceAdd, Nat.reduceLeDiff, Nat.reduceMul, Nat.reduceSub, Int.reduceLE, Int.reduceLT, Int.reduceEq, Int.reduceToNat, Int.reducePow, Int.reduceNeg]
      refine fin _ _ q2 ⟨3, 0, 0, ⟨0, 0⟩, 0, ⟨0, 0⟩, 0⟩ rfl rfl ?_ (by omega)
      exact PQ.take_no h hb1 (PQ.take_yes h hb2 (PQ.ret h2))
    | false =>
      have h2 := hn hb2
      subst h2
      simp -implicitDefEqProofs only [go_sem, ↓reduceIte, Nat.reduceEqDiff, Nat.reduceAdd, Nat.reduceLeDiff, Nat.reduceMul, Nat.reduceSub, Int.reduceLE, Int.reduceLT, Int.reduceEq, Int.reduceToNat, Int.reducePow, Int.reduceNeg, mset]
      refine hK _ ?_; clear hK
      refine bwp_cond false (by simp [ev, fget]) (fun h => nomatch h) (fun _ => ?_)
      refine bwp_seq fun K hK => bwp_region rfl ?_
      simp -implicitDefEqProofs only [go_sem, ↓reduceIte, Nat.reduceEqDiff, Nat.reduceAdd, Nat.reduceLeDiff, Nat.reduceMul, Nat.reduceSub, Int.reduceLE, Int.reduceLT, Int.reduceEq, Int.reduceToNat, Int.reducePow, Int.reduceNeg]
      refine ptake_callK hs h wSkip rfl rfl ?_
      intro q3 hy hn
      cases hb3 : tkB q2 wSkip with
      | false =>
        have h3 := hn hb3
        subst h3
        simp -implicitDefEqProofs only [go_sem, ↓reduceIte, Nat.reduceEqDiff, Nat.reduceAdd, Nat.reduceLeDiff, Nat.reduceMul, Nat.reduceSub, Int.reduceLE, Int.reduceLT, Int.reduceEq, Int.reduceToNat, Int.reducePow, Int.reduceNeg, mset]
        refine hK _ ?_; clear hK
        refine bwp_cond false (by simp [ev, fget]) (fun h => nomatch h) (fun _ => ?_)
        refine bwp_seq fun K hK => bwp_region rfl ?_
        simp -implicitDefEqProofs only [go_sem, ↓reduceIte, Nat.reduceEqDiff, Nat.reduceAdd, Nat.reduceLeDiff, Nat.reduceMul, Nat.reduceSub, Int.reduceLE, Int.reduceLT, Int.reduceEq, Int.reduceToNat, Int.reducePow, Int.reduceNeg]
        refine preg_callK hs h rfl rfl ?_
        intro rg q4 h4
        simp -implicitDefEqProofs only [go_sem, ↓reduceIte, Nat.reduceEqDiff, Nat.reduceAdd, Nat.reduceLeDiff, Nat.reduceMul, Nat.reduceSub, Int.reduceLE, Int.reduceLT, Int.reduceEq, Int.reduceToNat, Int.reducePow, Int.reduceNeg, mset]
        refine hK _ ?_; clear hK
        refine bwp_seq fun K hK => bwp_region rfl ?_
        simp -implicitDefEqProofs only [go_sem, ↓reduceIte, Nat.reduceEqDiff, Nat.reduceAdd, Nat.reduceLeDiff, Nat.reduceMul, Nat.reduceSub, Int.reduceLE, Int.reduceLT, Int.reduceEq, Int.reduceToNat, Int.reducePow, Int.reduceNeg]
        refine pmust_callK hs h4.ps [61] rfl rfl ?_
        intro q5 h5
        simp -implicitDefEqProofs only [go_sem, ↓reduceIte, Nat.reduceEqDiff, Nat.reduceAdd, Nat.reduceLeDiff, Nat.reduceMul, Nat.reduceSub, Int.reduceLE, Int.reduceLT, Int.reduceEq, Int.reduceToNat, Int.reducePow, Int.reduceNeg, mset]
        refine hK _ ?_; clear hK
        refine bwp_region rfl ?_
        simp -implicitDefEqProofs only [go_sem, ↓reduceIte, Nat.reduceEqDiff, Nat.reduceAdd, Nat.reduceLeDiff, Nat.reduceMul, Nat.reduceSub, Int.reduceLE, Int.reduceLT, Int.reduceEq, Int.reduceToNat, Int.reducePow, Int.reduceNeg]
        refine pright_callK hs h5.ps rg (j := 3) (by decide) rfl rfl rfl ?_
        intro x q6 h6
        simp -implicitDefEqProofs only [go_sem, ↓reduceIte, Nat.reduceEqDiff, Nat.reduceAdd, Nat.reduceLeDiff, Nat.reduceMul, Nat.reduceSub, Int.reduceLE, Int.reduceLT, Int.reduceEq, Int.reduceToNat, Int.reducePow, Int.reduceNeg, mset]
        refine fin _ _ q6 x rfl rfl ?_ (by omega)
        exact PQ.take_no h hb1 (PQ.take_no h hb2 (PQ.take_no h hb3 (PQ.bind h4 (PQ.bind h5 h6))))
      | true =>
        have h3 := hy hb3
        have kp := parse_pure (s := q3.tok.tx) (by have := h3.pos.2; omega)
        simp -implicitDefEqProofs only [go_sem, ↓reduceIte, Nat.reduceEqDiff, Nat.reduceAdd, Nat.reduceLeDiff, Nat.reduceMul, Nat.reduceSub, Int.reduceLE, Int.reduceLT, Int.reduceEq, Int.reduceToNat, Int.reducePow, Int.reduceNeg, mset]
        refine hK _ ?_; clear hK
        refine bwp_cond true (by simp [ev, fget]) (fun _ => ?_) (fun h => nomatch h)
        refine bwp_seq fun K hK => bwp_region rfl ?_
        simp -implicitDefEqProofs only [go_sem, ↓reduceIte, Nat.reduceEqDiff, Nat.reduceAdd, Nat.reduceLeDiff, Nat.reduceMul, Nat.reduceSub, Int.reduceLE, Int.reduceLT, Int.reduceEq, Int.reduceToNat, Int.reducePow, Int.reduceNeg]
        refine hK _ ?_; clear hK
        refine bwp_seq fun K1 hK1 => ?_
        refine bwp_seq fun K hK => bwp_region rfl ?_
        simp -implicitDefEqProofs only [go_sem, ↓reduceIte, Nat.reduceEqDiff, Nat.reduceAdd, Nat.reduceLeDiff, Nat.reduceMul, Nat.reduceSub, Int.reduceLE, Int.reduceLT, Int.reduceEq, Int.reduceToNat, Int.reducePow, Int.reduceNeg, parC]
        repeat' (first
          | (refine gateK_split (fun hb => ?_) (fun hb => ?_) <;> simp -implicitDefEqProofs only [go_sem, ↓reduceIte, Nat.reduceEqDiff, Nat.reduceAdd, Nat.reduceLeDiff, Nat.reduceMul, Nat.reduceSub, Int.reduceLE, Int.reduceLT, Int.reduceEq, Int.reduceToNat, Int.reducePow, Int.reduceNeg, hb])
          | (refine dGateK_split (fun hb => ?_) (fun hb => ?_) <;> simp -implicitDefEqProofs only [go_sem, ↓reduceIte, Nat.reduceEqDiff, Nat.reduceAdd, Nat.reduceLeDiff, Nat.reduceMul, Nat.reduceSub, Int.reduceLE, Int.reduceLT, Int.reduceEq, Int.reduceToNat, Int.reducePow, Int.reduceNeg, hb])
          | (refine callK_pure (kp) rfl rfl ?_; simp -implicitDefEqProofs only [go_sem, ↓reduceIte, Nat.reduceEqDiff, Nat.reduceAdd, Nat.reduceLeDiff, Nat.reduceMul, Nat.reduceSub, Int.reduceLE, Int.reduceLT, Int.reduceEq, Int.reduceToNat, Int.reducePow, Int.reduceNeg])
          | (refine dCallK_pure (kp) rfl rfl ?_; simp -implicitDefEqProofs only [go_sem, ↓reduceIte, Nat.reduceEqDiff, Nat.reduceAdd, Nat.reduceLeDiff, Nat.reduceMul, Nat.reduceSub, Int.reduceLE, Int.reduceLT, Int.reduceEq, Int.reduceToNat, Int.reducePow, Int.reduceNeg])
          | (rw [if_pos (by (try simp only [List.length_append, List.length_cons, List.length_nil, List.length_map]); omega)]; simp -implicitDefEqProofs only [go_sem, ↓reduceIte, Nat.reduceEqDiff, Nat.reduceAdd, Nat.reduceLeDiff, Nat.reduceMul, Nat.reduceSub, Int.reduceLE, Int.reduceLT, Int.reduceEq, Int.reduceToNat, Int.reducePow, Int.reduceNeg]))
        refine hK _ ?_; clear hK
        generalize hpn : (parseW q3.tok.tx).1 = pn
        generalize (parseW q3.tok.tx).2 = pb
        have rest : ∀ (t : Fr) (n : Nat) (q4 : PSt) (σ' : PR Nat), PS s σ' q4 → fget t 0 = .ptr 0 0 → fget t 2 = .ptr 2 0 → fget t 3 = .ptr 3 0 → 2 ≤ n →
            (∀ x' q', PQ s (thn σ' ((tNum.bind fun n => (tMust wIf).bind fun _ => tOpd.bind fun x => (tMust [61, 61]).bind fun _ => tOpd.bind fun y => PT.ret (⟨6, 0, 0, x, 0, y, n⟩ : Ins)).run s)) x' q' → PQ s (thn σ (tIns.run s)) x' q') →
            K1 ⟨t, [(0, parC q4), (1, lexQ s q4), (2, [.d (.int .i64 0), .d (.int .i64 0), .d (.int .i64 0), .d (.int .i64 0), .d (.int .i64 0), .d (.int .i64 0), .d (.int .i64 0), .d (.int .i64 0), .d (.int .i64 0)]), (3, insC ⟨6, 0, 0, ⟨0, 0⟩, 0, ⟨0, 0⟩, 0⟩)], n⟩ := by
          intro t n q4 σ' h4 g0 g2 g3 hn2 hgoal
          refine hK1 _ ?_; clear hK1
          refine bwp_seq fun K hK => bwp_region (decide_eq_true hn2) ?_
          simp -implicitDefEqProofs only [go_sem, ↓reduceIte, Nat.reduceEqDiff, Nat.reduceAdd, Nat.reduceLeDiff, Nat.reduceMul, Nat.reduceSub, Int.reduceLE, Int.reduceLT, Int.reduceEq, Int.reduceToNat, Int.reducePow, Int.reduceNeg, g0, g3, insC, Ins.cells]
          refine pnum_callK hs h4 rfl rfl ?_
          intro N q5 h5
          simp -implicitDefEqProofs only [go_sem, ↓reduceIte, Nat.reduceEqDiff, Nat.reduceAdd, Nat.reduceLeDiff, Nat.reduceMul, Nat.reduceSub, Int.reduceLE, Int.reduceLT, Int.reduceEq, Int.reduceToNat, Int.reducePow, Int.reduceNeg, mset, g0, g3]
          refine hK _ ?_; clear hK
          refine bwp_seq fun K hK => bwp_region (decide_eq_true (Nat.le_add_left 2 _)) ?_
          simp -implicitDefEqProofs only [go_sem, ↓reduceIte, Nat.reduceEqDiff, Nat.reduceAdd, Nat.reduceLeDiff, Nat.reduceMul, Nat.reduceSub, Int.reduceLE, Int.reduceLT, Int.reduceEq, Int.reduceToNat, Int.reducePow, Int.reduceNeg, g0, g3]
          refine pmust_callK hs h5.ps wIf rfl rfl ?_
          intro q6 h6
          simp -implicitDefEqProofs only [go_sem, ↓reduceIte, Nat.reduceEqDiff, Nat.reduceAdd, Nat.reduceLeDiff, Nat.reduceMul, Nat.reduceSub, Int.reduceLE, Int.reduceLT, Int.reduceEq, Int.reduceToNat, Int.reducePow, Int.reduceNeg, mset, g0, g3]
          refine hK _ ?_; clear hK
          refine bwp_seq fun K hK => bwp_region (decide_eq_true (Nat.le_add_left 2 _)) ?_
          simp -implicitDefEqProofs only [go_sem, ↓reduceIte, Nat.reduceEqDiff, Nat.reduceAdd, Nat.reduceLeDiff, Nat.reduceMul, Nat.reduceSub, Int.reduceLE, Int.reduceLT, Int.reduceEq, Int.reduceToNat, Int.reducePow, Int.reduceNeg, g0, g3]
          refine popd_callK hs h6.ps rfl rfl ?_
          intro x q7 h7
          simp -implicitDefEqProofs only [go_sem, ↓reduceIte, Nat.reduceEqDiff, Nat.reduceAdd, Nat.reduceLeDiff, Nat.reduceMul, Nat.reduceSub, Int.reduceLE, Int.reduceLT, Int.reduceEq, Int.reduceToNat, Int.reducePow, Int.reduceNeg, mset, g0, g3]
          refine hK _ ?_; clear hK
          refine bwp_seq fun K hK => bwp_region (decide_eq_true (Nat.le_add_left 2 _)) ?_
          simp -implicitDefEqProofs only [go_sem, ↓reduceIte, Nat.reduceEqDiff, Nat.reduceAdd, Nat.reduceLeDiff, Nat.reduceMul, Nat.reduceSub, Int.reduceLE, Int.reduceLT, Int.reduceEq, Int.reduceToNat, Int.reducePow, Int.reduceNeg, g0, g3]
          refine pmust_callK hs h7.ps [61, 61] rfl rfl ?_
          intro q8 h8
          simp -implicitDefEqProofs only [go_sem, ↓reduceIte, Nat.reduceEqDiff, Nat.reduceAdd, Nat.reduceLeDiff, Nat.reduceMul, Nat.reduceSub, Int.reduceLE, Int.reduceLT, Int.reduceEq, Int.reduceToNat, Int.reducePow, Int.reduceNeg, mset, g0, g3]
          refine hK _ ?_; clear hK
          refine bwp_region (decide_eq_true (Nat.le_add_left 2 _)) ?_
          simp -implicitDefEqProofs only [go_sem, ↓reduceIte, Nat.reduceEqDiff, Nat.reduceAdd, Nat.reduceLeDiff, Nat.reduceMul, Nat.reduceSub, Int.reduceLE, Int.reduceLT, Int.reduceEq, Int.reduceToNat, Int.reducePow, Int.reduceNeg, g0, g3]
          refine popd_callK hs h8.ps rfl rfl ?_
          intro y q9 h9
          simp -implicitDefEqProofs only [go_sem, ↓reduceIte, Nat.reduceEqDiff, Nat.reduceAdd, Nat.reduceLeDiff, Nat.reduceMul, Nat.reduceSub, Int.reduceLE, Int.reduceLT, Int.reduceEq, Int.reduceToNat, Int.reducePow, Int.reduceNeg, mset, g0, g3]
          refine fin _ _ q9 ⟨6, 0, 0, x, 0, y, N⟩ (by simp [fget, g2]) (by simp [fget, g3]) ?_ (by omega)
          refine hgoal _ _ ?_
          exact PQ.bind h5 (PQ.bind h6 (PQ.bind h7 (PQ.bind h8 (PQ.bind h9 (PQ.ret h9.ps)))))
        have up : ∀ {x' : Ins} {q' : PSt}, PQ s (thn (thn σ (eatW s)) ((PT.cur fun d y => if d = 2 ∧ (parseW y).1 < 0 then .bad 6 else
            tNum.bind fun n => (tMust wIf).bind fun _ => tOpd.bind fun x => (tMust [61, 61]).bind fun _ => tOpd.bind fun y => PT.ret (⟨6, 0, 0, x, 0, y, n⟩ : Ins)).run s)) x' q' → PQ s (thn σ (tIns.run s)) x' q' :=
          fun hq => PQ.take_no h hb1 (PQ.take_no h hb2 (PQ.take_yes h hb3 hq))
        by_cases hk : q3.tok.kd = 2
        · by_cases hneg : pn < 0
          · refine bwp_seq fun K hK => bwp_region rfl ?_
            simp -implicitDefEqProofs only [go_sem, ↓reduceIte, Nat.reduceEqDiff, Nat.reduceAdd, Nat.reduceLeDiff, Nat.reduceMul, Nat.reduceSub, Int.reduceLE, Int.reduceLT, Int.reduceEq, Int.reduceToNat, Int.reducePow, Int.reduceNeg, parC, eq_true hk, eq_true hneg, decide_true]
            refine hK _ ?_; clear hK
            refine bwp_cond true (by simp [ev, fget]) (fun _ => ?_) (fun h => nomatch h)
            refine bwp_region rfl ?_
            simp -implicitDefEqProofs only [go_sem, ↓reduceIte, Nat.reduceEqDiff, Nat.reduceAdd, Nat.reduceLeDiff, Nat.reduceMul, Nat.reduceSub, Int.reduceLE, Int.reduceLT, Int.reduceEq, Int.reduceToNat, Int.reducePow, Int.reduceNeg]
            refine pfail_callK s q3 6 rfl rfl ?_
            simp -implicitDefEqProofs only [go_sem, ↓reduceIte, Nat.reduceEqDiff, Nat.reduceAdd, Nat.reduceLeDiff, Nat.reduceMul, Nat.reduceSub, Int.reduceLE, Int.reduceLT, Int.reduceEq, Int.reduceToNat, Int.reducePow, Int.reduceNeg, mset]
            refine rest _ _ (failF q3 6) _ (h3.fail (by decide) (α := Ins)) rfl rfl rfl (by omega) ?_
            intro x' q' hq
            refine up (PQ.cur h3 ?_)
            rw [if_pos ⟨hk, by rw [hpn]; exact hneg⟩]
            exact PQ.past_bad hq
          · refine bwp_seq fun K hK => bwp_region rfl ?_
            simp -implicitDefEqProofs only [go_sem, ↓reduceIte, Nat.reduceEqDiff, Nat.reduceAdd, Nat.reduceLeDiff, Nat.reduceMul, Nat.reduceSub, Int.reduceLE, Int.reduceLT, Int.reduceEq, Int.reduceToNat, Int.reducePow, Int.reduceNeg, parC, eq_true hk, eq_false hneg, decide_true]
            refine hK _ ?_; clear hK
            refine bwp_cond false (by simp [ev, fget]) (fun h => nomatch h) (fun _ => ?_)
            refine bwp_skip ?_
            refine rest _ _ q3 _ h3 rfl rfl rfl (by omega) ?_
            intro x' q' hq
            refine up (PQ.cur h3 ?_)
            rw [if_neg (fun hh => hneg (by rw [← hpn]; exact hh.2))]
            exact hq
        · refine bwp_seq fun K hK => bwp_region rfl ?_
          simp -implicitDefEqProofs only [go_sem, ↓reduceIte, Nat.reduceEqDiff, Nat.reduceAdd, Nat.reduceLeDiff, Nat.reduceMul, Nat.reduceSub, Int.reduceLE, Int.reduceLT, Int.reduceEq, Int.reduceToNat, Int.reducePow, Int.reduceNeg, parC, eq_false hk, decide_false]
          refine hK _ ?_; clear hK
          refine bwp_cond false (by simp [ev, fget]) (fun h => nomatch h) (fun _ => ?_)
          refine bwp_skip ?_
          refine rest _ _ q3 _ h3 rfl rfl rfl (by omega) ?_
          intro x' q' hq
          refine up (PQ.cur h3 ?_)
          rw [if_neg (fun hh => hk hh.1)]
          exact hq

theorem pins_callK {s : List UInt8} (hs : s.length ≤ 140737488351232) {σ : PR Nat} {q : PSt} (h : PS s σ q) {dst : Option Nat} {ops : List AOper} {K : St → Prop} {t : Fr} {m : Mem} {n : Nat} (hm0 : mget m 0 = some (parC q)) (hm1 : mget m 1 = some (lexQ s q))
    (hk : ∀ (x : Ins) q', PQ s (thn σ (tIns.run s)) x q' → runOps Tryd.prog ops ⟨putF t dst (.agg (insC x)), mset (mset m 0 (parC q')) 1 (lexQ s q'), n + 2⟩ K) : callK Tryd.prog 75 [.ptr 0 0] dst ops K t m n := by
  refine par_callK (rest := []) (Q := fun r q' => ∃ x : Ins, r = .agg (insC x) ∧ PQ s (thn σ (tIns.run s)) x q') (pins_calls hs h) rfl ?_ hm0 hm1 ?_
  · rintro _ _ ⟨x, rfl, _⟩; exact insC_in _ x
  · rintro _ q' ⟨x, rfl, h⟩; exact hk x q' h

end Go.Proofs.YtpfbljkfbjjlkaaDoor

/- The parser's atoms, what locations begin with, threads. -/
namespace Go.Proofs.YtpfbljkfbjjlkaaDoor
open Go Go.Jq
set_option maxRecDepth 100000
set_option linter.unusedSimpArgs false

theorem PQ.bind_stop {α β : Type} {s : List UInt8} {σ : PR Nat} {t : PT α} {f : α → PT β} {y : β} {q' : PSt} (h : PS s (posR (thn σ (t.run s))) q') (he : q'.code ≠ 0) : PQ s (thn σ ((t.bind f).run s)) y q' := by
  cases σ with
  | error e => exact h
  | ok a =>
    simp only [thn] at h ⊢
    rw [PT.run_bind]
    cases ht : t.run s a with
    | error e => rw [ht] at h; exact h
    | ok p =>
      rw [ht] at h
      exact absurd h.code he

def atC (x : Atom) : List AV := x.cells.map .d
theorem atC_in (π : Nat → Option Nat) (x : Atom) : inL π (atC x) = true := rfl

set_option maxHeartbeats 32000000 in
theorem patom_calls {s : List UInt8} (hs : s.length ≤ 140737488351232) {σ : PR Nat} {q : PSt} (h : PS s σ q) :
    ACalls Tryd.prog 76 [.ptr 0 0] [(0, parC q), (1, lexQ s q)] fun r m' => ∃ q', m' = [(0, parC q'), (1, lexQ s q')] ∧ ∃ x : Atom, r = .agg (atC x) ∧ PQ s (thn σ (tAtom.run s)) x q' := by
  have hld : ldk Tryd.prog 61 = some (some 4) := by kernel_rfl
  have kp := parse_pure (s := q.tok.tx) (by have := h.pos.2; omega)
  refine acalls_of Tryd.func76 ac76_ok Tryd.ntmps76 Tryd.results76 rfl ?_
  unfold ac76
  refine bwp_seq fun K hK => bwp_region rfl ?_
  simp -implicitDefEqProofs only [go_sem, ↓reduceIte, Nat.reduceEqDiff, Nat.reduceAdd, Nat.reduceLeDiff, Nat.reduceMul, Nat.reduceSub, Int.reduceLE, Int.reduceLT, Int.reduceEq, Int.reduceToNat, Int.reducePow, Int.reduceNeg]
  refine hK _ ?_; clear hK
  refine bwp_seq fun K hK => bwp_region rfl ?_
  simp -implicitDefEqProofs only [go_sem, ↓reduceIte, Nat.reduceEqDiff, Nat.reduceAdd, Nat.reduceLeDiff, Nat.reduceMul, Nat.reduceSub, Int.reduceLE, Int.reduceLT, Int.reduceEq, Int.reduceToNat, Int.reducePow, Int.reduceNeg]
  refine hK _ ?_; clear hK
  refine bwp_seq fun K0 hK0 => ?_
  have fin : ∀ (t : Fr) (n : Nat) (q1 : PSt) (x1 : Atom), fget t 0 = .ptr 0 0 → fget t 2 = .ptr 2 0 → fget t 3 = .ptr 3 0 → PQ s (thn σ (tWho.run s)) x1 q1 → 2 ≤ n → K0 ⟨t, [(0, parC q1), (1, lexQ s q1), (2, [.d (.int .i64 0), .d (.int .i64 0), .d (.int .i64 0), .d (.int .i64 0)]), (3, atC x1)], n⟩ := by
    intro t n q1 x1 g0 g2 g3 hq hn
    refine hK0 _ ?_; clear hK0
    refine bwp_seq fun K hK => bwp_region (decide_eq_true hn) ?_
    simp -implicitDefEqProofs only [go_sem, ↓reduceIte, Nat.reduceEqDiff, Nat.reduceAdd, Nat.reduceLeDiff, Nat.reduceMul, Nat.reduceSub, Int.reduceLE, Int.reduceLT, Int.reduceEq, Int.reduceToNat, Int.reducePow, Int.reduceNeg, g0, g2, g3, atC, Atom.cells]
    refine pmust_callK hs hq.ps [61] rfl rfl ?_
    intro q2 h2
    simp -implicitDefEqProofs only [go_sem, ↓reduceIte, Nat.reduceEqDiff, Nat.reduceAdd, Nat.reduceLeDiff, Nat.reduceMul, Nat.reduceSub, Int.reduceLE, Int.reduceLT, Int.reduceEq, Int.reduceToNat, Int.reducePow, Int.reduceNeg, mset, g0, g2, g3]
    refine hK _ ?_; clear hK
    refine bwp_seq fun K hK => bwp_region (decide_eq_true (Nat.le_add_left 2 _)) ?_
    simp -implicitDefEqProofs only [go_sem, ↓reduceIte, Nat.reduceEqDiff, Nat.reduceAdd, Nat.reduceLeDiff, Nat.reduceMul, Nat.reduceSub, Int.reduceLE, Int.reduceLT, Int.reduceEq, Int.reduceToNat, Int.reducePow, Int.reduceNeg, g0, g2, g3]
    refine pnum_callK hs h2.ps rfl rfl ?_
    intro N q3 h3
    simp -implicitDefEqProofs only [go_sem, ↓reduceIte, Nat.reduceEqDiff, Nat.reduceAdd, Nat.reduceLeDiff, Nat.reduceMul, Nat.reduceSub, Int.reduceLE, Int.reduceLT, Int.reduceEq, Int.reduceToNat, Int.reducePow, Int.reduceNeg, mset, g0, g2, g3]
    refine hK _ ?_; clear hK
    refine bwp_seq fun K hK => bwp_region (decide_eq_true (Nat.le_add_left 2 _)) ?_
    simp -implicitDefEqProofs only [go_sem, ↓reduceIte, Nat.reduceEqDiff, Nat.reduceAdd, Nat.reduceLeDiff, Nat.reduceMul, Nat.reduceSub, Int.reduceLE, Int.reduceLT, Int.reduceEq, Int.reduceToNat, Int.reducePow, Int.reduceNeg, g0, g2, g3]
    refine hK _ ?_; clear hK
    refine bwp_ret ?_
    simp only [go_sem]
    refine aend_mem (.agg (atC { x1 with value := N })) [(0, 0), (1, 1)] [(0, parC q3), (1, lexQ s q3)] ?_ rfl rfl ?_ ⟨q3, rfl, { x1 with value := N }, rfl, ?_⟩
    · simp [resA, resVs, resV, fget, mget, mset, loadA, hld, g2, atC, Atom.cells]
    · simp [entM, pinv, mget, mset, renL, AV.ren, parC, lexQ, lexC, pget]
    · exact PQ.bind hq (PQ.bind h2 (PQ.bind h3 (PQ.ret h3.ps)))
  refine bwp_seq fun K hK => bwp_region rfl ?_
  simp -implicitDefEqProofs only [go_sem, ↓reduceIte, Nat.reduceEqDiff, Nat.reduceAdd, Nat.reduceLeDiff, Nat.reduceMul, Nat.reduceSub, Int.reduceLE, Int.reduceLT, Int.reduceEq, Int.reduceToNat, Int.reducePow, Int.reduceNeg]
  refine pok_callK s q rfl rfl ?_
  by_cases hc : q.code = 0
  · by_cases h2 : q.tok.kd = 2
    · simp -implicitDefEqProofs only [go_sem, ↓reduceIte, Nat.reduceEqDiff, Nat.reduceAdd, Nat.reduceLeDiff, Nat.reduceMul, Nat.reduceSub, Int.reduceLE, Int.reduceLT, Int.reduceEq, Int.reduceToNat, Int.reducePow, Int.reduceNeg, mset, eq_true hc, eq_true h2, parC, decide_true]
      refine hK _ ?_; clear hK
      refine bwp_cond true (by simp [ev, fget]) (fun _ => ?_) (fun h => nomatch h)
      refine bwp_seq fun K hK => bwp_region rfl ?_
      simp -implicitDefEqProofs only [go_sem, ↓reduceIte, Nat.reduceEqDiff, Nat.reduceAdd, Nat.reduceLeDiff, Nat.reduceMul, Nat.reduceSub, Int.reduceLE, Int.reduceLT, Int.reduceEq, Int.reduceToNat, Int.reducePow, Int.reduceNeg]
      repeat' (first
        | (refine gateK_split (fun hb => ?_) (fun hb => ?_) <;> simp -implicitDefEqProofs only [go_sem, ↓reduceIte, Nat.reduceEqDiff, Nat.reduceAdd, Nat.reduceLeDiff, Nat.reduceMul, Nat.reduceSub, Int.reduceLE, Int.reduceLT, Int.reduceEq, Int.reduceToNat, Int.reducePow, Int.reduceNeg, hb])
        | (refine dGateK_split (fun hb => ?_) (fun hb => ?_) <;> simp -implicitDefEqProofs only [go_sem, ↓reduceIte, Nat.reduceEqDiff, Nat.reduceAdd, Nat.reduceLeDiff, Nat.reduceMul, Nat.reduceSub, Int.reduceLE, Int.reduceLT, Int.reduceEq, Int.reduceToNat, Int.reducePow, Int.reduceNeg, hb])
        | (refine callK_pure (kp) rfl rfl ?_; simp -implicitDefEqProofs only [go_sem, ↓reduceIte, Nat.reduceEqDiff, Nat.reduceAdd, Nat.reduceLeDiff, Nat.reduceMul, Nat.reduceSub, Int.reduceLE, Int.reduceLT, Int.reduceEq, Int.reduceToNat, Int.reducePow, Int.reduceNeg])
        | (refine dCallK_pure (kp) rfl rfl ?_; simp -implicitDefEqProofs only [go_sem, ↓reduceIte, Nat.reduceEqDiff, Nat.reduceAdd, Nat.reduceLeDiff, Nat.reduceMul, Nat.reduceSub, Int.reduceLE, Int.reduceLT, Int.reduceEq, Int.reduceToNat, Int.reducePow, Int.reduceNeg])
        | (rw [if_pos (by (try simp only [List.length_append, List.length_cons, List.length_nil, List.length_map]); omega)]; simp -implicitDefEqProofs only [go_sem, ↓reduceIte, Nat.reduceEqDiff, Nat.reduceAdd, Nat.reduceLeDiff, Nat.reduceMul, Nat.reduceSub, Int.reduceLE, Int.reduceLT, Int.reduceEq, Int.reduceToNat, Int.reducePow, Int.reduceNeg]))
      refine hK _ ?_; clear hK
      generalize hpn : (parseW q.tok.tx).1 = pn at *
      generalize (parseW q.tok.tx).2 = pb at *
      by_cases hbad : pn < 0 ∨ 9 < pn
      · have hstop : PQ s (thn σ (tWho.run s)) ⟨0, 0, 0, 0⟩ (failF q 7) := by
          refine PQ.cur h ?_
          rw [if_pos h2, hpn, if_pos hbad]
          exact PQ.bad h (by decide) _
        by_cases n1 : pn < 0
        · refine bwp_seq fun K1 hK1 => ?_
          refine bwp_seq fun K hK => bwp_region rfl ?_
          simp -implicitDefEqProofs only [go_sem, ↓reduceIte, Nat.reduceEqDiff, Nat.reduceAdd, Nat.reduceLeDiff, Nat.reduceMul, Nat.reduceSub, Int.reduceLE, Int.reduceLT, Int.reduceEq, Int.reduceToNat, Int.reducePow, Int.reduceNeg, eq_true n1, decide_true, decide_false]
          refine hK _ ?_; clear hK
          refine bwp_cond true (by simp [ev, fget]) (fun _ => ?_) (fun h => nomatch h)
          refine bwp_seq fun K hK => bwp_region rfl ?_
          simp -implicitDefEqProofs only [go_sem, ↓reduceIte, Nat.reduceEqDiff, Nat.reduceAdd, Nat.reduceLeDiff, Nat.reduceMul, Nat.reduceSub, Int.reduceLE, Int.reduceLT, Int.reduceEq, Int.reduceToNat, Int.reducePow, Int.reduceNeg]
          refine pfail_callK s q 7 rfl rfl ?_
          simp -implicitDefEqProofs only [go_sem, ↓reduceIte, Nat.reduceEqDiff, Nat.reduceAdd, Nat.reduceLeDiff, Nat.reduceMul, Nat.reduceSub, Int.reduceLE, Int.reduceLT, Int.reduceEq, Int.reduceToNat, Int.reducePow, Int.reduceNeg, mset]
          refine hK _ ?_; clear hK
          refine bwp_seq fun K hK => bwp_region rfl ?_
          simp -implicitDefEqProofs only [go_sem, ↓reduceIte, Nat.reduceEqDiff, Nat.reduceAdd, Nat.reduceLeDiff, Nat.reduceMul, Nat.reduceSub, Int.reduceLE, Int.reduceLT, Int.reduceEq, Int.reduceToNat, Int.reducePow, Int.reduceNeg]
          refine hK _ ?_; clear hK
          refine bwp_ret ?_
          simp only [go_sem]
          refine aend_mem (.agg (atC ⟨0, 0, 0, 0⟩)) [(0, 0), (1, 1)] [(0, parC (failF q 7)), (1, lexQ s (failF q 7))] ?_ rfl rfl ?_ ⟨_, rfl, ⟨0, 0, 0, 0⟩, rfl, ?_⟩
          · simp [resA, resVs, resV, fget, mget, mset, loadA, hld, atC, Atom.cells]
          · simp [entM, pinv, mget, mset, renL, AV.ren, parC, lexQ, lexC, pget]
          · exact PQ.bind_stop hstop.ps (failF_code (by decide))
        · have n2 : 9 < pn := by omega
          refine bwp_seq fun K1 hK1 => ?_
          refine bwp_seq fun K hK => bwp_region rfl ?_
          simp -implicitDefEqProofs only [go_sem, ↓reduceIte, Nat.reduceEqDiff, Nat.reduceAdd, Nat.reduceLeDiff, Nat.reduceMul, Nat.reduceSub, Int.reduceLE, Int.reduceLT, Int.reduceEq, Int.reduceToNat, Int.reducePow, Int.reduceNeg, eq_false n1, eq_true n2, decide_true, decide_false]
          refine hK _ ?_; clear hK
          refine bwp_cond true (by simp [ev, fget]) (fun _ => ?_) (fun h => nomatch h)
          refine bwp_seq fun K hK => bwp_region rfl ?_
          simp -implicitDefEqProofs only [go_sem, ↓reduceIte, Nat.reduceEqDiff, Nat.reduceAdd, Nat.reduceLeDiff, Nat.reduceMul, Nat.reduceSub, Int.reduceLE, Int.reduceLT, Int.reduceEq, Int.reduceToNat, Int.reducePow, Int.reduceNeg]
          refine pfail_callK s q 7 rfl rfl ?_
          simp -implicitDefEqProofs only [go_sem, ↓reduceIte, Nat.reduceEqDiff, Nat.reduceAdd, Nat.reduceLeDiff, Nat.reduceMul, Nat.reduceSub, Int.reduceLE, Int.reduceLT, Int.reduceEq, Int.reduceToNat, Int.reducePow, Int.reduceNeg, mset]
          refine hK _ ?_; clear hK
          refine bwp_seq fun K hK => bwp_region rfl ?_
          simp -implicitDefEqProofs only [go_sem, ↓reduceIte, Nat.reduceEqDiff, Nat.reduceAdd, Nat.reduceLeDiff, Nat.reduceMul, Nat.reduceSub, Int.reduceLE, Int.reduceLT, Int.reduceEq, Int.reduceToNat, Int.reducePow, Int.reduceNeg]
          refine hK _ ?_; clear hK
          refine bwp_ret ?_
          simp only [go_sem]
          refine aend_mem (.agg (atC ⟨0, 0, 0, 0⟩)) [(0, 0), (1, 1)] [(0, parC (failF q 7)), (1, lexQ s (failF q 7))] ?_ rfl rfl ?_ ⟨_, rfl, ⟨0, 0, 0, 0⟩, rfl, ?_⟩
          · simp [resA, resVs, resV, fget, mget, mset, loadA, hld, atC, Atom.cells]
          · simp [entM, pinv, mget, mset, renL, AV.ren, parC, lexQ, lexC, pget]
          · exact PQ.bind_stop hstop.ps (failF_code (by decide))
      · have n1 : ¬ pn < 0 := fun h => hbad (.inl h)
        have n2 : ¬ 9 < pn := fun h => hbad (.inr h)
        refine bwp_seq fun K1 hK1 => ?_
        refine bwp_seq fun K hK => bwp_region rfl ?_
        simp -implicitDefEqProofs only [go_sem, ↓reduceIte, Nat.reduceEqDiff, Nat.reduceAdd, Nat.reduceLeDiff, Nat.reduceMul, Nat.reduceSub, Int.reduceLE, Int.reduceLT, Int.reduceEq, Int.reduceToNat, Int.reducePow, Int.reduceNeg, eq_false n1, eq_false n2, decide_false]
        refine hK _ ?_; clear hK
        refine bwp_cond false (by simp [ev, fget]) (fun h => nomatch h) (fun _ => ?_)
        refine bwp_skip ?_
        refine hK1 _ ?_; clear hK1
        refine bwp_seq fun K hK => bwp_region rfl ?_
        simp -implicitDefEqProofs only [go_sem, ↓reduceIte, Nat.reduceEqDiff, Nat.reduceAdd, Nat.reduceLeDiff, Nat.reduceMul, Nat.reduceSub, Int.reduceLE, Int.reduceLT, Int.reduceEq, Int.reduceToNat, Int.reducePow, Int.reduceNeg]
        refine hK _ ?_; clear hK
        refine bwp_seq fun K hK => bwp_region rfl ?_
        simp -implicitDefEqProofs only [go_sem, ↓reduceIte, Nat.reduceEqDiff, Nat.reduceAdd, Nat.reduceLeDiff, Nat.reduceMul, Nat.reduceSub, Int.reduceLE, Int.reduceLT, Int.reduceEq, Int.reduceToNat, Int.reducePow, Int.reduceNeg]
        refine pnext_callK (q := q) hs h rfl rfl ?_
        intro q2 hq2
        simp -implicitDefEqProofs only [go_sem, ↓reduceIte, Nat.reduceEqDiff, Nat.reduceAdd, Nat.reduceLeDiff, Nat.reduceMul, Nat.reduceSub, Int.reduceLE, Int.reduceLT, Int.reduceEq, Int.reduceToNat, Int.reducePow, Int.reduceNeg, mset]
        refine hK _ ?_; clear hK
        refine bwp_seq fun K hK => bwp_region rfl ?_
        simp -implicitDefEqProofs only [go_sem, ↓reduceIte, Nat.reduceEqDiff, Nat.reduceAdd, Nat.reduceLeDiff, Nat.reduceMul, Nat.reduceSub, Int.reduceLE, Int.reduceLT, Int.reduceEq, Int.reduceToNat, Int.reducePow, Int.reduceNeg]
        refine pmust_callK hs hq2 [58] rfl rfl ?_
        intro q3 h3
        simp -implicitDefEqProofs only [go_sem, ↓reduceIte, Nat.reduceEqDiff, Nat.reduceAdd, Nat.reduceLeDiff, Nat.reduceMul, Nat.reduceSub, Int.reduceLE, Int.reduceLT, Int.reduceEq, Int.reduceToNat, Int.reducePow, Int.reduceNeg, mset]
        refine hK _ ?_; clear hK
        refine bwp_region rfl ?_
        simp -implicitDefEqProofs only [go_sem, ↓reduceIte, Nat.reduceEqDiff, Nat.reduceAdd, Nat.reduceLeDiff, Nat.reduceMul, Nat.reduceSub, Int.reduceLE, Int.reduceLT, Int.reduceEq, Int.reduceToNat, Int.reducePow, Int.reduceNeg]
        refine preg_callK hs h3.ps rfl rfl ?_
        intro rg q4 h4
        simp -implicitDefEqProofs only [go_sem, ↓reduceIte, Nat.reduceEqDiff, Nat.reduceAdd, Nat.reduceLeDiff, Nat.reduceMul, Nat.reduceSub, Int.reduceLE, Int.reduceLT, Int.reduceEq, Int.reduceToNat, Int.reducePow, Int.reduceNeg, mset]
        refine fin _ _ q4 ⟨pn, rg, 0, 0⟩ rfl rfl rfl ?_ (by omega)
        refine PQ.cur h ?_
        rw [if_pos h2, hpn, if_neg hbad]
        exact PQ.eat (PQ.bind h3 (PQ.bind h4 (PQ.ret h4.ps)))
    · simp -implicitDefEqProofs only [go_sem, ↓reduceIte, Nat.reduceEqDiff, Nat.reduceAdd, Nat.reduceLeDiff, Nat.reduceMul, Nat.reduceSub, Int.reduceLE, Int.reduceLT, Int.reduceEq, Int.reduceToNat, Int.reducePow, Int.reduceNeg, mset, eq_true hc, eq_false h2, parC, decide_true]
      refine hK _ ?_; clear hK
      refine bwp_cond false (by simp [ev, fget]) (fun h => nomatch h) (fun _ => ?_)
      refine bwp_region rfl ?_
      simp -implicitDefEqProofs only [go_sem, ↓reduceIte, Nat.reduceEqDiff, Nat.reduceAdd, Nat.reduceLeDiff, Nat.reduceMul, Nat.reduceSub, Int.reduceLE, Int.reduceLT, Int.reduceEq, Int.reduceToNat, Int.reducePow, Int.reduceNeg]
      refine ploc_callK (q := q) hs h rfl rfl ?_
      intro l q2 hq2
      simp -implicitDefEqProofs only [go_sem, ↓reduceIte, Nat.reduceEqDiff, Nat.reduceAdd, Nat.reduceLeDiff, Nat.reduceMul, Nat.reduceSub, Int.reduceLE, Int.reduceLT, Int.reduceEq, Int.reduceToNat, Int.reducePow, Int.reduceNeg, mset]
      refine fin _ _ q2 ⟨-1, 0, l, 0⟩ rfl rfl rfl ?_ (by omega)
      refine PQ.cur h ?_
      rw [if_neg h2]
      exact PQ.bind hq2 (PQ.ret hq2.ps)
  · simp -implicitDefEqProofs only [go_sem, ↓reduceIte, Nat.reduceEqDiff, Nat.reduceAdd, Nat.reduceLeDiff, Nat.reduceMul, Nat.reduceSub, Int.reduceLE, Int.reduceLT, Int.reduceEq, Int.reduceToNat, Int.reducePow, Int.reduceNeg, mset, eq_false hc, parC, decide_false]
    refine hK _ ?_; clear hK
    refine bwp_cond false (by simp [ev, fget]) (fun h => nomatch h) (fun _ => ?_)
    refine bwp_region rfl ?_
    simp -implicitDefEqProofs only [go_sem, ↓reduceIte, Nat.reduceEqDiff, Nat.reduceAdd, Nat.reduceLeDiff, Nat.reduceMul, Nat.reduceSub, Int.reduceLE, Int.reduceLT, Int.reduceEq, Int.reduceToNat, Int.reducePow, Int.reduceNeg]
    refine ploc_callK (q := q) hs h rfl rfl ?_
    intro l q2 hq2
    simp -implicitDefEqProofs only [go_sem, ↓reduceIte, Nat.reduceEqDiff, Nat.reduceAdd, Nat.reduceLeDiff, Nat.reduceMul, Nat.reduceSub, Int.reduceLE, Int.reduceLT, Int.reduceEq, Int.reduceToNat, Int.reducePow, Int.reduceNeg, mset]
    refine fin _ _ q2 ⟨-1, 0, l, 0⟩ rfl rfl rfl ?_ (by omega)
    cases σ with
    | ok a => exact absurd h.code hc
    | error e => exact hq2

theorem patom_callK {s : List UInt8} (hs : s.length ≤ 140737488351232) {σ : PR Nat} {q : PSt} (h : PS s σ q) {dst : Option Nat} {ops : List AOper} {K : St → Prop} {t : Fr} {m : Mem} {n : Nat} (hm0 : mget m 0 = some (parC q)) (hm1 : mget m 1 = some (lexQ s q))
    (hk : ∀ (x : Atom) q', PQ s (thn σ (tAtom.run s)) x q' → runOps Tryd.prog ops ⟨putF t dst (.agg (atC x)), mset (mset m 0 (parC q')) 1 (lexQ s q'), n + 2⟩ K) : callK Tryd.prog 76 [.ptr 0 0] dst ops K t m n := by
  refine par_callK (rest := []) (Q := fun r q' => ∃ x : Atom, r = .agg (atC x) ∧ PQ s (thn σ (tAtom.run s)) x q') (patom_calls hs h) rfl ?_ hm0 hm1 ?_
  · rintro _ _ ⟨x, rfl, _⟩; exact atC_in _ x
  · rintro _ q' ⟨x, rfl, h⟩; exact hk x q' h

end Go.Proofs.YtpfbljkfbjjlkaaDoor

/- The parser's loops: threads' instructions, what locations begin with. -/
namespace Go.Proofs.YtpfbljkfbjjlkaaDoor
open Go Go.Jq
set_option maxRecDepth 100000
set_option linter.unusedSimpArgs false

/-! ### Progress -/

/-- What comes to something goes on. -/
def PT.Prog {α : Type} (t : PT α) : Prop := ∀ (s : List UInt8) (a : Nat) (x : α) (b : Nat), a ≤ s.length → (nextW s a).2.2 = 0 → t.run s a = .ok (x, b) → a < b

theorem eat_prog {α : Type} {s : List UInt8} {k : PT α} {a b : Nat} {x : α} (ha : a ≤ s.length) (h0 : (nextW s a).2.2 = 0) (h4 : (curT s a).kd ≠ 4) (h : (PT.eat k).run s a = .ok (x, b)) : a < b := by
  simp only [PT.run] at h
  split at h
  · rename_i e he
    obtain ⟨rfl, _⟩ := eatW_ok he
    have h1 := nextW_to ha
    have h2 := h1.2.2 h0 h4
    have h3 := k.run_le h1.2.1 h
    omega
  · cases h

theorem prog_bind {α β : Type} {t : PT α} {f : α → PT β} (h : t.Prog) : (t.bind f).Prog := by
  intro s a y b ha h0 hr
  rw [PT.run_bind] at hr
  cases ht : t.run s a with
  | error e => rw [ht] at hr; cases hr
  | ok p =>
    obtain ⟨x, c⟩ := p
    rw [ht] at hr
    have h1 := h s a x c ha h0 ht
    have h2 := t.run_le ha ht
    have h3 := (f x).run_le h2.2 hr
    omega

theorem isK_kd {d : Int} {y x : List UInt8} (h : isK d y x = true) : d ≠ 4 := by
  rintro rfl
  simp [isK] at h

theorem prog_take {α : Type} {x : List UInt8} {yes no : PT α} (h : no.Prog) : (tTake x yes no).Prog := by
  intro s a y b ha h0 hr
  unfold tTake at hr
  simp only [PT.run] at hr
  by_cases hk : isK (curT s a).kd (curT s a).tx x = true
  · rw [if_pos hk] at hr
    exact eat_prog ha h0 (isK_kd hk) hr
  · rw [if_neg hk] at hr
    exact h s a y b ha h0 hr

theorem prog_named (f : List UInt8 → Option Int) : (tNamed f).Prog := by
  intro s a y b ha h0 hr
  unfold tNamed at hr
  simp only [PT.run] at hr
  by_cases hk : (curT s a).kd = 1
  · rw [if_pos hk] at hr
    cases hf : f (curT s a).tx with
    | none => rw [hf] at hr; cases hr
    | some n => rw [hf] at hr; exact eat_prog ha h0 (by rw [hk]; decide) hr
  · rw [if_neg hk] at hr
    cases hr

theorem prog_init : tInit.Prog := prog_bind (prog_named _)
theorem prog_insE : tInsE.Prog := prog_bind (prog_take (prog_take (prog_take (prog_bind (prog_named _)))))
theorem prog_atom : tAtom.Prog := by
  refine prog_bind ?_
  intro s a y b ha h0 hr
  unfold tWho at hr
  simp only [PT.run] at hr
  by_cases hk : (curT s a).kd = 2
  · rw [if_pos hk] at hr
    split at hr
    · cases hr
    · exact eat_prog ha h0 (by rw [hk]; decide) hr
  · rw [if_neg hk] at hr
    exact prog_bind (prog_named _) s a y b ha h0 hr

/-! ### Things up to a brace -/

/-- The slice that a list is told as. -/
def slD {α : Type} (enc : α → List DV) (l : List α) : DV := .sl l.length (l.flatMap enc)
/-- How far a loop over things is. -/
structure MI {α : Type} (s : List UInt8) (one : PT α) (σ0 : PR Nat) (f0 : Nat) (acc : List α) (q : PSt) (σ : PR Nat) (f : Nat) : Prop where
  ps : PS s σ q
  to : ∀ l qf, PQ s (thn σ ((tMany one f).run s)) l qf → PQ s (thn σ0 ((tMany one f0).run s)) (acc ++ l) qf
  fuel : ∀ a, σ = .ok a → s.length - a < f
  len : acc.length + f ≤ f0 ∨ (∃ e, σ = .error e) ∧ acc.length ≤ f0

theorem thn_ok {β : Type} {σ : PR Nat} {f : Nat → PR β} {r : β} (h : thn σ f = .ok r) : ∃ a, σ = .ok a ∧ f a = .ok r := by
  cases σ with
  | error e => cases h
  | ok a => exact ⟨a, rfl, h⟩

theorem posR_ok {α : Type} {τ : PR (α × Nat)} {b : Nat} (h : posR τ = .ok b) : ∃ x, τ = .ok (x, b) := by
  cases τ with
  | error e => cases h
  | ok p => exact ⟨p.1, by cases h; rfl⟩

/-- One thing more. -/
theorem MI.next {α : Type} {s : List UInt8} {one : PT α} (hp : one.Prog) {σ0 : PR Nat} {f0 : Nat} {acc : List α} {q : PSt} {a f : Nat} (h : MI s one σ0 f0 acc q (.ok a) f) (hb : tkB q [125] = false) {x : α} {q' : PSt} (hq : PQ s (one.run s a) x q') :
    ∃ f', f = f' + 1 ∧ MI s one σ0 f0 (acc ++ [x]) q' (posR (one.run s a)) f' := by
  have hf := h.fuel a rfl
  obtain ⟨f', rfl⟩ : ∃ f', f = f' + 1 := ⟨f - 1, by omega⟩
  refine ⟨f', rfl, ⟨hq.ps, fun l qf hl => ?_, fun b hb' => ?_, ?_⟩⟩
  · have : PQ s (thn (.ok a) ((tMany one (f' + 1)).run s)) (x :: l) qf := by
      refine PQ.take_no h.ps hb ?_
      refine PQ.bind (σ := .ok a) hq (PQ.bind hl ?_)
      exact PQ.ret hl.ps
    have := h.to _ _ this
    simpa using this
  · obtain ⟨y, hy⟩ := posR_ok hb'
    have h1 := hp s a y b h.ps.1 h.ps.2.1 hy
    have h2 := one.run_le h.ps.1 hy
    omega
  · rcases h.len with hl | ⟨⟨e, he⟩, _⟩
    · left
      simp only [List.length_append, List.length_cons, List.length_nil]
      omega
    · cases he

/-- The end of it. -/
theorem MI.done {α : Type} {s : List UInt8} {one : PT α} {σ0 : PR Nat} {f0 : Nat} {acc : List α} {q : PSt} {a f : Nat} (h : MI s one σ0 f0 acc q (.ok a) f) (hb : tkB q [125] = true) {q' : PSt} (hq : PS s (eatW s a) q') :
    PQ s (thn σ0 ((tMany one f0).run s)) acc q' := by
  have hf := h.fuel a rfl
  obtain ⟨f', rfl⟩ : ∃ f', f = f' + 1 := ⟨f - 1, by omega⟩
  have : PQ s (thn (.ok a) ((tMany one (f' + 1)).run s)) [] q' := PQ.take_yes h.ps hb (PQ.ret hq)
  have := h.to _ _ this
  simpa using this

theorem MI.err {α : Type} {s : List UInt8} {one : PT α} {σ0 : PR Nat} {f0 : Nat} {acc : List α} {q : PSt} {e : PE} {f : Nat} (h : MI s one σ0 f0 acc q (.error e) f) : PQ s (thn σ0 ((tMany one f0).run s)) acc q := by
  have := h.to [] q h.ps
  simpa using this

theorem MI.start {α : Type} {s : List UInt8} {one : PT α} {σ : PR Nat} {q : PSt} (hs : s.length ≤ 4000) (h : PS s σ q) : MI s one σ fuelP [] q σ fuelP :=
  ⟨h, fun l qf hl => hl, fun a _ => by unfold fuelP; omega, .inl (by simp)⟩

theorem MI.short {α : Type} {s : List UInt8} {one : PT α} {σ0 σ : PR Nat} {acc : List α} {q : PSt} {f : Nat} (h : MI s one σ0 fuelP acc q σ f) : acc.length ≤ 4001 := by
  rcases h.len with h | h
  · unfold fuelP at h; omega
  · exact h.2

def thS (s : List UInt8) (acc : List Ins) (q : PSt) : St := ⟨[(3, .sl 2 9 0 acc.length), (0, .ptr 0 0)], [(0, parC q), (1, lexQ s q), (2, (acc.flatMap Ins.cells).map .d)], 3⟩

theorem ins_flat (l : List Ins) : (l.flatMap Ins.cells).length = l.length * 9 := by
  induction l with
  | nil => rfl
  | cons x l ih => simp only [List.flatMap_cons, List.length_append, ins_len, List.length_cons, ih]; omega

set_option maxHeartbeats 16000000 in
theorem pth_loop {s : List UInt8} (hs : s.length ≤ 4000) {σ0 : PR Nat} {q0 : PSt} (h0 : PS s σ0 q0) {Q : Exit → St → Prop}
    (hQ : ∀ acc q', acc.length ≤ 4001 → PQ s (thn σ0 ((tMany tInsE fuelP).run s)) acc q' → Q (.exit 0) (thS s acc q')) :
    BWP Tryd.prog 2 21 (.loop ac49L0) (thS s [] q0) Q := by
  have hs' : s.length ≤ 140737488351232 := by omega
  refine bwp_fam (ι := { p : List Ins × PSt × PR Nat × Nat // MI s tInsE σ0 fuelP p.1 p.2.1 p.2.2.1 p.2.2.2 }) (fun p => thS s p.1.1 p.1.2.1) (fun p => if p.1.2.1.code = 0 then p.1.2.2.2 + 1 else 0) ⟨([], q0, σ0, fuelP), MI.start hs h0⟩ ?_
  rintro ⟨⟨acc, q, σ, f⟩, hI⟩
  simp only at hI ⊢
  unfold ac49L0 thS
  have hshort := hI.short
  have hfl : ((acc.flatMap Ins.cells).map AV.d).length = acc.length * 9 := by rw [List.length_map, ins_flat]
  have hb1 : (acc.length + 1) * 72 ≤ 140737488351232 := by omega
  refine bwp_seq fun K1 hK1 => ?_
  refine bwp_seq fun K hK => bwp_region rfl ?_
  simp -implicitDefEqProofs only [go_sem, ↓reduceIte, Nat.reduceEqDiff, Nat.reduceAdd, Nat.reduceLeDiff, Nat.reduceMul, Nat.reduceSub, Int.reduceLE, Int.reduceLT, Int.reduceEq, Int.reduceToNat, Int.reducePow, Int.reduceNeg]
  refine pok_callK s q rfl rfl ?_
  by_cases hc : q.code = 0
  · obtain ⟨a, rfl⟩ : ∃ a, σ = .ok a := by
      cases σ with
      | ok a => exact ⟨a, rfl⟩
      | error e => exact absurd hc hI.ps.codeE
    simp -implicitDefEqProofs only [go_sem, ↓reduceIte, Nat.reduceEqDiff, Nat.reduceAdd, Nat.reduceLeDiff, Nat.reduceMul, Nat.reduceSub, Int.reduceLE, Int.reduceLT, Int.reduceEq, Int.reduceToNat, Int.reducePow, Int.reduceNeg, mset, eq_true hc, decide_true]
    refine ptake_callK hs' hI.ps [125] rfl rfl ?_
    intro q1 hy hn
    cases hb : tkB q [125] with
    | true =>
      simp -implicitDefEqProofs only [go_sem, ↓reduceIte, Nat.reduceEqDiff, Nat.reduceAdd, Nat.reduceLeDiff, Nat.reduceMul, Nat.reduceSub, Int.reduceLE, Int.reduceLT, Int.reduceEq, Int.reduceToNat, Int.reducePow, Int.reduceNeg, mset]
      refine hK _ ?_; clear hK
      refine bwp_cond false (by simp [ev, fget]) (fun h => nomatch h) (fun _ => ?_)
      refine bwp_leads (S' := thS s acc q1) (Leads.ent [(0, 0), (1, 1), (2, 2)] ⟨by simp [entT, fget, AV.ren, renL, pget, thS, parC, lexQ, lexC], by simp [entM, pinv, mget, mset, renL, AV.ren, pget, renL_append, -List.map_map, thS, parC, lexQ, lexC], rfl, rfl⟩) ?_
      exact bwp_exit (hQ acc q1 hshort (hI.done hb (hy hb)))
    | false =>
      have hq1 := hn hb
      subst hq1
      simp -implicitDefEqProofs only [go_sem, ↓reduceIte, Nat.reduceEqDiff, Nat.reduceAdd, Nat.reduceLeDiff, Nat.reduceMul, Nat.reduceSub, Int.reduceLE, Int.reduceLT, Int.reduceEq, Int.reduceToNat, Int.reducePow, Int.reduceNeg, mset]
      refine hK _ ?_; clear hK
      refine bwp_cond true (by simp [ev, fget]) (fun _ => ?_) (fun h => nomatch h)
      refine bwp_skip ?_
      refine hK1 _ ?_; clear hK1
      refine bwp_block ?_
      refine bwp_seq fun K hK => bwp_region rfl ?_
      simp -implicitDefEqProofs only [go_sem, ↓reduceIte, Nat.reduceEqDiff, Nat.reduceAdd, Nat.reduceLeDiff, Nat.reduceMul, Nat.reduceSub, Int.reduceLE, Int.reduceLT, Int.reduceEq, Int.reduceToNat, Int.reducePow, Int.reduceNeg]
      refine pins_callK (q := q1) hs' hI.ps rfl rfl ?_
      intro x q2 h2
      simp -implicitDefEqProofs only [go_sem, ↓reduceIte, Nat.reduceEqDiff, Nat.reduceAdd, Nat.reduceLeDiff, Nat.reduceMul, Nat.reduceSub, Int.reduceLE, Int.reduceLT, Int.reduceEq, Int.reduceToNat, Int.reducePow, Int.reduceNeg, mset, insC, Ins.cells, hfl, hb1, List.length_append, List.length_map, List.length_cons, List.length_nil]
      refine hK _ ?_; clear hK
      refine bwp_region rfl ?_
      simp -implicitDefEqProofs only [go_sem, ↓reduceIte, Nat.reduceEqDiff, Nat.reduceAdd, Nat.reduceLeDiff, Nat.reduceMul, Nat.reduceSub, Int.reduceLE, Int.reduceLT, Int.reduceEq, Int.reduceToNat, Int.reducePow, Int.reduceNeg]
      refine pmust_callK hs' h2.ps [59] rfl rfl ?_
      intro q3 h3
      simp -implicitDefEqProofs only [go_sem, ↓reduceIte, Nat.reduceEqDiff, Nat.reduceAdd, Nat.reduceLeDiff, Nat.reduceMul, Nat.reduceSub, Int.reduceLE, Int.reduceLT, Int.reduceEq, Int.reduceToNat, Int.reducePow, Int.reduceNeg, mset]
      obtain ⟨f', rfl, hN⟩ := hI.next prog_insE hb (PQ.bind (σ := .ok a) h2 (PQ.bind h3 (PQ.ret h3.ps)))
      refine ⟨⟨(acc ++ [x], q3, _, f'), hN⟩, ?_, ?_⟩
      · simp only [hc, if_true]
        split <;> omega
      · exact Leads.ent [(0, 0), (1, 1), (10, 2)] ⟨by simp [thS, entT, fget, AV.ren, renL, pget], by simp [thS, entM, pinv, mget, mset, renL, AV.ren, pget, renL_append, -List.map_map, parC, lexQ, lexC, Ins.cells], rfl, rfl⟩
  · obtain ⟨e, rfl⟩ : ∃ e, σ = .error e := by
      cases σ with
      | ok a => exact absurd hI.ps.code hc
      | error e => exact ⟨e, rfl⟩
    simp -implicitDefEqProofs only [go_sem, ↓reduceIte, Nat.reduceEqDiff, Nat.reduceAdd, Nat.reduceLeDiff, Nat.reduceMul, Nat.reduceSub, Int.reduceLE, Int.reduceLT, Int.reduceEq, Int.reduceToNat, Int.reducePow, Int.reduceNeg, mset, eq_false hc, decide_false]
    refine hK _ ?_; clear hK
    refine bwp_cond false (by simp [ev, fget]) (fun h => nomatch h) (fun _ => ?_)
    refine bwp_leads (S' := thS s acc q) (Leads.ent [(0, 0), (1, 1), (2, 2)] ⟨by simp [entT, fget, AV.ren, renL, pget, thS, parC, lexQ, lexC], by simp [entM, pinv, mget, mset, renL, AV.ren, pget, renL_append, -List.map_map, thS, parC, lexQ, lexC], rfl, rfl⟩) ?_
    exact bwp_exit (hQ acc q hshort hI.err)

/-- From an own row's end: it is told as data. -/
theorem ins_take (l : List Ins) : (l.flatMap Ins.cells).take (l.length * 9) = l.flatMap Ins.cells := List.take_of_length_le (by rw [ins_flat]; exact Nat.le_refl _)

set_option maxHeartbeats 16000000 in
theorem pthread_calls {s : List UInt8} (hs : s.length ≤ 4000) {σ : PR Nat} {q : PSt} (h : PS s σ q) :
    ACalls Tryd.prog 49 [.ptr 0 0] [(0, parC q), (1, lexQ s q)] fun r m' => ∃ q', m' = [(0, parC q'), (1, lexQ s q')] ∧ ∃ l : List Ins, l.length ≤ 4001 ∧ r = .d (slD Ins.cells l) ∧ PQ s (thn σ (tThread.run s)) l q' := by
  have hs' : s.length ≤ 140737488351232 := by omega
  refine acalls_of Tryd.func49 ac49_ok Tryd.ntmps49 Tryd.results49 rfl ?_
  unfold ac49
  refine bwp_seq fun K hK => bwp_region rfl ?_
  simp -implicitDefEqProofs only [go_sem, ↓reduceIte, Nat.reduceEqDiff, Nat.reduceAdd, Nat.reduceLeDiff, Nat.reduceMul, Nat.reduceSub, Int.reduceLE, Int.reduceLT, Int.reduceEq, Int.reduceToNat, Int.reducePow, Int.reduceNeg]
  refine hK _ ?_; clear hK
  refine bwp_seq fun K hK => bwp_region rfl ?_
  simp -implicitDefEqProofs only [go_sem, ↓reduceIte, Nat.reduceEqDiff, Nat.reduceAdd, Nat.reduceLeDiff, Nat.reduceMul, Nat.reduceSub, Int.reduceLE, Int.reduceLT, Int.reduceEq, Int.reduceToNat, Int.reducePow, Int.reduceNeg]
  refine hK _ ?_; clear hK
  refine bwp_seq fun K hK => bwp_region rfl ?_
  simp -implicitDefEqProofs only [go_sem, ↓reduceIte, Nat.reduceEqDiff, Nat.reduceAdd, Nat.reduceLeDiff, Nat.reduceMul, Nat.reduceSub, Int.reduceLE, Int.reduceLT, Int.reduceEq, Int.reduceToNat, Int.reducePow, Int.reduceNeg]
  refine pmust_callK hs' h [123] rfl rfl ?_
  intro q1 h1
  simp -implicitDefEqProofs only [go_sem, ↓reduceIte, Nat.reduceEqDiff, Nat.reduceAdd, Nat.reduceLeDiff, Nat.reduceMul, Nat.reduceSub, Int.reduceLE, Int.reduceLT, Int.reduceEq, Int.reduceToNat, Int.reducePow, Int.reduceNeg, mset]
  refine hK _ ?_; clear hK
  refine bwp_seq fun K1 hK1 => ?_
  refine bwp_block ?_
  refine bwp_leads (S' := ⟨[(3, .d .nsl), (0, .ptr 0 0)], [(0, parC q1), (1, lexQ s q1)], 2⟩) (Leads.ent [(0, 0), (1, 1)] ⟨by simp [entT, fget, AV.ren, renL, pget, parC, lexQ, lexC], by simp [entM, pinv, mget, mset, renL, AV.ren, pget, renL_append, -List.map_map, parC, lexQ, lexC], rfl, rfl⟩) ?_
  refine bwp_leads (Leads.nil 3 9 rfl rfl) ?_
  refine bwp_leads (S' := thS s [] q1) (Leads.ent [(0, 0), (1, 1), (2, 2)] ⟨by simp [entT, fget, AV.ren, renL, pget, thS, parC, lexQ, lexC], by simp [entM, pinv, mget, mset, renL, AV.ren, pget, renL_append, -List.map_map, thS, parC, lexQ, lexC], rfl, rfl⟩) ?_
  refine pth_loop hs h1.ps ?_
  intro acc q2 hlen h2
  unfold thS
  simp -implicitDefEqProofs only [go_sem, ↓reduceIte, Nat.reduceEqDiff, Nat.reduceAdd, Nat.reduceLeDiff, Nat.reduceMul, Nat.reduceSub, Int.reduceLE, Int.reduceLT, Int.reduceEq, Int.reduceToNat, Int.reducePow, Int.reduceNeg]
  refine hK1 _ ?_; clear hK1
  refine bwp_seq fun K hK => bwp_region rfl ?_
  simp -implicitDefEqProofs only [go_sem, ↓reduceIte, Nat.reduceEqDiff, Nat.reduceAdd, Nat.reduceLeDiff, Nat.reduceMul, Nat.reduceSub, Int.reduceLE, Int.reduceLT, Int.reduceEq, Int.reduceToNat, Int.reducePow, Int.reduceNeg]
  refine hK _ ?_; clear hK
  have htk := ins_take acc
  generalize hds : acc.flatMap Ins.cells = ds at htk
  refine bwp_leads (Leads.frz (S' := ⟨[(2, .d (.sl acc.length ds)), (0, .ptr 0 0)], [(0, parC q2), (1, lexQ s q2)], 2⟩) [(0, 0), (1, 1)] [(2, ds)] ⟨?_, ?_, rfl, rfl, ?_⟩) ?_
  · simp [frzT, fget, AV.cv, cvL, zget, pget, htk]
  · simp [frzM, pinv, zget, mget, cvL, AV.cv, parC, lexQ, lexC, pget]
  · simp [zokFrom, mget, cvL_d]
  refine bwp_ret ?_
  simp only [go_sem]
  refine aend_mem (.d (slD Ins.cells acc)) [(0, 0), (1, 1)] [(0, parC q2), (1, lexQ s q2)] ?_ rfl rfl ?_ ⟨q2, rfl, acc, hlen, rfl, PQ.bind h1 h2⟩
  · simp [resA, resVs, resV, fget, slD, hds]
  · simp [entM, pinv, mget, mset, renL, AV.ren, parC, lexQ, lexC, pget]

def inS (s : List UInt8) (acc : List Init) (q : PSt) : St := ⟨[(3, .sl 2 2 0 acc.length), (0, .ptr 0 0)], [(0, parC q), (1, lexQ s q), (2, (acc.flatMap Init.cells).map .d)], 3⟩

theorem init_flat (l : List Init) : (l.flatMap Init.cells).length = l.length * 2 := by
  induction l with
  | nil => rfl
  | cons x l ih => simp only [List.flatMap_cons, List.length_append, init_len, List.length_cons, ih]; omega
theorem init_take (l : List Init) : (l.flatMap Init.cells).take (l.length * 2) = l.flatMap Init.cells := List.take_of_length_le (by rw [init_flat]; exact Nat.le_refl _)

set_option maxHeartbeats 16000000 in
theorem pin_loop {s : List UInt8} (hs : s.length ≤ 4000) {σ0 : PR Nat} {q0 : PSt} (h0 : PS s σ0 q0) {Q : Exit → St → Prop}
    (hQ : ∀ acc q', acc.length ≤ 4001 → PQ s (thn σ0 ((tMany tInit fuelP).run s)) acc q' → Q (.exit 0) (inS s acc q')) :
    BWP Tryd.prog 2 29 (.loop ac48L0) (inS s [] q0) Q := by
  have hs' : s.length ≤ 140737488351232 := by omega
  refine bwp_fam (ι := { p : List Init × PSt × PR Nat × Nat // MI s tInit σ0 fuelP p.1 p.2.1 p.2.2.1 p.2.2.2 }) (fun p => inS s p.1.1 p.1.2.1) (fun p => if p.1.2.1.code = 0 then p.1.2.2.2 + 1 else 0) ⟨([], q0, σ0, fuelP), MI.start hs h0⟩ ?_
  rintro ⟨⟨acc, q, σ, f⟩, hI⟩
  simp only at hI ⊢
  unfold ac48L0 inS
  have hshort := hI.short
  have hfl : ((acc.flatMap Init.cells).map AV.d).length = acc.length * 2 := by rw [List.length_map, init_flat]
  have hb1 : (acc.length + 1) * 16 ≤ 140737488351232 := by omega
  refine bwp_seq fun K1 hK1 => ?_
  refine bwp_seq fun K hK => bwp_region rfl ?_
  simp -implicitDefEqProofs only [go_sem, ↓reduceIte, Nat.reduceEqDiff, Nat.reduceAdd, Nat.reduceLeDiff, Nat.reduceMul, Nat.reduceSub, Int.reduceLE, Int.reduceLT, Int.reduceEq, Int.reduceToNat, Int.reducePow, Int.reduceNeg]
  refine pok_callK s q rfl rfl ?_
  by_cases hc : q.code = 0
  · obtain ⟨a, rfl⟩ : ∃ a, σ = .ok a := by
      cases σ with
      | ok a => exact ⟨a, rfl⟩
      | error e => exact absurd hc hI.ps.codeE
    simp -implicitDefEqProofs only [go_sem, ↓reduceIte, Nat.reduceEqDiff, Nat.reduceAdd, Nat.reduceLeDiff, Nat.reduceMul, Nat.reduceSub, Int.reduceLE, Int.reduceLT, Int.reduceEq, Int.reduceToNat, Int.reducePow, Int.reduceNeg, mset, eq_true hc, decide_true]
    refine ptake_callK hs' hI.ps [125] rfl rfl ?_
    intro q1 hy hn
    cases hb : tkB q [125] with
    | true =>
      simp -implicitDefEqProofs only [go_sem, ↓reduceIte, Nat.reduceEqDiff, Nat.reduceAdd, Nat.reduceLeDiff, Nat.reduceMul, Nat.reduceSub, Int.reduceLE, Int.reduceLT, Int.reduceEq, Int.reduceToNat, Int.reducePow, Int.reduceNeg, mset]
      refine hK _ ?_; clear hK
      refine bwp_cond false (by simp [ev, fget]) (fun h => nomatch h) (fun _ => ?_)
      refine bwp_leads (S' := inS s acc q1) (Leads.ent [(0, 0), (1, 1), (2, 2)] ⟨by simp [entT, fget, AV.ren, renL, pget, inS, parC, lexQ, lexC], by simp [entM, pinv, mget, mset, renL, AV.ren, pget, renL_append, -List.map_map, inS, parC, lexQ, lexC], rfl, rfl⟩) ?_
      exact bwp_exit (hQ acc q1 hshort (hI.done hb (hy hb)))
    | false =>
      have hq1 := hn hb
      subst hq1
      simp -implicitDefEqProofs only [go_sem, ↓reduceIte, Nat.reduceEqDiff, Nat.reduceAdd, Nat.reduceLeDiff, Nat.reduceMul, Nat.reduceSub, Int.reduceLE, Int.reduceLT, Int.reduceEq, Int.reduceToNat, Int.reducePow, Int.reduceNeg, mset]
      refine hK _ ?_; clear hK
      refine bwp_cond true (by simp [ev, fget]) (fun _ => ?_) (fun h => nomatch h)
      refine bwp_skip ?_
      refine hK1 _ ?_; clear hK1
      refine bwp_block ?_
      refine bwp_seq fun K hK => bwp_region rfl ?_
      simp -implicitDefEqProofs only [go_sem, ↓reduceIte, Nat.reduceEqDiff, Nat.reduceAdd, Nat.reduceLeDiff, Nat.reduceMul, Nat.reduceSub, Int.reduceLE, Int.reduceLT, Int.reduceEq, Int.reduceToNat, Int.reducePow, Int.reduceNeg]
      refine ploc_callK (q := q1) hs' hI.ps rfl rfl ?_
      intro l q2 h2
      simp -implicitDefEqProofs only [go_sem, ↓reduceIte, Nat.reduceEqDiff, Nat.reduceAdd, Nat.reduceLeDiff, Nat.reduceMul, Nat.reduceSub, Int.reduceLE, Int.reduceLT, Int.reduceEq, Int.reduceToNat, Int.reducePow, Int.reduceNeg, mset]
      refine hK _ ?_; clear hK
      refine bwp_seq fun K hK => bwp_region rfl ?_
      simp -implicitDefEqProofs only [go_sem, ↓reduceIte, Nat.reduceEqDiff, Nat.reduceAdd, Nat.reduceLeDiff, Nat.reduceMul, Nat.reduceSub, Int.reduceLE, Int.reduceLT, Int.reduceEq, Int.reduceToNat, Int.reducePow, Int.reduceNeg]
      refine pmust_callK hs' h2.ps [61] rfl rfl ?_
      intro q3 h3
      simp -implicitDefEqProofs only [go_sem, ↓reduceIte, Nat.reduceEqDiff, Nat.reduceAdd, Nat.reduceLeDiff, Nat.reduceMul, Nat.reduceSub, Int.reduceLE, Int.reduceLT, Int.reduceEq, Int.reduceToNat, Int.reducePow, Int.reduceNeg, mset]
      refine hK _ ?_; clear hK
      refine bwp_seq fun K hK => bwp_region rfl ?_
      simp -implicitDefEqProofs only [go_sem, ↓reduceIte, Nat.reduceEqDiff, Nat.reduceAdd, Nat.reduceLeDiff, Nat.reduceMul, Nat.reduceSub, Int.reduceLE, Int.reduceLT, Int.reduceEq, Int.reduceToNat, Int.reducePow, Int.reduceNeg]
      refine pnum_callK hs' h3.ps rfl rfl ?_
      intro v q4 h4
      simp -implicitDefEqProofs only [go_sem, ↓reduceIte, Nat.reduceEqDiff, Nat.reduceAdd, Nat.reduceLeDiff, Nat.reduceMul, Nat.reduceSub, Int.reduceLE, Int.reduceLT, Int.reduceEq, Int.reduceToNat, Int.reducePow, Int.reduceNeg, mset]
      refine hK _ ?_; clear hK
      refine bwp_seq fun K hK => bwp_region rfl ?_
      simp -implicitDefEqProofs only [go_sem, ↓reduceIte, Nat.reduceEqDiff, Nat.reduceAdd, Nat.reduceLeDiff, Nat.reduceMul, Nat.reduceSub, Int.reduceLE, Int.reduceLT, Int.reduceEq, Int.reduceToNat, Int.reducePow, Int.reduceNeg]
      refine pmust_callK hs' h4.ps [59] rfl rfl ?_
      intro q5 h5
      simp -implicitDefEqProofs only [go_sem, ↓reduceIte, Nat.reduceEqDiff, Nat.reduceAdd, Nat.reduceLeDiff, Nat.reduceMul, Nat.reduceSub, Int.reduceLE, Int.reduceLT, Int.reduceEq, Int.reduceToNat, Int.reducePow, Int.reduceNeg, mset]
      refine hK _ ?_; clear hK
      refine bwp_region rfl ?_
      simp -implicitDefEqProofs only [go_sem, ↓reduceIte, Nat.reduceEqDiff, Nat.reduceAdd, Nat.reduceLeDiff, Nat.reduceMul, Nat.reduceSub, Int.reduceLE, Int.reduceLT, Int.reduceEq, Int.reduceToNat, Int.reducePow, Int.reduceNeg, hfl, hb1, List.length_append, List.length_map, List.length_cons, List.length_nil]
      obtain ⟨f', rfl, hN⟩ := hI.next prog_init hb (PQ.bind (σ := .ok a) h2 (PQ.bind h3 (PQ.bind h4 (PQ.bind h5 (PQ.ret h5.ps)))))
      refine ⟨⟨(acc ++ [⟨l, v⟩], q5, _, f'), hN⟩, ?_, ?_⟩
      · simp only [hc, if_true]
        split <;> omega
      · exact Leads.ent [(0, 0), (1, 1), (17, 2)] ⟨by simp [inS, entT, fget, AV.ren, renL, pget], by simp [inS, entM, pinv, mget, mset, renL, AV.ren, pget, renL_append, -List.map_map, parC, lexQ, lexC, Init.cells], rfl, rfl⟩
  · obtain ⟨e, rfl⟩ : ∃ e, σ = .error e := by
      cases σ with
      | ok a => exact absurd hI.ps.code hc
      | error e => exact ⟨e, rfl⟩
    simp -implicitDefEqProofs only [go_sem, ↓reduceIte, Nat.reduceEqDiff, Nat.reduceAdd, Nat.reduceLeDiff, Nat.reduceMul, Nat.reduceSub, Int.reduceLE, Int.reduceLT, Int.reduceEq, Int.reduceToNat, Int.reducePow, Int.reduceNeg, mset, eq_false hc, decide_false]
    refine hK _ ?_; clear hK
    refine bwp_cond false (by simp [ev, fget]) (fun h => nomatch h) (fun _ => ?_)
    refine bwp_leads (S' := inS s acc q) (Leads.ent [(0, 0), (1, 1), (2, 2)] ⟨by simp [entT, fget, AV.ren, renL, pget, inS, parC, lexQ, lexC], by simp [entM, pinv, mget, mset, renL, AV.ren, pget, renL_append, -List.map_map, inS, parC, lexQ, lexC], rfl, rfl⟩) ?_
    exact bwp_exit (hQ acc q hshort hI.err)

set_option maxHeartbeats 16000000 in
theorem pinit_calls {s : List UInt8} (hs : s.length ≤ 4000) {σ : PR Nat} {q : PSt} (h : PS s σ q) :
    ACalls Tryd.prog 48 [.ptr 0 0] [(0, parC q), (1, lexQ s q)] fun r m' => ∃ q', m' = [(0, parC q'), (1, lexQ s q')] ∧ ∃ l : List Init, l.length ≤ 4001 ∧ r = .d (slD Init.cells l) ∧ PQ s (thn σ (tInits.run s)) l q' := by
  have hs' : s.length ≤ 140737488351232 := by omega
  refine acalls_of Tryd.func48 ac48_ok Tryd.ntmps48 Tryd.results48 rfl ?_
  unfold ac48
  refine bwp_seq fun K hK => bwp_region rfl ?_
  simp -implicitDefEqProofs only [go_sem, ↓reduceIte, Nat.reduceEqDiff, Nat.reduceAdd, Nat.reduceLeDiff, Nat.reduceMul, Nat.reduceSub, Int.reduceLE, Int.reduceLT, Int.reduceEq, Int.reduceToNat, Int.reducePow, Int.reduceNeg]
  refine hK _ ?_; clear hK
  refine bwp_seq fun K hK => bwp_region rfl ?_
  simp -implicitDefEqProofs only [go_sem, ↓reduceIte, Nat.reduceEqDiff, Nat.reduceAdd, Nat.reduceLeDiff, Nat.reduceMul, Nat.reduceSub, Int.reduceLE, Int.reduceLT, Int.reduceEq, Int.reduceToNat, Int.reducePow, Int.reduceNeg]
  refine hK _ ?_; clear hK
  refine bwp_seq fun K hK => bwp_region rfl ?_
  simp -implicitDefEqProofs only [go_sem, ↓reduceIte, Nat.reduceEqDiff, Nat.reduceAdd, Nat.reduceLeDiff, Nat.reduceMul, Nat.reduceSub, Int.reduceLE, Int.reduceLT, Int.reduceEq, Int.reduceToNat, Int.reducePow, Int.reduceNeg]
  refine pmust_callK hs' h [123] rfl rfl ?_
  intro q1 h1
  simp -implicitDefEqProofs only [go_sem, ↓reduceIte, Nat.reduceEqDiff, Nat.reduceAdd, Nat.reduceLeDiff, Nat.reduceMul, Nat.reduceSub, Int.reduceLE, Int.reduceLT, Int.reduceEq, Int.reduceToNat, Int.reducePow, Int.reduceNeg, mset]
  refine hK _ ?_; clear hK
  refine bwp_seq fun K1 hK1 => ?_
  refine bwp_block ?_
  refine bwp_leads (S' := ⟨[(3, .d .nsl), (0, .ptr 0 0)], [(0, parC q1), (1, lexQ s q1)], 2⟩) (Leads.ent [(0, 0), (1, 1)] ⟨by simp [entT, fget, AV.ren, renL, pget, parC, lexQ, lexC], by simp [entM, pinv, mget, mset, renL, AV.ren, pget, renL_append, -List.map_map, parC, lexQ, lexC], rfl, rfl⟩) ?_
  refine bwp_leads (Leads.nil 3 2 rfl rfl) ?_
  refine bwp_leads (S' := inS s [] q1) (Leads.ent [(0, 0), (1, 1), (2, 2)] ⟨by simp [entT, fget, AV.ren, renL, pget, inS, parC, lexQ, lexC], by simp [entM, pinv, mget, mset, renL, AV.ren, pget, renL_append, -List.map_map, inS, parC, lexQ, lexC], rfl, rfl⟩) ?_
  refine pin_loop hs h1.ps ?_
  intro acc q2 hlen h2
  unfold inS
  simp -implicitDefEqProofs only [go_sem, ↓reduceIte, Nat.reduceEqDiff, Nat.reduceAdd, Nat.reduceLeDiff, Nat.reduceMul, Nat.reduceSub, Int.reduceLE, Int.reduceLT, Int.reduceEq, Int.reduceToNat, Int.reducePow, Int.reduceNeg]
  refine hK1 _ ?_; clear hK1
  refine bwp_seq fun K hK => bwp_region rfl ?_
  simp -implicitDefEqProofs only [go_sem, ↓reduceIte, Nat.reduceEqDiff, Nat.reduceAdd, Nat.reduceLeDiff, Nat.reduceMul, Nat.reduceSub, Int.reduceLE, Int.reduceLT, Int.reduceEq, Int.reduceToNat, Int.reducePow, Int.reduceNeg]
  refine hK _ ?_; clear hK
  have htk := init_take acc
  generalize hds : acc.flatMap Init.cells = ds at htk
  refine bwp_leads (Leads.frz (S' := ⟨[(2, .d (.sl acc.length ds)), (0, .ptr 0 0)], [(0, parC q2), (1, lexQ s q2)], 2⟩) [(0, 0), (1, 1)] [(2, ds)] ⟨?_, ?_, rfl, rfl, ?_⟩) ?_
  · simp [frzT, fget, AV.cv, cvL, zget, pget, htk]
  · simp [frzM, pinv, zget, mget, cvL, AV.cv, parC, lexQ, lexC, pget]
  · simp [zokFrom, mget, cvL_d]
  refine bwp_ret ?_
  simp only [go_sem]
  refine aend_mem (.d (slD Init.cells acc)) [(0, 0), (1, 1)] [(0, parC q2), (1, lexQ s q2)] ?_ rfl rfl ?_ ⟨q2, rfl, acc, hlen, rfl, PQ.bind h1 h2⟩
  · simp [resA, resVs, resV, fget, slD, hds]
  · simp [entM, pinv, mget, mset, renL, AV.ren, parC, lexQ, lexC, pget]

theorem pthread_callK {s : List UInt8} (hs : s.length ≤ 4000) {σ : PR Nat} {q : PSt} (h : PS s σ q) {dst : Option Nat} {ops : List AOper} {K : St → Prop} {t : Fr} {m : Mem} {n : Nat} (hm0 : mget m 0 = some (parC q)) (hm1 : mget m 1 = some (lexQ s q))
    (hk : ∀ (l : List Ins) q', l.length ≤ 4001 → PQ s (thn σ (tThread.run s)) l q' → runOps Tryd.prog ops ⟨putF t dst (.d (slD Ins.cells l)), mset (mset m 0 (parC q')) 1 (lexQ s q'), n + 2⟩ K) : callK Tryd.prog 49 [.ptr 0 0] dst ops K t m n := by
  refine par_callK (rest := []) (Q := fun r q' => ∃ l : List Ins, l.length ≤ 4001 ∧ r = .d (slD Ins.cells l) ∧ PQ s (thn σ (tThread.run s)) l q') (pthread_calls hs h) rfl ?_ hm0 hm1 ?_
  · rintro _ _ ⟨_, _, rfl, _⟩; rfl
  · rintro _ q' ⟨l, h1, rfl, h⟩; exact hk l q' h1 h

theorem pinit_callK {s : List UInt8} (hs : s.length ≤ 4000) {σ : PR Nat} {q : PSt} (h : PS s σ q) {dst : Option Nat} {ops : List AOper} {K : St → Prop} {t : Fr} {m : Mem} {n : Nat} (hm0 : mget m 0 = some (parC q)) (hm1 : mget m 1 = some (lexQ s q))
    (hk : ∀ (l : List Init) q', l.length ≤ 4001 → PQ s (thn σ (tInits.run s)) l q' → runOps Tryd.prog ops ⟨putF t dst (.d (slD Init.cells l)), mset (mset m 0 (parC q')) 1 (lexQ s q'), n + 2⟩ K) : callK Tryd.prog 48 [.ptr 0 0] dst ops K t m n := by
  refine par_callK (rest := []) (Q := fun r q' => ∃ l : List Init, l.length ≤ 4001 ∧ r = .d (slD Init.cells l) ∧ PQ s (thn σ (tInits.run s)) l q') (pinit_calls hs h) rfl ?_ hm0 hm1 ?_
  · rintro _ _ ⟨_, _, rfl, _⟩; rfl
  · rintro _ q' ⟨l, h1, rfl, h⟩; exact hk l q' h1 h

end Go.Proofs.YtpfbljkfbjjlkaaDoor

/- The parser's conditions. -/
namespace Go.Proofs.YtpfbljkfbjjlkaaDoor
open Go Go.Jq
set_option maxRecDepth 100000
set_option linter.unusedSimpArgs false

theorem atom_flat (l : List Atom) : (l.flatMap Atom.cells).length = l.length * 4 := by
  induction l with
  | nil => rfl
  | cons x l ih => simp only [List.flatMap_cons, List.length_append, atom_len, List.length_cons, ih]; omega
theorem atom_take (l : List Atom) : (l.flatMap Atom.cells).take (l.length * 4) = l.flatMap Atom.cells := List.take_of_length_le (by rw [atom_flat]; exact Nat.le_refl _)

/-- How far the loop over a row's atoms is. -/
structure RI (s : List UInt8) (σ0 : PR Nat) (f0 : Nat) (acc : List Atom) (q : PSt) (σ : PR Nat) (f : Nat) : Prop where
  ps : PS s σ q
  to : ∀ l qf, PQ s (thn σ ((tRow f).run s)) l qf → PQ s (thn σ0 ((tRow f0).run s)) (acc ++ l) qf
  fuel : ∀ a, σ = .ok a → s.length - a < f
  len : acc.length + f ≤ f0 ∨ (∃ e, σ = .error e) ∧ acc.length ≤ f0

theorem tkB_ok {s : List UInt8} {σ : PR Nat} {q : PSt} {x : List UInt8} (h : PS s σ q) (hb : tkB q x = true) : ∃ a, σ = .ok a ∧ (curT s a).kd ≠ 4 := by
  cases σ with
  | error e =>
    exfalso
    unfold tkB at hb
    simp only [Bool.and_eq_true, decide_eq_true_eq] at hb
    exact h.codeE hb.1
  | ok a =>
    refine ⟨a, rfl, ?_⟩
    unfold tkB at hb
    simp only [Bool.and_eq_true, decide_eq_true_eq] at hb
    rw [← h.2.2.1]
    exact isK_kd hb.2

theorem eatW_lt {s : List UInt8} {a b : Nat} (ha : a ≤ s.length) (h0 : (nextW s a).2.2 = 0) (h4 : (curT s a).kd ≠ 4) (h : eatW s a = .ok b) : a < b ∧ b ≤ s.length := by
  obtain ⟨rfl, _⟩ := eatW_ok h
  have h1 := nextW_to ha
  exact ⟨h1.2.2 h0 h4, h1.2.1⟩

theorem RI.next {s : List UInt8} {σ0 : PR Nat} {f0 : Nat} {acc : List Atom} {q : PSt} {σ : PR Nat} {f : Nat} (h : RI s σ0 f0 acc q σ f) (hb : tkB q [38] = true) {x : Atom} {q' : PSt} (hq : PQ s (thn (thn σ (eatW s)) (tAtom.run s)) x q') :
    ∃ f', f = f' + 1 ∧ RI s σ0 f0 (acc ++ [x]) q' (posR (thn (thn σ (eatW s)) (tAtom.run s))) f' := by
  obtain ⟨a, rfl, h4⟩ := tkB_ok h.ps hb
  have hf := h.fuel a rfl
  obtain ⟨f', rfl⟩ : ∃ f', f = f' + 1 := ⟨f - 1, by omega⟩
  refine ⟨f', rfl, ⟨hq.ps, fun l qf hl => ?_, fun b hb' => ?_, ?_⟩⟩
  · have : PQ s (thn (.ok a) ((tRow (f' + 1)).run s)) (x :: l) qf := PQ.take_yes h.ps hb (PQ.bind hq (PQ.bind hl (PQ.ret hl.ps)))
    have := h.to _ _ this
    simpa using this
  · obtain ⟨y, hy⟩ := posR_ok hb'
    obtain ⟨c, hc, hy'⟩ := thn_ok hy
    have h1 := eatW_lt h.ps.1 h.ps.2.1 h4 hc
    have h2 := tAtom.run_le h1.2 hy'
    omega
  · rcases h.len with hl | ⟨⟨e, he⟩, _⟩
    · left
      simp only [List.length_append, List.length_cons, List.length_nil]
      omega
    · cases he

theorem RI.done {s : List UInt8} {σ0 : PR Nat} {f0 : Nat} {acc : List Atom} {q : PSt} {σ : PR Nat} {f : Nat} (h : RI s σ0 f0 acc q σ f) (hb : tkB q [38] = false) : PQ s (thn σ0 ((tRow f0).run s)) acc q := by
  have : PQ s (thn σ ((tRow f).run s)) [] q := by
    cases σ with
    | error e => exact h.ps
    | ok a =>
      have hf := h.fuel a rfl
      obtain ⟨f', rfl⟩ : ∃ f', f = f' + 1 := ⟨f - 1, by omega⟩
      exact PQ.take_no h.ps hb (PQ.ret h.ps)
  have := h.to _ _ this
  simpa using this

theorem RI.start {s : List UInt8} {σ : PR Nat} {q : PSt} (hs : s.length ≤ 4000) (h : PS s σ q) : RI s σ fuelP [] q σ fuelP :=
  ⟨h, fun l qf hl => hl, fun a _ => by unfold fuelP; omega, .inl (by simp)⟩

theorem RI.short {s : List UInt8} {σ0 σ : PR Nat} {acc : List Atom} {q : PSt} {f : Nat} (h : RI s σ0 fuelP acc q σ f) : acc.length ≤ 4001 := by
  rcases h.len with h | h
  · unfold fuelP at h; omega
  · exact h.2

/-- The rows so far, as cells. -/
def rowsC (accs : List (List Atom)) : List DV := accs.map (slD Atom.cells)

def icS (s : List UInt8) (kind : Int) (accs : List (List Atom)) (row : List Atom) (q : PSt) : St :=
  ⟨[(6, .sl 5 4 0 row.length), (4, .ptr 2 0), (5, .ptr 3 0), (0, .ptr 0 0)], [(0, parC q), (1, lexQ s q), (2, [.d (.int .i64 0), .d .nsl]), (3, [.d (.int .i64 kind), .sl 4 1 0 accs.length]), (4, (rowsC accs).map .d), (5, (row.flatMap Atom.cells).map .d)], 6⟩

set_option maxHeartbeats 16000000 in
theorem pco_loop0 {s : List UInt8} (hs : s.length ≤ 4000) {kind : Int} {accs : List (List Atom)} {x0 : Atom} {σ0 : PR Nat} {q0 : PSt} (h0 : PS s σ0 q0) {Q : Exit → St → Prop}
    (hQ : ∀ acc q', acc.length ≤ 4001 → PQ s (thn σ0 ((tRow fuelP).run s)) acc q' → Q (.exit 2) (icS s kind accs (x0 :: acc) q')) :
    BWP Tryd.prog 2 31 (.loop ac50L0) (icS s kind accs [x0] q0) Q := by
  have hs' : s.length ≤ 140737488351232 := by omega
  refine bwp_fam (ι := { p : List Atom × PSt × PR Nat × Nat // RI s σ0 fuelP p.1 p.2.1 p.2.2.1 p.2.2.2 }) (fun p => icS s kind accs (x0 :: p.1.1) p.1.2.1) (fun p => if p.1.2.1.code = 0 then p.1.2.2.2 + 1 else 0) ⟨([], q0, σ0, fuelP), RI.start hs h0⟩ ?_
  rintro ⟨⟨acc, q, σ, f⟩, hI⟩
  simp only at hI ⊢
  unfold ac50L0 icS
  have hshort := hI.short
  have hfl : (((x0 :: acc).flatMap Atom.cells).map AV.d).length = (acc.length + 1) * 4 := by rw [List.length_map, atom_flat, List.length_cons]
  have hll : (x0 :: acc).length = acc.length + 1 := List.length_cons
  have hb1 : (acc.length + 1 + 1) * 32 ≤ 140737488351232 := by omega
  generalize hrow : (x0 :: acc).flatMap Atom.cells = row at *
  generalize hcs : (rowsC accs).map AV.d = cs
  have hcr : ∀ π, renL π cs = cs := fun π => by rw [← hcs]; exact renL_d _ _
  refine bwp_seq fun K1 hK1 => ?_
  refine bwp_seq fun K hK => bwp_region rfl ?_
  simp -implicitDefEqProofs only [go_sem, ↓reduceIte, Nat.reduceEqDiff, Nat.reduceAdd, Nat.reduceLeDiff, Nat.reduceMul, Nat.reduceSub, Int.reduceLE, Int.reduceLT, Int.reduceEq, Int.reduceToNat, Int.reducePow, Int.reduceNeg]
  refine ptake_callK hs' hI.ps [38] rfl rfl ?_
  intro q1 hy hn
  cases hb : tkB q [38] with
  | false =>
    have hq1 := hn hb
    subst hq1
    simp -implicitDefEqProofs only [go_sem, ↓reduceIte, Nat.reduceEqDiff, Nat.reduceAdd, Nat.reduceLeDiff, Nat.reduceMul, Nat.reduceSub, Int.reduceLE, Int.reduceLT, Int.reduceEq, Int.reduceToNat, Int.reducePow, Int.reduceNeg, mset]
    refine hK _ ?_; clear hK
    refine bwp_cond false (by simp [ev, fget]) (fun h => nomatch h) (fun _ => ?_)
    refine bwp_leads (S' := icS s kind accs (x0 :: acc) q1) (Leads.ent [(0, 0), (1, 1), (2, 2), (3, 3), (4, 4), (5, 5)] ⟨by simp [icS, entT, fget, AV.ren, renL, pget], ?_, rfl, rfl⟩) ?_
    · rw [← hrow, ← hcs]
      simp [icS, entM, pinv, mget, mset, renL, AV.ren, pget, renL_append, -List.map_map, parC, lexQ, lexC]
    exact bwp_exit (hQ acc q1 hshort (hI.done hb))
  | true =>
    have h1 := hy hb
    simp -implicitDefEqProofs only [go_sem, ↓reduceIte, Nat.reduceEqDiff, Nat.reduceAdd, Nat.reduceLeDiff, Nat.reduceMul, Nat.reduceSub, Int.reduceLE, Int.reduceLT, Int.reduceEq, Int.reduceToNat, Int.reducePow, Int.reduceNeg, mset]
    refine hK _ ?_; clear hK
    refine bwp_cond true (by simp [ev, fget]) (fun _ => ?_) (fun h => nomatch h)
    refine bwp_skip ?_
    refine hK1 _ ?_; clear hK1
    refine bwp_block ?_
    refine bwp_region rfl ?_
    simp -implicitDefEqProofs only [go_sem, ↓reduceIte, Nat.reduceEqDiff, Nat.reduceAdd, Nat.reduceLeDiff, Nat.reduceMul, Nat.reduceSub, Int.reduceLE, Int.reduceLT, Int.reduceEq, Int.reduceToNat, Int.reducePow, Int.reduceNeg]
    refine patom_callK hs' h1 rfl rfl ?_
    intro x q2 h2
    simp -implicitDefEqProofs only [go_sem, ↓reduceIte, Nat.reduceEqDiff, Nat.reduceAdd, Nat.reduceLeDiff, Nat.reduceMul, Nat.reduceSub, Int.reduceLE, Int.reduceLT, Int.reduceEq, Int.reduceToNat, Int.reducePow, Int.reduceNeg, mset, atC, Atom.cells, hfl, hb1, List.length_append, List.length_map, List.length_cons, List.length_nil]
    obtain ⟨f', rfl, hN⟩ := hI.next hb h2
    have hrow' : (x0 :: (acc ++ [x])).flatMap Atom.cells = row ++ Atom.cells x := by rw [← hrow]; simp
    have hc : q.code = 0 := by
      obtain ⟨a, ha, _⟩ := tkB_ok hI.ps hb
      have := hI.ps
      rw [ha] at this
      exact this.code
    refine ⟨⟨(acc ++ [x], q2, _, f'), hN⟩, ?_, ?_⟩
    · simp only [hc, if_true]
      split <;> omega
    · refine Leads.ent [(0, 0), (1, 1), (2, 2), (3, 3), (4, 4), (11, 5)] ⟨by simp [entT, fget, AV.ren, renL, pget], ?_, rfl, rfl⟩
      simp only [hrow']
      simp [entM, pinv, mget, mset, renL, AV.ren, pget, renL_append, -List.map_map, parC, lexQ, lexC, hcr, Atom.cells]

/-- How far the loop over rows is. -/
structure OI (s : List UInt8) (σ0 : PR Nat) (f0 : Nat) (acc : List (List Atom)) (q : PSt) (σ : PR Nat) (f : Nat) : Prop where
  ps : PS s σ q
  to : ∀ l qf, PQ s (thn σ ((tRows f).run s)) l qf → PQ s (thn σ0 ((tRows f0).run s)) (acc ++ l) qf
  fuel : ∀ a, σ = .ok a → s.length - a < f
  len : acc.length + f ≤ f0 ∨ (∃ e, σ = .error e) ∧ acc.length ≤ f0
  rows : ∀ l ∈ acc, l.length ≤ 4002

theorem OI.start {s : List UInt8} {σ : PR Nat} {q : PSt} (hs : s.length ≤ 4000) (h : PS s σ q) : OI s σ fuelP [] q σ fuelP :=
  ⟨h, fun l qf hl => hl, fun a _ => by unfold fuelP; omega, .inl (by simp), fun l hl => by cases hl⟩

theorem OI.short {s : List UInt8} {σ0 σ : PR Nat} {acc : List (List Atom)} {q : PSt} {f : Nat} (h : OI s σ0 fuelP acc q σ f) : acc.length ≤ 4001 := by
  rcases h.len with h | h
  · unfold fuelP at h; omega
  · exact h.2

theorem OI.next {s : List UInt8} {σ0 : PR Nat} {f0 : Nat} {acc : List (List Atom)} {q : PSt} {σ : PR Nat} {f : Nat} (h : OI s σ0 f0 acc q σ f) {x : Atom} {l : List Atom} {q1 q2 q3 : PSt} (h1 : PQ s (thn σ (tAtom.run s)) x q1)
    (h2 : PQ s (thn (posR (thn σ (tAtom.run s))) ((tRow fuelP).run s)) l q2) (hl : l.length ≤ 4001) (hb : tkB q2 [124] = true) (h3 : PS s (thn (posR (thn (posR (thn σ (tAtom.run s))) ((tRow fuelP).run s))) (eatW s)) q3) :
    ∃ f', f = f' + 1 ∧ OI s σ0 f0 (acc ++ [x :: l]) q3 (thn (posR (thn (posR (thn σ (tAtom.run s))) ((tRow fuelP).run s))) (eatW s)) f' ∧ q.code = 0 := by
  obtain ⟨c, hc, h4⟩ := tkB_ok h2.ps hb
  obtain ⟨l', hl'⟩ := posR_ok hc
  obtain ⟨b, hb', hrow⟩ := thn_ok hl'
  obtain ⟨x', hx'⟩ := posR_ok hb'
  obtain ⟨a, rfl, hat⟩ := thn_ok hx'
  have hf := h.fuel a rfl
  obtain ⟨f', rfl⟩ : ∃ f', f = f' + 1 := ⟨f - 1, by omega⟩
  have p1 := prog_atom s a x' b h.ps.1 h.ps.2.1 hat
  have p2 := tAtom.run_le h.ps.1 hat
  have p3 := (tRow fuelP).run_le p2.2 hrow
  refine ⟨f', rfl, ⟨h3, fun r qf hr => ?_, fun d hd => ?_, ?_, fun l0 hl0 => ?_⟩, h.ps.code⟩
  · have : PQ s (thn (.ok a) ((tRows (f' + 1)).run s)) ((x :: l) :: r) qf := PQ.bind h1 (PQ.bind h2 (PQ.take_yes h2.ps hb (PQ.bind hr (PQ.ret hr.ps))))
    have := h.to _ _ this
    simpa using this
  · rw [hc] at hd
    have hps := h2.ps
    rw [hc] at hps
    have := eatW_lt hps.1 hps.2.1 h4 hd
    omega
  · rcases h.len with hl | ⟨⟨e, he⟩, _⟩
    · left
      simp only [List.length_append, List.length_cons, List.length_nil]
      omega
    · cases he
  · rcases List.mem_append.1 hl0 with h' | h'
    · exact h.rows l0 h'
    · simp only [List.mem_cons, List.not_mem_nil, or_false] at h'
      subst h'
      simp only [List.length_cons]
      omega

theorem OI.done {s : List UInt8} {σ0 : PR Nat} {f0 : Nat} {acc : List (List Atom)} {q : PSt} {σ : PR Nat} {f : Nat} (h : OI s σ0 f0 acc q σ f) {x : Atom} {l : List Atom} {q1 q2 : PSt} (h1 : PQ s (thn σ (tAtom.run s)) x q1)
    (h2 : PQ s (thn (posR (thn σ (tAtom.run s))) ((tRow fuelP).run s)) l q2) (hb : tkB q2 [124] = false) : PQ s (thn σ0 ((tRows f0).run s)) (acc ++ [x :: l]) q2 := by
  refine h.to _ _ ?_
  cases σ with
  | error e => exact h2.ps
  | ok a =>
    have hf := h.fuel a rfl
    obtain ⟨f', rfl⟩ : ∃ f', f = f' + 1 := ⟨f - 1, by omega⟩
    exact PQ.bind h1 (PQ.bind h2 (PQ.take_no h2.ps hb (PQ.ret h2.ps)))

def ocS (s : List UInt8) (kind : Int) (accs : List (List Atom)) (q : PSt) : St :=
  ⟨[(4, .ptr 2 0), (5, .ptr 3 0), (0, .ptr 0 0)], [(0, parC q), (1, lexQ s q), (2, [.d (.int .i64 0), .d .nsl]), (3, [.d (.int .i64 kind), .sl 4 1 0 accs.length]), (4, (rowsC accs).map .d)], 5⟩

theorem rowsC_len (accs : List (List Atom)) : (rowsC accs).length = accs.length := by simp [rowsC]
theorem rowsC_snoc (accs : List (List Atom)) (l : List Atom) : rowsC (accs ++ [l]) = rowsC accs ++ [slD Atom.cells l] := by simp [rowsC]

/-- Rows as data. -/
def rowsD (rows : List (List Atom)) : DV := .sl rows.length (rowsC rows)

set_option maxHeartbeats 32000000 in
theorem pco_loop1 {s : List UInt8} (hs : s.length ≤ 4000) {kind : Int} {σ0 : PR Nat} {q0 : PSt} (h0 : PS s σ0 q0) {Q : Exit → St → Prop}
    (hR : ∀ (rows : List (List Atom)) q', rows.length ≤ 4002 → (∀ l ∈ rows, l.length ≤ 4002) → PQ s (thn σ0 ((tAsk kind).run s)) (kind, rows) q' →
      Q .ret ⟨[(4, .ptr 2 0)], [(0, parC q'), (1, lexQ s q'), (2, [.d (.int .i64 kind), .d (rowsD rows)])], 3⟩) :
    BWP Tryd.prog 2 31 (.loop ac50L1) (ocS s kind [] q0) Q := by
  have hs' : s.length ≤ 140737488351232 := by omega
  refine bwp_fam (ι := { p : List (List Atom) × PSt × PR Nat × Nat // OI s σ0 fuelP p.1 p.2.1 p.2.2.1 p.2.2.2 }) (fun p => ocS s kind p.1.1 p.1.2.1) (fun p => if p.1.2.1.code = 0 then p.1.2.2.2 + 1 else 0) ⟨([], q0, σ0, fuelP), OI.start hs h0⟩ ?_
  rintro ⟨⟨accs, q, σ, f⟩, hI⟩
  simp only at hI ⊢
  unfold ac50L1 ocS
  have hshort := hI.short
  refine bwp_block ?_
  refine bwp_seq fun K hK => bwp_region rfl ?_
  simp -implicitDefEqProofs only [go_sem, ↓reduceIte, Nat.reduceEqDiff, Nat.reduceAdd, Nat.reduceLeDiff, Nat.reduceMul, Nat.reduceSub, Int.reduceLE, Int.reduceLT, Int.reduceEq, Int.reduceToNat, Int.reducePow, Int.reduceNeg]
  refine patom_callK hs' hI.ps rfl rfl ?_
  intro x q1 h1
  simp -implicitDefEqProofs only [go_sem, ↓reduceIte, Nat.reduceEqDiff, Nat.reduceAdd, Nat.reduceLeDiff, Nat.reduceMul, Nat.reduceSub, Int.reduceLE, Int.reduceLT, Int.reduceEq, Int.reduceToNat, Int.reducePow, Int.reduceNeg, mset, atC, Atom.cells]
  refine hK _ ?_; clear hK
  refine bwp_seq fun K1 hK1 => ?_
  refine bwp_block ?_
  have hcr : ∀ π, renL π ((rowsC accs).map AV.d) = (rowsC accs).map .d := fun π => renL_d _ _
  have hcl : ((rowsC accs).map AV.d).length = accs.length := by rw [List.length_map, rowsC_len]
  have hb1 : (accs.length + 1) * 24 ≤ 140737488351232 := by omega
  refine bwp_leads (S' := icS s kind accs [x] q1) (Leads.ent [(0, 0), (1, 1), (2, 2), (3, 3), (4, 4), (7, 5)] ⟨by simp [icS, entT, fget, AV.ren, renL, pget], ?_, rfl, rfl⟩) ?_
  · simp [icS, entM, pinv, mget, mset, renL, AV.ren, pget, renL_append, -List.map_map, parC, lexQ, lexC, Atom.cells]
  refine pco_loop0 hs h1.ps ?_
  intro acc q2 hlen h2
  unfold icS
  simp -implicitDefEqProofs only [go_sem, ↓reduceIte, Nat.reduceEqDiff, Nat.reduceAdd, Nat.reduceLeDiff, Nat.reduceMul, Nat.reduceSub, Int.reduceLE, Int.reduceLT, Int.reduceEq, Int.reduceToNat, Int.reducePow, Int.reduceNeg]
  refine hK1 _ ?_; clear hK1
  have htk := atom_take (x :: acc)
  have hll : (x :: acc).length = acc.length + 1 := List.length_cons
  have hsn := rowsC_snoc accs (x :: acc)
  have hsd : slD Atom.cells (x :: acc) = .sl (acc.length + 1) ((x :: acc).flatMap Atom.cells) := by simp only [slD, hll]
  rw [hll] at htk
  generalize hds : (x :: acc).flatMap Atom.cells = ds at htk hsd
  refine bwp_leads (Leads.frz (S' := ⟨[(6, .d (.sl (acc.length + 1) ds)), (4, .ptr 2 0), (5, .ptr 3 0), (0, .ptr 0 0)], [(0, parC q2), (1, lexQ s q2), (2, [.d (.int .i64 0), .d .nsl]), (3, [.d (.int .i64 kind), .sl 4 1 0 accs.length]), (4, (rowsC accs).map .d)], 5⟩) [(0, 0), (1, 1), (2, 2), (3, 3), (4, 4)] [(5, ds)] ⟨?_, ?_, rfl, rfl, ?_⟩) ?_
  · simp [frzT, fget, AV.cv, cvL, zget, pget, htk]
  · simp [frzM, pinv, zget, mget, cvL, AV.cv, parC, lexQ, lexC, pget, cvL_d, -List.map_map]
  · simp [zokFrom, mget, cvL_d]
  generalize hcs : (rowsC accs).map AV.d = cs at *
  refine bwp_seq fun K hK => bwp_region rfl ?_
  simp -implicitDefEqProofs only [go_sem, ↓reduceIte, Nat.reduceEqDiff, Nat.reduceAdd, Nat.reduceLeDiff, Nat.reduceMul, Nat.reduceSub, Int.reduceLE, Int.reduceLT, Int.reduceEq, Int.reduceToNat, Int.reducePow, Int.reduceNeg, hcl, hb1, List.length_append, List.length_map, List.length_cons, List.length_nil]
  refine hK _ ?_; clear hK
  refine bwp_seq fun K hK => bwp_region rfl ?_
  simp -implicitDefEqProofs only [go_sem, ↓reduceIte, Nat.reduceEqDiff, Nat.reduceAdd, Nat.reduceLeDiff, Nat.reduceMul, Nat.reduceSub, Int.reduceLE, Int.reduceLT, Int.reduceEq, Int.reduceToNat, Int.reducePow, Int.reduceNeg]
  refine ptake_callK hs' h2.ps [124] rfl rfl ?_
  intro q3 hy hn
  cases hb : tkB q2 [124] with
  | true =>
    have h3 := hy hb
    obtain ⟨f', rfl, hN, hc⟩ := hI.next h1 h2 hlen hb h3
    simp -implicitDefEqProofs only [go_sem, ↓reduceIte, Nat.reduceEqDiff, Nat.reduceAdd, Nat.reduceLeDiff, Nat.reduceMul, Nat.reduceSub, Int.reduceLE, Int.reduceLT, Int.reduceEq, Int.reduceToNat, Int.reducePow, Int.reduceNeg, mset]
    refine hK _ ?_; clear hK
    refine bwp_cond false (by simp [ev, fget]) (fun h => nomatch h) (fun _ => ?_)
    refine bwp_skip ?_
    simp -implicitDefEqProofs only [go_sem, ↓reduceIte, Nat.reduceEqDiff, Nat.reduceAdd, Nat.reduceLeDiff, Nat.reduceMul, Nat.reduceSub, Int.reduceLE, Int.reduceLT, Int.reduceEq, Int.reduceToNat, Int.reducePow, Int.reduceNeg]
    refine ⟨⟨(accs ++ [x :: acc], q3, _, f'), hN⟩, ?_, ?_⟩
    · simp only [hc, if_true]
      split <;> omega
    · refine Leads.ent [(0, 0), (1, 1), (2, 2), (3, 3), (6, 4)] ⟨by simp [entT, fget, AV.ren, renL, pget], ?_, rfl, rfl⟩
      simp only [hsn, List.map_append, hcs]
      simp [entM, pinv, mget, mset, renL, AV.ren, pget, renL_append, -List.map_map, parC, lexQ, lexC, hcr, hsd]
  | false =>
    have hq := hn hb
    subst hq
    have h4 := hI.done h1 h2 hb
    simp -implicitDefEqProofs only [go_sem, ↓reduceIte, Nat.reduceEqDiff, Nat.reduceAdd, Nat.reduceLeDiff, Nat.reduceMul, Nat.reduceSub, Int.reduceLE, Int.reduceLT, Int.reduceEq, Int.reduceToNat, Int.reducePow, Int.reduceNeg, mset]
    refine hK _ ?_; clear hK
    refine bwp_cond true (by simp [ev, fget]) (fun _ => ?_) (fun h => nomatch h)
    refine bwp_seq fun K hK => bwp_region rfl ?_
    simp -implicitDefEqProofs only [go_sem, ↓reduceIte, Nat.reduceEqDiff, Nat.reduceAdd, Nat.reduceLeDiff, Nat.reduceMul, Nat.reduceSub, Int.reduceLE, Int.reduceLT, Int.reduceEq, Int.reduceToNat, Int.reducePow, Int.reduceNeg]
    refine pmust_callK hs' h4.ps [59] rfl rfl ?_
    intro q4 h5
    simp -implicitDefEqProofs only [go_sem, ↓reduceIte, Nat.reduceEqDiff, Nat.reduceAdd, Nat.reduceLeDiff, Nat.reduceMul, Nat.reduceSub, Int.reduceLE, Int.reduceLT, Int.reduceEq, Int.reduceToNat, Int.reducePow, Int.reduceNeg, mset]
    refine hK _ ?_; clear hK
    refine bwp_seq fun K hK => bwp_region rfl ?_
    simp -implicitDefEqProofs only [go_sem, ↓reduceIte, Nat.reduceEqDiff, Nat.reduceAdd, Nat.reduceLeDiff, Nat.reduceMul, Nat.reduceSub, Int.reduceLE, Int.reduceLT, Int.reduceEq, Int.reduceToNat, Int.reducePow, Int.reduceNeg]
    refine hK _ ?_; clear hK
    have hrl : (rowsC (accs ++ [x :: acc])).length = accs.length + 1 := by rw [rowsC_len]; simp
    have hrt : (rowsC (accs ++ [x :: acc])).take (accs.length + 1) = rowsC (accs ++ [x :: acc]) := List.take_of_length_le (by omega)
    have hrd : rowsD (accs ++ [x :: acc]) = .sl (accs.length + 1) (rowsC (accs ++ [x :: acc])) := by simp [rowsD]
    have hlast := hR (accs ++ [x :: acc]) q4 (by simp; omega) (fun l hl => by
      rcases List.mem_append.1 hl with h' | h'
      · exact hI.rows l h'
      · simp only [List.mem_cons, List.not_mem_nil, or_false] at h'
        subst h'
        simp only [List.length_cons]
        omega) (PQ.bind h4 (PQ.bind h5 (PQ.ret h5.ps)))
    rw [hrd] at hlast
    refine bwp_leads (S' := ⟨[(4, .ptr 2 0)], [(0, parC q4), (1, lexQ s q4), (2, [.d (.int .i64 kind), .sl 4 1 0 (accs.length + 1)]), (4, (rowsC (accs ++ [x :: acc])).map .d)], 5⟩) (Leads.ent [(0, 0), (1, 1), (2, 2), (6, 4)] ⟨by simp [entT, fget, AV.ren, renL, pget], ?_, rfl, rfl⟩) ?_
    · rw [hsn, List.map_append, hcs]
      simp [entM, pinv, mget, mset, renL, AV.ren, pget, renL_append, -List.map_map, parC, lexQ, lexC, hcr, hsd]
    generalize rowsC (accs ++ [x :: acc]) = rs at *
    refine bwp_leads (Leads.frz (S' := ⟨[(4, .ptr 2 0)], [(0, parC q4), (1, lexQ s q4), (2, [.d (.int .i64 kind), .d (.sl (accs.length + 1) rs)])], 3⟩) [(0, 0), (1, 1), (2, 2)] [(4, rs)] ⟨?_, ?_, rfl, rfl, ?_⟩) ?_
    · simp [frzT, fget, AV.cv, cvL, zget, pget]
    · simp [frzM, pinv, zget, mget, cvL, AV.cv, parC, lexQ, lexC, pget, hrt]
    · simp [zokFrom, mget, cvL_d]
    refine bwp_ret ?_
    simp -implicitDefEqProofs only [go_sem, ↓reduceIte, Nat.reduceEqDiff, Nat.reduceAdd, Nat.reduceLeDiff, Nat.reduceMul, Nat.reduceSub, Int.reduceLE, Int.reduceLT, Int.reduceEq, Int.reduceToNat, Int.reducePow, Int.reduceNeg]
    exact hlast

set_option maxHeartbeats 16000000 in
theorem pcond_calls {s : List UInt8} (hs : s.length ≤ 4000) {σ : PR Nat} {q : PSt} (h : PS s σ q) (kind : Int) :
    ACalls Tryd.prog 50 [.ptr 0 0, .d (.int .i64 kind)] [(0, parC q), (1, lexQ s q)] fun r m' => ∃ q', m' = [(0, parC q'), (1, lexQ s q')] ∧ ∃ rows : List (List Atom), (rows.length ≤ 4002 ∧ ∀ l ∈ rows, l.length ≤ 4002) ∧ r = .agg [.d (.int .i64 kind), .d (rowsD rows)] ∧ PQ s (thn σ ((tAsk kind).run s)) (kind, rows) q' := by
  have hld : ldk Tryd.prog 52 = some (some 2) := by kernel_rfl
  refine acalls_of Tryd.func50 ac50_ok Tryd.ntmps50 Tryd.results50 rfl ?_
  unfold ac50
  refine bwp_seq fun K hK => bwp_region rfl ?_
  simp -implicitDefEqProofs only [go_sem, ↓reduceIte, Nat.reduceEqDiff, Nat.reduceAdd, Nat.reduceLeDiff, Nat.reduceMul, Nat.reduceSub, Int.reduceLE, Int.reduceLT, Int.reduceEq, Int.reduceToNat, Int.reducePow, Int.reduceNeg]
  refine hK _ ?_; clear hK
  refine bwp_seq fun K hK => bwp_region rfl ?_
  simp -implicitDefEqProofs only [go_sem, ↓reduceIte, Nat.reduceEqDiff, Nat.reduceAdd, Nat.reduceLeDiff, Nat.reduceMul, Nat.reduceSub, Int.reduceLE, Int.reduceLT, Int.reduceEq, Int.reduceToNat, Int.reducePow, Int.reduceNeg]
  refine hK _ ?_; clear hK
  refine bwp_block ?_
  refine bwp_leads (S' := ⟨[(4, .ptr 2 0), (5, .ptr 3 0), (0, .ptr 0 0)], [(0, parC q), (1, lexQ s q), (2, [.d (.int .i64 0), .d .nsl]), (3, [.d (.int .i64 kind), .d .nsl])], 4⟩) (Leads.ent [(0, 0), (1, 1), (2, 2), (3, 3)] ⟨by simp [entT, fget, AV.ren, renL, pget, parC, lexQ, lexC], by simp [entM, pinv, mget, mset, renL, AV.ren, pget, renL_append, -List.map_map, parC, lexQ, lexC], rfl, rfl⟩) ?_
  refine bwp_leads (Leads.nilCell 3 1 1 rfl rfl rfl rfl) ?_
  refine bwp_leads (S' := ocS s kind [] q) (Leads.ent [(0, 0), (1, 1), (2, 2), (3, 3), (4, 4)] ⟨by simp [entT, fget, AV.ren, renL, pget, ocS, parC, lexQ, lexC, rowsC], by simp [entM, pinv, mget, mset, renL, AV.ren, pget, renL_append, -List.map_map, ocS, parC, lexQ, lexC, rowsC], rfl, rfl⟩) ?_
  refine pco_loop1 hs h ?_
  intro rows q' h1 h2 h3
  simp -implicitDefEqProofs only [go_sem, ↓reduceIte, Nat.reduceEqDiff, Nat.reduceAdd, Nat.reduceLeDiff, Nat.reduceMul, Nat.reduceSub, Int.reduceLE, Int.reduceLT, Int.reduceEq, Int.reduceToNat, Int.reducePow, Int.reduceNeg]
  refine aend_mem (.agg [.d (.int .i64 kind), .d (rowsD rows)]) [(0, 0), (1, 1)] [(0, parC q'), (1, lexQ s q')] ?_ rfl rfl ?_ ⟨q', rfl, rows, ⟨h1, h2⟩, rfl, h3⟩
  · simp [resA, resVs, resV, fget, mget, mset, loadA, hld]
  · simp [entM, pinv, mget, mset, renL, AV.ren, parC, lexQ, lexC, pget]

end Go.Proofs.YtpfbljkfbjjlkaaDoor

/- The document's reader, gone through: its small methods. -/
namespace Go.Proofs.YtpfbljkfbjjlkaaDoor
open Go Go.Jq
set_option maxRecDepth 100000
set_option linter.unusedSimpArgs false

/-- A reader: where it is, the last token looked at, where that ends, the first error. -/
structure RSt where
  pos : Nat
  tok : Tok
  to : Nat
  code : Int
  eat : Nat

/-- How a reader stands: the next token may not have been looked at. -/
def RS (s : List UInt8) (σ : PR Nat) (r : RSt) : Prop :=
  (r.code = 0 ∧ r.pos ≤ s.length ∧ σ = goW s r.pos) ∨ ∃ e, σ = .error e ∧ r.code = e.1 ∧ e.1 ≠ 0 ∧ r.eat = e.2

/-- Behind a look. -/
def RL (s : List UInt8) : PR Nat → RSt → Prop
  | .ok a, r => r.code = 0 ∧ r.pos = a ∧ a ≤ s.length ∧ (nextW s a).2.2 = 0 ∧ r.tok = curT s a ∧ r.to = (nextW s a).2.1
  | .error e, r => r.code = e.1 ∧ e.1 ≠ 0 ∧ r.eat = e.2

theorem RL.rs {s : List UInt8} {σ : PR Nat} {r : RSt} (h : RL s σ r) : RS s σ r := by
  cases σ with
  | ok a =>
    obtain ⟨h1, rfl, h3, h4, _⟩ := h
    exact .inl ⟨h1, h3, by unfold goW; rw [if_pos h4]⟩
  | error e => exact .inr ⟨e, rfl, h⟩

theorem RL.code {s : List UInt8} {a : Nat} {r : RSt} (h : RL s (.ok a) r) : r.code = 0 := h.1
theorem RL.codeE {s : List UInt8} {e : PE} {r : RSt} (h : RL s (.error e) r) : r.code ≠ 0 := by rw [h.1]; exact h.2.1

def RQ {α : Type} (s : List UInt8) : PR (α × Nat) → α → RSt → Prop
  | .ok (y, b), x, r => y = x ∧ RS s (.ok b) r
  | .error e, _, r => RS s (.error e) r

theorem RQ.rs {α : Type} {s : List UInt8} {τ : PR (α × Nat)} {x : α} {r : RSt} (h : RQ s τ x r) : RS s (posR τ) r := by
  cases τ with
  | ok p => exact h.2
  | error e => exact h

theorem RQ.bind {α β : Type} {s : List UInt8} {σ : PR Nat} {t : PT α} {f : α → PT β} {x : α} {y : β} {q q' : RSt} (h : RQ s (thn σ (t.run s)) x q) (h' : RQ s (thn (posR (thn σ (t.run s))) ((f x).run s)) y q') :
    RQ s (thn σ ((t.bind f).run s)) y q' := by
  cases σ with
  | error e => exact h'
  | ok a =>
    simp only [thn] at h h' ⊢
    rw [PT.run_bind]
    cases ht : t.run s a with
    | error e => rw [ht] at h'; exact h'
    | ok p =>
      obtain ⟨x', b⟩ := p
      rw [ht] at h h'
      obtain ⟨rfl, _⟩ := h
      exact h'

theorem RQ.ret {α : Type} {s : List UInt8} {σ : PR Nat} {x : α} {q : RSt} (h : RS s σ q) : RQ s (thn σ ((PT.ret x).run s)) x q := by
  cases σ with
  | error e => exact h
  | ok a => exact ⟨rfl, h⟩

theorem RQ.cur {α : Type} {s : List UInt8} {σ : PR Nat} {k : Int → List UInt8 → PT α} {y : α} {q q' : RSt} (h : RL s σ q) (h' : RQ s (thn σ ((k q.tok.kd q.tok.tx).run s)) y q') : RQ s (thn σ ((PT.cur k).run s)) y q' := by
  cases σ with
  | error e => exact h'
  | ok a =>
    rw [h.2.2.2.2.1] at h'
    exact h'

theorem RQ.eat {α : Type} {s : List UInt8} {σ : PR Nat} {k : PT α} {y : α} {q' : RSt} (h' : RQ s (thn (thn σ (eatW s)) (k.run s)) y q') : RQ s (thn σ ((PT.eat k).run s)) y q' := by
  cases σ with
  | error e => exact h'
  | ok a =>
    simp only [thn] at h' ⊢
    simp only [PT.run]
    cases he : eatW s a with
    | error e => rw [he] at h'; exact h'
    | ok b => rw [he] at h'; exact h'

def failR (q : RSt) (c : Int) : RSt := if q.code = 0 then { q with code := c, eat := q.tok.pl } else q

theorem RL.fail {s : List UInt8} {σ : PR Nat} {q : RSt} (h : RL s σ q) {c : Int} (hc : c ≠ 0) {α : Type} : RL s (posR (thn σ ((PT.bad c : PT α).run s))) (failR q c) := by
  cases σ with
  | error e =>
    have : failR q c = q := by unfold failR; rw [if_neg h.codeE]
    rw [this]
    exact h
  | ok a =>
    have : failR q c = { q with code := c, eat := q.tok.pl } := by unfold failR; rw [if_pos h.code]
    rw [this]
    exact ⟨rfl, hc, by simp only [h.2.2.2.2.1]⟩

theorem RQ.bad {α : Type} {s : List UInt8} {σ : PR Nat} {q : RSt} (h : RL s σ q) {c : Int} (hc : c ≠ 0) (y : α) : RQ s (thn σ ((PT.bad c : PT α).run s)) y (failR q c) := by
  have := (h.fail hc (α := α)).rs
  cases σ with
  | error e => exact this
  | ok a => exact this

theorem RQ.past_bad {α γ : Type} {s : List UInt8} {τ : PR Nat} {c : Int} {f : Nat → PR (γ × Nat)} {y : γ} {q' : RSt} (h : RQ s (thn (posR (thn τ ((PT.bad c : PT α).run s))) f) y q') : RQ s (thn τ ((PT.bad c : PT γ).run s)) y q' := by
  cases τ with
  | error e => exact h
  | ok a => exact h

/-- Whether a sign, or a word, stands there. -/
def ikB (q : RSt) (x : List UInt8) : Bool := decide (q.code = 0) && isK q.tok.kd q.tok.tx x

/-- Behind the token. -/
def goR (r : RSt) : RSt := { r with pos := r.to }

theorem RL.go {s : List UInt8} {a : Nat} {r : RSt} (h : RL s (.ok a) r) : RS s (eatW s a) (goR r) := by
  obtain ⟨h1, h2, h3, h4, h5, h6⟩ := h
  refine .inl ⟨h1, ?_, ?_⟩
  · show r.to ≤ s.length
    rw [h6]; exact (nextW_to h3).2.1
  · show eatW s a = goW s r.to
    rw [h6]; rfl

theorem ikB_ok {s : List UInt8} {σ : PR Nat} {q : RSt} {x : List UInt8} (h : RL s σ q) (hb : ikB q x = true) : ∃ a, σ = .ok a ∧ (curT s a).kd ≠ 4 ∧ q.code = 0 := by
  unfold ikB at hb
  simp only [Bool.and_eq_true, decide_eq_true_eq] at hb
  cases σ with
  | error e => exact absurd hb.1 h.codeE
  | ok a =>
    refine ⟨a, rfl, ?_, hb.1⟩
    rw [← h.2.2.2.2.1]
    exact isK_kd hb.2

theorem RQ.take_yes {α : Type} {s : List UInt8} {σ : PR Nat} {q q' : RSt} {x : List UInt8} {yes no : PT α} {y : α} (h : RL s σ q) (hb : ikB q x = true) (h' : RQ s (thn (thn σ (eatW s)) (yes.run s)) y q') : RQ s (thn σ ((tTake x yes no).run s)) y q' := by
  unfold ikB at hb
  simp only [Bool.and_eq_true] at hb
  refine RQ.cur h ?_
  rw [if_pos hb.2]
  exact RQ.eat h'

theorem RQ.take_no {α : Type} {s : List UInt8} {σ : PR Nat} {q q' : RSt} {x : List UInt8} {yes no : PT α} {y : α} (h : RL s σ q) (hb : ikB q x = false) (h' : RQ s (thn σ (no.run s)) y q') : RQ s (thn σ ((tTake x yes no).run s)) y q' := by
  cases σ with
  | error e => exact h'
  | ok a =>
    refine RQ.cur h ?_
    have hk : isK q.tok.kd q.tok.tx x = false := by simpa [ikB, h.code] using hb
    rw [if_neg (by rw [hk]; decide)]
    exact h'

end Go.Proofs.YtpfbljkfbjjlkaaDoor

/- The abstract layer: a region that draws its order, gone through in every order. -/
namespace Go.Jq
open Go

/-- One operation, its guard looked at. -/
def stepG (P : Program) (o : AOper) (S : St) (K : St → Prop) : Prop :=
  match o.guard with
  | none => stepOp P o S K
  | some (g, want) => match fget S.t g with
    | .d (.bool b) => if b = want then stepOp P o S K else K ⟨putF S.t o.dst (.tup []), S.m, S.n⟩
    | .tup _ => K ⟨putF S.t o.dst (.tup []), S.m, S.n⟩
    | _ => False

def readyM (ms : List Nat) (L : Nat) : List Nat := (List.range ms.length).filter fun i => !L.testBit i && (ms.getD i 0 &&& L == ms.getD i 0)

def runAny (P : Program) (al : List AOper) (ms : List Nat) (K : St → Prop) : Nat → Nat → St → Prop
  | 0, L, S => readyM ms L = [] ∧ K S
  | f + 1, L, S => (readyM ms L = [] → K S) ∧ ∀ i ∈ readyM ms L, match al[i]? with
    | some ao => stepG P ao S (runAny P al ms K f (L ||| 2 ^ i))
    | none => False

theorem mask_bit (i : Nat) : ∀ (l : List Edge) (s : Nat), (s.testBit i = true ∨ ∃ e ∈ l, Region.binds .any e = true ∧ e.on = i) → (l.foldl (fun s e => if Region.binds .any e then s ||| 2 ^ e.on else s) s).testBit i = true
  | [], s, h => by
    rcases h with h | ⟨e, he, _⟩
    · exact h
    · cases he
  | e :: l, s, h => by
    simp only [List.foldl_cons]
    refine mask_bit i l _ ?_
    rcases h with h | ⟨e', he', h1, h2⟩
    · left
      split
      · rw [Nat.testBit_or, h]; rfl
      · exact h
    · rcases List.mem_cons.1 he' with rfl | he'
      · left
        rw [if_pos h1, Nat.testBit_or, h2, Nat.testBit_two_pow_self, Bool.or_true]
      · exact .inr ⟨e', he', h1, h2⟩

theorem and_eq_iff (m L : Nat) : (m &&& L == m) = true ↔ ∀ b, m.testBit b = true → L.testBit b = true := by
  rw [beq_iff_eq]
  constructor
  · intro h b hb
    rw [← h, Nat.testBit_and, Bool.and_eq_true] at hb
    exact hb.2
  · intro h
    apply Nat.eq_of_testBit_eq
    intro b
    rw [Nat.testBit_and]
    cases hb : m.testBit b with
    | false => rfl
    | true => rw [h b hb]; rfl

section
variable {P : Program} {k : Nat} {ops : Array Oper}

theorem ready_iff {listed : Array Bool} {L : Nat} (hsz : listed.size = ops.size) (hL : ∀ i, L.testBit i = listed.getD i false) (i : Nat) : i ∈ readyM (masksOf ops) L ↔ i ∈ Region.ready .any ops listed := by
  rw [mem_ready]
  unfold readyM
  rw [List.mem_filter, List.mem_range, Bool.and_eq_true, Bool.not_eq_true', and_eq_iff]
  have hlen : (masksOf ops).length = ops.size := by simp [masksOf]
  rw [hlen]
  constructor
  · rintro ⟨h1, h2, h3⟩
    have hi : i < listed.size := by omega
    refine ⟨?_, ops[i], by simp [h1], fun e he hb => ?_⟩
    · have := hL i
      rw [h2] at this
      simp [hi] at this ⊢
      exact this
    · rw [← hL]
      refine h3 _ ?_
      have : (masksOf ops).getD i 0 = (ops[i]).after.toList.foldl (fun s e => if Region.binds .any e then s ||| 2 ^ e.on else s) 0 := by
        simp [masksOf, h1]
      rw [this]
      exact mask_bit _ _ _ (.inr ⟨e, by simpa using he, hb, rfl⟩)
  · rintro ⟨h1, o, ho, h3⟩
    have hi : i < ops.size := (Array.getElem?_eq_some_iff.1 ho).1
    have hi' : i < listed.size := by omega
    refine ⟨hi, ?_, fun b hb => ?_⟩
    · rw [hL]
      simp [hi'] at h1 ⊢
      exact h1
    · have : (masksOf ops).getD i 0 = o.after.toList.foldl (fun s e => if Region.binds .any e then s ||| 2 ^ e.on else s) 0 := by
        have e : ops[i] = o := (Array.getElem?_eq_some_iff.1 ho).2
        simp [masksOf, hi, e]
      rw [this] at hb
      rcases mask_spec b _ _ hb with h | ⟨e, he, h4, h5⟩
      · simp at h
      · rw [hL, ← h5]
        exact h3 e (by simpa using he) h4

theorem ready_nil {listed : Array Bool} {L : Nat} (hsz : listed.size = ops.size) (hL : ∀ i, L.testBit i = listed.getD i false) : Region.ready .any ops listed = [] → readyM (masksOf ops) L = [] := by
  intro h
  rw [List.eq_nil_iff_forall_not_mem]
  intro i hi
  rw [ready_iff hsz hL, h] at hi
  cases hi

theorem runAny_sound {E : Env} {al : List AOper} {Q : Exit → Act → World → Prop} {K : St → Prop} (hc : cOpers P ops k ops.toList = some al) (hK : ∀ S' a' w', K S' → Conc E k S' a' w' → Q .normal a' w') :
    ∀ (fuel L : Nat) (listed : Array Bool) (S : St) (a : Act) (w : World), listed.size = ops.size → (∀ i, L.testBit i = listed.getD i false) → E.n ≤ S.n → Conc E k S a w → runAny P al (masksOf ops) K fuel L S →
      wpAny P .any ops Q fuel listed a w
  | 0, L, listed, S, a, w, hsz, hL, _, hcc, h => ⟨by
      rw [List.eq_nil_iff_forall_not_mem]
      intro i hi
      rw [← ready_iff hsz hL, h.1] at hi
      exact absurd hi (List.not_mem_nil), hK _ _ _ h.2 hcc⟩
  | fuel + 1, L, listed, S, a, w, hsz, hL, hn, hcc, h => by
    refine ⟨fun h0 => hK _ _ _ (h.1 (ready_nil hsz hL h0)) hcc, fun i hi => ?_⟩
    have h1 := h.2 i ((ready_iff hsz hL i).2 hi)
    obtain ⟨_, o, ho, _⟩ := mem_ready.1 hi
    have hco : ∃ ao, al[i]? = some ao ∧ cOper P ops k o = some ao := by
      have key : ∀ (l : List Oper) (al : List AOper), cOpers P ops k l = some al → ∀ (i : Nat) (o : Oper), l[i]? = some o → ∃ ao, al[i]? = some ao ∧ cOper P ops k o = some ao := by
        intro l
        induction l with
        | nil => intro al _ i o ho; simp at ho
        | cons x l ih =>
          intro al hc i o ho
          simp only [cOpers] at hc
          split at hc
          · rename_i ao r' e1 e2
            cases hc
            cases i with
            | zero => simp at ho; subst ho; exact ⟨ao, rfl, e1⟩
            | succ i => exact ih r' e2 i o (by simpa using ho)
          · cases hc
      exact key _ _ hc i o (by rw [Array.getElem?_toList]; exact ho)
    obtain ⟨ao, hao, hco⟩ := hco
    rw [hao] at h1
    simp only at h1
    have hsz' : (listed.setIfInBounds i true).size = ops.size := by simp [hsz]
    have hi' : i < listed.size := by rw [hsz]; exact (Array.getElem?_eq_some_iff.1 ho).1
    have hL' : ∀ j, (L ||| 2 ^ i).testBit j = (listed.setIfInBounds i true).getD j false := by
      intro j
      rw [Nat.testBit_or, Nat.testBit_two_pow]
      by_cases hij : i = j
      · subst hij
        simp [hi']
      · rw [getD_set_ne false hij, ← hL j]
        simp [hij]
    have next : ∀ S' a' w', runAny P al (masksOf ops) K fuel (L ||| 2 ^ i) S' → Conc E k S' a' w' → S.n ≤ S'.n → wpAny P .any ops Q fuel (listed.setIfInBounds i true) a' w' :=
      fun S' a' w' hs hc' hle => runAny_sound hc hK fuel _ _ S' a' w' hsz' hL' (Nat.le_trans hn hle) hc' hs
    obtain ⟨hg, hd, hdk⟩ := cOper_guard hco
    unfold wpOp
    simp only [ho]
    unfold stepG at h1
    split at h1
    · rename_i hgn
      rw [hgn] at hg
      rw [if_pos (guard_none hg _)]
      exact .inl (wp_step hco hn next hcc h1)
    · rename_i g want hgs
      rw [hgs] at hg
      split at h1
      · rename_i b hb
        obtain ⟨c, hcr, hp⟩ := id hcc
        have hw := guard_wanted hg hcr.fr hb
        split at h1
        · rename_i hbw
          rw [hw, if_pos (by simpa using hbw)]
          exact .inl (wp_step hco hn next hcc h1)
        · rename_i hbw
          rw [hw, if_neg (by simpa using hbw)]
          refine next ⟨putF S.t ao.dst (.tup []), S.m, S.n⟩ _ _ h1 ?_ (Nat.le_refl _)
          rw [hd]
          exact conc_put hcr hp hn hdk (.inl (rel_undef _ _)) hcr.mr (Step.refl _ _ _) (fun _ h => .inl h) (fun _ _ => rfl) (fun _ _ h => h) hcr.free rfl
      · rename_i cs hb
        obtain ⟨c, hcr, hp⟩ := hcc
        have hw := guard_tup hg hcr.fr hb
        rw [hw, if_neg (by simp)]
        refine next ⟨putF S.t ao.dst (.tup []), S.m, S.n⟩ _ _ h1 ?_ (Nat.le_refl _)
        rw [hd]
        exact conc_put hcr hp hn hdk (.inl (rel_undef _ _)) hcr.mr (Step.refl _ _ _) (fun _ h => .inl h) (fun _ _ => rfl) (fun _ _ h => h) hcr.free rfl
      · exact h1.elim

theorem awp_region_any {n0 : Nat} {S : St} {Q : Exit → St → Prop} {id : Nat} {al : List AOper} (hm : P.follows .mixedOrders = true) (hc : cOpers P ops k ops.toList = some al) (hn : n0 ≤ S.n)
    (h : runAny P al (masksOf ops) (fun S' => Q .normal S') (masksOf ops).length 0 S) : AWP P n0 k (.region id ops true) S Q := by
  intro E hE a w hcc
  refine wp_region_any hm ?_
  have hconc : Conc E k S a { w with drawn := w.drawn + 1 } := conc_drew hcc rfl rfl rfl rfl
  have hlen : (masksOf ops).length = ops.size := by simp [masksOf]
  rw [hlen] at h
  refine runAny_sound hc (K := fun S' => Q .normal S') (fun S' a' w' h1 h2 => ⟨S', h1, h2⟩) ops.size 0 _ S a _ (by simp) (fun i => ?_) (hE ▸ hn) hconc h
  rw [Nat.zero_testBit, Array.getD_eq_getD_getElem?]
  by_cases hi : i < ops.size
  · simp [hi]
  · rw [Array.getElem?_eq_none (by simpa using Nat.le_of_not_lt hi)]
    rfl

theorem bwp_region_any {n0 : Nat} {S : St} {Q : Exit → St → Prop} {al : List AOper} {ms : List Nat} (hm : P.follows .mixedOrders = true) (hn : decide (n0 ≤ S.n) = true) (h : runAny P al ms (fun S' => Q .normal S') ms.length 0 S) :
    BWP P n0 k (.region true al ms) S Q := by
  intro code hc
  cases code with
  | region id ops draw =>
    simp only [cCode] at hc
    split at hc
    · rename_i al' hal
      split at hc
      · rename_i hd
        split at hc
        · cases hc
          subst hd
          exact awp_region_any hm hal (of_decide_eq_true hn) h
        · cases hc
      · cases hc
    · cases hc
  | cond c a b => simp only [cCode] at hc; repeat' split at hc
                  all_goals cases hc
  | seq a b => simp only [cCode] at hc; repeat' split at hc
               all_goals cases hc
  | _ => simp [cCode] at hc

/-! ### Going through -/

theorem runAny_step {al : List AOper} {ms : List Nat} {K : St → Prop} {f L : Nat} {S : St} (l : List Nat) (hl : readyM ms L = l) (hne : l ≠ []) (h : ∀ i ∈ l, match al[i]? with
    | some ao => stepG P ao S (runAny P al ms K f (L ||| 2 ^ i))
    | none => False) : runAny P al ms K (f + 1) L S := by
  subst hl
  exact ⟨fun h0 => absurd h0 hne, h⟩

theorem runAny_done {al : List AOper} {ms : List Nat} {K : St → Prop} {f L : Nat} {S : St} (hl : readyM ms L = []) (h : K S) : runAny P al ms K f L S := by
  cases f with
  | zero => exact ⟨hl, h⟩
  | succ f => exact ⟨fun _ => h, fun i hi => by rw [hl] at hi; cases hi⟩

theorem stepG_run {o : AOper} {S : St} {K : St → Prop} (h : runOps P [o] S K) : stepG P o S K := by
  unfold stepG
  simp only [runOps] at h
  exact h

/-- One operation may come up now. -/
theorem runAny_one {al : List AOper} {ms : List Nat} {K : St → Prop} {f L i : Nat} {S : St} {ao : AOper} (hl : readyM ms L = [i]) (ha : al[i]? = some ao) (h : runOps P [ao] S (runAny P al ms K f (L ||| 2 ^ i))) : runAny P al ms K (f + 1) L S := by
  refine runAny_step [i] hl (by simp) ?_
  intro j hj
  simp only [List.mem_cons, List.not_mem_nil, or_false] at hj
  subst hj
  rw [ha]
  exact stepG_run h

/-- One of two. -/
theorem runAny_two {al : List AOper} {ms : List Nat} {K : St → Prop} {f L i j : Nat} {S : St} {ao bo : AOper} (hl : readyM ms L = [i, j]) (ha : al[i]? = some ao) (hb : al[j]? = some bo)
    (h : runOps P [ao] S (runAny P al ms K f (L ||| 2 ^ i))) (h' : runOps P [bo] S (runAny P al ms K f (L ||| 2 ^ j))) : runAny P al ms K (f + 1) L S := by
  refine runAny_step [i, j] hl (by simp) ?_
  intro k hk
  simp only [List.mem_cons, List.not_mem_nil, or_false] at hk
  rcases hk with rfl | rfl
  · rw [ha]; exact stepG_run h
  · rw [hb]; exact stepG_run h'

end
end Go.Jq

/- The document's reader: look, is, go1, fail, eat. -/
namespace Go.Proofs.YtpfbljkfbjjlkaaDoor
open Go Go.Jq
set_option maxRecDepth 100000
set_option linter.unusedSimpArgs false

end Go.Proofs.YtpfbljkfbjjlkaaDoor

/- The document's reader: words, numbers, names, operands. -/
namespace Go.Proofs.YtpfbljkfbjjlkaaDoor
open Go Go.Jq
set_option maxRecDepth 100000
set_option linter.unusedSimpArgs false

theorem RL.pos {s : List UInt8} {σ : PR Nat} {r : RSt} (h : RL s σ r) (hc : r.code = 0) : (r.tok.kd = 1 → r.tok.tx ≠ []) ∧ r.tok.tx.length ≤ s.length ∧ (r.tok.kd = 2 → (refW r.tok.tx).1 = (parseW r.tok.tx).1) := by
  cases σ with
  | error e => exact absurd hc h.codeE
  | ok a =>
    obtain ⟨h1, h2, h3, h4, h5, h6⟩ := h
    have hp := curT_pos h3 h4
    rw [h5]
    refine ⟨hp.1, hp.2, fun hk => ?_⟩
    have hok : (parseW (curT s a).tx).2 = true := by
      have h0 : (nextW s a).2.2 = 0 := h4
      unfold curT nextW at *
      generalize s.drop (skipA s a) = l at *
      cases l with
      | nil => simp [tokAt] at hk
      | cons c r =>
        rw [tokAt] at hk h0 ⊢
        split
        · rename_i hc'
          rw [if_pos hc'] at hk
          simp at hk
        · rename_i hc'
          rw [if_neg hc'] at hk h0
          split
          · rename_i hd
            rw [if_pos hd] at hk h0
            split
            · rename_i hpw; exact hpw
            · rename_i hpw
              rw [if_neg hpw] at h0
              simp at h0
          · rename_i hd
            rw [if_neg hd] at hk h0
            split
            · rename_i hs
              rw [if_pos hs] at h0
              simp at h0
            · rename_i hs
              rw [if_neg hs] at hk
              simp at hk
    have := numW_eq (curT s a).tx
    unfold numW at this
    cases hr : (refW (curT s a).tx).2 with
    | true => rw [if_pos hr] at this; rw [this]
    | false =>
      rw [if_neg (by rw [hr]; decide)] at this
      rw [← this] at hok
      cases hok

end Go.Proofs.YtpfbljkfbjjlkaaDoor

/- The document's reader: instructions. -/
namespace Go.Proofs.YtpfbljkfbjjlkaaDoor
open Go Go.Jq
set_option maxRecDepth 100000
set_option linter.unusedSimpArgs false

def z9 : List AV := [.d (.int .i64 0), .d (.int .i64 0), .d (.int .i64 0), .d (.int .i64 0), .d (.int .i64 0), .d (.int .i64 0), .d (.int .i64 0), .d (.int .i64 0), .d (.int .i64 0)]

theorem RL.take {α : Type} {s : List UInt8} {σ : PR Nat} {q : RSt} {x : List UInt8} {yes no : PT α} {y : α} {q' : RSt} (h : RL s σ q) (hb : ikB q x = true) (h' : RQ s (thn (thn σ (eatW s)) (yes.run s)) y q') : RQ s (thn σ ((tTake x yes no).run s)) y q' := RQ.take_yes h hb h'

end Go.Proofs.YtpfbljkfbjjlkaaDoor

/- The document's reader: atoms. -/
namespace Go.Proofs.YtpfbljkfbjjlkaaDoor
open Go Go.Jq
set_option maxRecDepth 100000
set_option linter.unusedSimpArgs false

theorem RQ.bind_stop {α β : Type} {s : List UInt8} {σ : PR Nat} {t : PT α} {f : α → PT β} {y : β} {q' : RSt} (h : RL s (posR (thn σ (t.run s))) q') (he : q'.code ≠ 0) : RQ s (thn σ ((t.bind f).run s)) y q' := by
  cases σ with
  | error e => exact h.rs
  | ok a =>
    simp only [thn] at h ⊢
    rw [PT.run_bind]
    cases ht : t.run s a with
    | error e => rw [ht] at h; exact h.rs
    | ok p =>
      rw [ht] at h
      exact absurd h.code he

def z4 : List AV := [.d (.int .i64 0), .d (.int .i64 0), .d (.int .i64 0), .d (.int .i64 0)]

end Go.Proofs.YtpfbljkfbjjlkaaDoor

/- The document's reader once it has an error: nothing changes. -/
namespace Go.Proofs.YtpfbljkfbjjlkaaDoor
open Go Go.Jq
set_option maxRecDepth 100000
set_option linter.unusedSimpArgs false

section
variable {s : List UInt8} {r : RSt} (hc : ¬ r.code = 0)
include hc

end

end Go.Proofs.YtpfbljkfbjjlkaaDoor

/- The parser's threads. -/
namespace Go.Proofs.YtpfbljkfbjjlkaaDoor
open Go Go.Jq
set_option maxRecDepth 100000
set_option linter.unusedSimpArgs false

/-- How far the loop over threads is. -/
structure TI (s : List UInt8) (σ0 : PR Nat) (f0 : Nat) (acc : List (List Ins)) (q : PSt) (σ : PR Nat) (f : Nat) : Prop where
  ps : PS s σ q
  to : ∀ l qf, PQ s (thn σ ((tThreads f).run s)) l qf → PQ s (thn σ0 ((tThreads f0).run s)) (acc ++ l) qf
  fuel : ∀ a, σ = .ok a → s.length - a < f
  len : acc.length + f ≤ f0 ∨ (∃ e, σ = .error e) ∧ acc.length ≤ f0
  rows : ∀ l ∈ acc, l.length ≤ 4001

theorem TI.next {s : List UInt8} {σ0 : PR Nat} {f0 : Nat} {acc : List (List Ins)} {q : PSt} {σ : PR Nat} {f : Nat} (h : TI s σ0 f0 acc q σ f) (hb : tkB q wThread = true) {x : List Ins} (hx : x.length ≤ 4001) {q' : PSt} (hq : PQ s (thn (thn σ (eatW s)) (tThread.run s)) x q') :
    ∃ f', f = f' + 1 ∧ TI s σ0 f0 (acc ++ [x]) q' (posR (thn (thn σ (eatW s)) (tThread.run s))) f' := by
  obtain ⟨a, rfl, h4⟩ := tkB_ok h.ps hb
  have hf := h.fuel a rfl
  obtain ⟨f', rfl⟩ : ∃ f', f = f' + 1 := ⟨f - 1, by omega⟩
  refine ⟨f', rfl, ⟨hq.ps, fun l qf hl => ?_, fun b hb' => ?_, ?_, fun l hl => ?_⟩⟩
  · have : PQ s (thn (.ok a) ((tThreads (f' + 1)).run s)) (x :: l) qf := PQ.take_yes h.ps hb (PQ.bind hq (PQ.bind hl (PQ.ret hl.ps)))
    have := h.to _ _ this
    simpa using this
  · obtain ⟨y, hy⟩ := posR_ok hb'
    obtain ⟨c, hc, hy'⟩ := thn_ok hy
    have h1 := eatW_lt h.ps.1 h.ps.2.1 h4 hc
    have h2 := tThread.run_le h1.2 hy'
    omega
  · rcases h.len with hl | ⟨⟨e, he⟩, _⟩
    · left
      simp only [List.length_append, List.length_cons, List.length_nil]
      omega
    · cases he
  · rcases List.mem_append.1 hl with h' | h'
    · exact h.rows l h'
    · simp only [List.mem_cons, List.not_mem_nil, or_false] at h'
      subst h'
      exact hx

theorem TI.done {s : List UInt8} {σ0 : PR Nat} {f0 : Nat} {acc : List (List Ins)} {q : PSt} {σ : PR Nat} {f : Nat} (h : TI s σ0 f0 acc q σ f) (hb : tkB q wThread = false) : PQ s (thn σ0 ((tThreads f0).run s)) acc q := by
  have : PQ s (thn σ ((tThreads f).run s)) [] q := by
    cases σ with
    | error e => exact h.ps
    | ok a =>
      have hf := h.fuel a rfl
      obtain ⟨f', rfl⟩ : ∃ f', f = f' + 1 := ⟨f - 1, by omega⟩
      exact PQ.take_no h.ps hb (PQ.ret h.ps)
  have := h.to _ _ this
  simpa using this

theorem TI.start {s : List UInt8} {σ : PR Nat} {q : PSt} (hs : s.length ≤ 4000) (h : PS s σ q) : TI s σ fuelP [] q σ fuelP :=
  ⟨h, fun l qf hl => hl, fun a _ => by unfold fuelP; omega, .inl (by simp), fun l hl => by cases hl⟩

theorem TI.short {s : List UInt8} {σ0 σ : PR Nat} {acc : List (List Ins)} {q : PSt} {f : Nat} (h : TI s σ0 fuelP acc q σ f) : acc.length ≤ 4001 := by
  rcases h.len with h | h
  · unfold fuelP at h; omega
  · exact h.2

def thrC (ts : List (List Ins)) : List DV := ts.map (slD Ins.cells)
theorem thrC_len (ts : List (List Ins)) : (thrC ts).length = ts.length := by simp [thrC]
theorem thrC_snoc (ts : List (List Ins)) (l : List Ins) : thrC (ts ++ [l]) = thrC ts ++ [slD Ins.cells l] := by simp [thrC]
def thrD (ts : List (List Ins)) : DV := .sl ts.length (thrC ts)

def ptS (s : List UInt8) (nm : List UInt8) (I : DV) (ts : List (List Ins)) (q : PSt) : St :=
  ⟨[(5, .ptr 0 0), (6, .ptr 2 0), (2, .ptr 4 0), (3, .ptr 5 0)], [(0, parC q), (1, lexQ s q), (2, [.d (.str nm), .d I, .sl 3 1 0 ts.length, .d (.int .i64 0), .d (.sl 0 [])]), (3, (thrC ts).map .d), (4, [.d (.str []), .d .nsl, .d .nsl, .d (.int .i64 0), .d .nsl]), (5, [.d (.int .i64 0), .d (.int .i64 0)])], 6⟩

set_option maxHeartbeats 32000000 in
theorem ppa_loop {s : List UInt8} (hs : s.length ≤ 4000) {nm : List UInt8} {I : DV} {σ0 : PR Nat} {q0 : PSt} (h0 : PS s σ0 q0) {Q : Exit → St → Prop}
    (hQ : ∀ acc q', acc.length ≤ 4001 → (∀ l ∈ acc, l.length ≤ 4001) → PQ s (thn σ0 ((tThreads fuelP).run s)) acc q' → Q (.exit 0) (ptS s nm I acc q')) :
    BWP Tryd.prog (mbound []) 77 (.loop ac25L0) (ptS s nm I [] q0) Q := by
  have hs' : s.length ≤ 140737488351232 := by omega
  refine bwp_fam (ι := { p : List (List Ins) × PSt × PR Nat × Nat // TI s σ0 fuelP p.1 p.2.1 p.2.2.1 p.2.2.2 }) (fun p => ptS s nm I p.1.1 p.1.2.1) (fun p => if p.1.2.1.code = 0 then p.1.2.2.2 + 1 else 0) ⟨([], q0, σ0, fuelP), TI.start hs h0⟩ ?_
  rintro ⟨⟨acc, q, σ, f⟩, hI⟩
  simp only at hI ⊢
  unfold ac25L0 ptS
  have hshort := hI.short
  have hcl : ((thrC acc).map AV.d).length = acc.length := by rw [List.length_map, thrC_len]
  have hcr : ∀ π, renL π ((thrC acc).map AV.d) = (thrC acc).map .d := fun π => renL_d _ _
  have hb1 : (acc.length + 1) * 24 ≤ 140737488351232 := by omega
  generalize hcs : (thrC acc).map AV.d = cs at *
  refine bwp_seq fun K1 hK1 => ?_
  refine bwp_seq fun K hK => bwp_region rfl ?_
  simp -implicitDefEqProofs only [go_sem, ↓reduceIte, Nat.reduceEqDiff, Nat.reduceAdd, Nat.reduceLeDiff, Nat.reduceMul, Nat.reduceSub, Int.reduceLE, Int.reduceLT, Int.reduceEq, Int.reduceToNat, Int.reducePow, Int.reduceNeg]
  refine ptake_callK hs' hI.ps wThread rfl rfl ?_
  intro q1 hy hn
  cases hb : tkB q wThread with
  | false =>
    have hq1 := hn hb
    subst hq1
    simp -implicitDefEqProofs only [go_sem, ↓reduceIte, Nat.reduceEqDiff, Nat.reduceAdd, Nat.reduceLeDiff, Nat.reduceMul, Nat.reduceSub, Int.reduceLE, Int.reduceLT, Int.reduceEq, Int.reduceToNat, Int.reducePow, Int.reduceNeg, mset]
    refine hK _ ?_; clear hK
    refine bwp_cond false (by simp [ev, fget]) (fun h => nomatch h) (fun _ => ?_)
    refine bwp_leads (S' := ptS s nm I acc q1) (Leads.ent [(0, 0), (1, 1), (2, 2), (3, 3), (4, 4), (5, 5)] ⟨by simp [ptS, entT, fget, AV.ren, renL, pget], ?_, rfl, rfl⟩) ?_
    · simp [ptS, entM, pinv, mget, mset, renL, AV.ren, pget, renL_append, -List.map_map, parC, lexQ, lexC, hcs, hcr]
    exact bwp_exit (hQ acc q1 hshort hI.rows (hI.done hb))
  | true =>
    have h1 := hy hb
    have hc : q.code = 0 := by
      obtain ⟨a, ha, _⟩ := tkB_ok hI.ps hb
      have := hI.ps
      rw [ha] at this
      exact this.code
    simp -implicitDefEqProofs only [go_sem, ↓reduceIte, Nat.reduceEqDiff, Nat.reduceAdd, Nat.reduceLeDiff, Nat.reduceMul, Nat.reduceSub, Int.reduceLE, Int.reduceLT, Int.reduceEq, Int.reduceToNat, Int.reducePow, Int.reduceNeg, mset]
    refine hK _ ?_; clear hK
    refine bwp_cond true (by simp [ev, fget]) (fun _ => ?_) (fun h => nomatch h)
    refine bwp_skip ?_
    refine hK1 _ ?_; clear hK1
    refine bwp_block ?_
    refine bwp_region_any rfl rfl ?_
    repeat' (first
      | (refine runAny_two rfl rfl rfl ?_ ?_ <;> simp -implicitDefEqProofs only [go_sem, ↓reduceIte, Nat.reduceEqDiff, Nat.reduceAdd, Nat.reduceLeDiff, Nat.reduceMul, Nat.reduceSub, Int.reduceLE, Int.reduceLT, Int.reduceEq, Int.reduceToNat, Int.reducePow, Int.reduceNeg, mset, hcl, hb1, List.length_append, List.length_map, List.length_cons, List.length_nil])
      | (refine runAny_one rfl rfl ?_; simp -implicitDefEqProofs only [go_sem, ↓reduceIte, Nat.reduceEqDiff, Nat.reduceAdd, Nat.reduceLeDiff, Nat.reduceMul, Nat.reduceSub, Int.reduceLE, Int.reduceLT, Int.reduceEq, Int.reduceToNat, Int.reducePow, Int.reduceNeg, mset, hcl, hb1, List.length_append, List.length_map, List.length_cons, List.length_nil])
      | (refine pthread_callK hs h1 rfl rfl ?_; intro l q2 hl h2; simp -implicitDefEqProofs only [go_sem, ↓reduceIte, Nat.reduceEqDiff, Nat.reduceAdd, Nat.reduceLeDiff, Nat.reduceMul, Nat.reduceSub, Int.reduceLE, Int.reduceLT, Int.reduceEq, Int.reduceToNat, Int.reducePow, Int.reduceNeg, mset, hcl, hb1, List.length_append, List.length_map, List.length_cons, List.length_nil]))
    all_goals refine runAny_done rfl ?_
    all_goals
      obtain ⟨f', rfl, hN⟩ := hI.next hb hl h2
      have hsn := thrC_snoc acc l
      refine ⟨⟨(acc ++ [l], q2, _, f'), hN⟩, ?_, ?_⟩
      · simp only [hc, if_true]
        split <;> omega
      · refine Leads.ent [(0, 0), (1, 1), (2, 2), (11, 3), (4, 4), (5, 5)] ⟨by simp [entT, fget, AV.ren, renL, pget], ?_, rfl, rfl⟩
        simp only [hsn, List.map_append, hcs]
        simp [entM, pinv, mget, mset, renL, AV.ren, pget, renL_append, -List.map_map, parC, lexQ, lexC, hcr]

theorem pcond_callK {s : List UInt8} (hs : s.length ≤ 4000) {σ : PR Nat} {q : PSt} (h : PS s σ q) (kind : Int) {dst : Option Nat} {ops : List AOper} {K : St → Prop} {t : Fr} {m : Mem} {n : Nat} (hm0 : mget m 0 = some (parC q)) (hm1 : mget m 1 = some (lexQ s q))
    (hk : ∀ (rows : List (List Atom)) q', (rows.length ≤ 4002 ∧ ∀ l ∈ rows, l.length ≤ 4002) → PQ s (thn σ ((tAsk kind).run s)) (kind, rows) q' → runOps Tryd.prog ops ⟨putF t dst (.agg [.d (.int .i64 kind), .d (rowsD rows)]), mset (mset m 0 (parC q')) 1 (lexQ s q'), n + 2⟩ K) : callK Tryd.prog 50 [.ptr 0 0, .d (.int .i64 kind)] dst ops K t m n := by
  refine par_callK (rest := [.d (.int .i64 kind)]) (Q := fun r q' => ∃ rows : List (List Atom), (rows.length ≤ 4002 ∧ ∀ l ∈ rows, l.length ≤ 4002) ∧ r = .agg [.d (.int .i64 kind), .d (rowsD rows)] ∧ PQ s (thn σ ((tAsk kind).run s)) (kind, rows) q') (pcond_calls hs h kind) rfl ?_ hm0 hm1 ?_
  · rintro _ _ ⟨_, _, rfl, _⟩; rfl
  · rintro _ q' ⟨l, h1, rfl, h⟩; exact hk l q' h1 h

/-- The first token. -/
theorem pnext0_calls {s : List UInt8} (hs : s.length ≤ 140737488351232) :
    ACalls Tryd.prog 44 [.ptr 0 0] [(0, parC ⟨noTok, 0, 0, 0, 0, 0, 0⟩), (1, lexQ s ⟨noTok, 0, 0, 0, 0, 0, 0⟩)] fun r m' => ∃ q', m' = [(0, parC q'), (1, lexQ s q')] ∧ (r = .tup [] ∧ PS s (goW s 0) q') := by
  refine acalls_of Tryd.func44 ac44_ok Tryd.ntmps44 Tryd.results44 rfl ?_
  unfold ac44
  refine bwp_seq fun K hK => bwp_region rfl ?_
  simp -implicitDefEqProofs only [go_sem, ↓reduceIte, Nat.reduceEqDiff, Nat.reduceAdd, Nat.reduceLeDiff, Nat.reduceMul, Nat.reduceSub, Int.reduceLE, Int.reduceLT, Int.reduceEq, Int.reduceToNat, Int.reducePow, Int.reduceNeg, parC]
  refine hK _ ?_; clear hK
  refine bwp_cond true (by simp [ev, fget]) (fun _ => ?_) (fun h => nomatch h)
  refine bwp_region rfl ?_
  simp -implicitDefEqProofs only [go_sem, ↓reduceIte, Nat.reduceEqDiff, Nat.reduceAdd, Nat.reduceLeDiff, Nat.reduceMul, Nat.reduceSub, Int.reduceLE, Int.reduceLT, Int.reduceEq, Int.reduceToNat, Int.reducePow, Int.reduceNeg]
  refine next_callK hs (Nat.zero_le _) ⟨Nat.le_refl _, Nat.zero_le _⟩ rfl ?_
  intro rd' hrd'
  by_cases h0 : (nextW s 0).2.2 = 0
  · have he : nextW s 0 = ((nextW s 0).1, (nextW s 0).2.1, 0) := by rw [← h0]
    have hee : errAt s 0 = 0 := by unfold errAt; rw [if_pos h0]
    have hgo : goW s 0 = .ok 0 := by unfold goW; rw [if_pos h0]
    rw [nxR_ok he, hee, h0]
    simp -implicitDefEqProofs only [go_sem, ↓reduceIte, Nat.reduceEqDiff, Nat.reduceAdd, Nat.reduceLeDiff, Nat.reduceMul, Nat.reduceSub, Int.reduceLE, Int.reduceLT, Int.reduceEq, Int.reduceToNat, Int.reducePow, Int.reduceNeg, mset, lexQ, lexC]
    refine ⟨.tup [], rfl, [(0, 0), (1, 1)], [(0, parC ⟨(nextW s 0).1, 0, 0, (nextW s 0).2.1, rd', 0, 0⟩), (1, lexQ s ⟨(nextW s 0).1, 0, 0, (nextW s 0).2.1, rd', 0, 0⟩)], rfl, rfl, ?_, ⟨_, rfl, rfl, ?_⟩⟩
    · simp [entM, pinv, mget, mset, renL, AV.ren, parC, lexQ, lexC, pget]
    · rw [hgo]
      exact ⟨Nat.zero_le _, h0, rfl, rfl, rfl, rfl, hrd'.2.2.1, hrd'.2.1, rfl, rfl⟩
  · have hbad := curT_noTok h0
    have hgo : goW s 0 = .error ((nextW s 0).2.2, skipA s 0) := by unfold goW; rw [if_neg h0]
    have hee : errAt s 0 = skipA s 0 := by unfold errAt; rw [if_neg h0]
    rw [nxR_bad h0 hbad, hee]
    simp -implicitDefEqProofs only [go_sem, ↓reduceIte, Nat.reduceEqDiff, Nat.reduceAdd, Nat.reduceLeDiff, Nat.reduceMul, Nat.reduceSub, Int.reduceLE, Int.reduceLT, Int.reduceEq, Int.reduceToNat, Int.reducePow, Int.reduceNeg, mset, lexQ, lexC]
    refine ⟨.tup [], rfl, [(0, 0), (1, 1)], [(0, parC ⟨noTok, (nextW s 0).2.2, skipA s 0, (nextW s 0).2.1, rd', (nextW s 0).2.2, skipA s 0⟩), (1, lexQ s ⟨noTok, (nextW s 0).2.2, skipA s 0, (nextW s 0).2.1, rd', (nextW s 0).2.2, skipA s 0⟩)], rfl, rfl, ?_, ⟨_, rfl, rfl, ?_⟩⟩
    · simp [entM, pinv, mget, mset, renL, AV.ren, parC, lexQ, lexC, pget, noTok]
    · rw [hgo]
      exact ⟨rfl, h0, rfl, (fun h => by cases h), Nat.zero_le _⟩

theorem pnext0_callK {s : List UInt8} (hs : s.length ≤ 140737488351232) {dst : Option Nat} {ops : List AOper} {K : St → Prop} {t : Fr} {m : Mem} {n : Nat} (hm0 : mget m 0 = some (parC ⟨noTok, 0, 0, 0, 0, 0, 0⟩)) (hm1 : mget m 1 = some (lexQ s ⟨noTok, 0, 0, 0, 0, 0, 0⟩))
    (hk : ∀ q', PS s (goW s 0) q' → runOps Tryd.prog ops ⟨putF t dst (.tup []), mset (mset m 0 (parC q')) 1 (lexQ s q'), n + 2⟩ K) : callK Tryd.prog 44 [.ptr 0 0] dst ops K t m n := by
  refine par_callK (rest := []) (Q := fun r q' => r = .tup [] ∧ PS s (goW s 0) q') (pnext0_calls hs) rfl ?_ hm0 hm1 ?_
  · rintro _ _ ⟨rfl, _⟩; rfl
  · rintro _ q' ⟨rfl, h⟩; exact hk q' h

/-! ### The whole -/

theorem pTest_eq {s : List UInt8} (h : s.length ≤ 4000) : pTest s = match thn (goW s 0) (tTest.run s) with
    | .ok (t, _) => .ok t
    | .error e => .error e := by
  unfold pTest
  rw [if_neg (by omega)]
  cases goW s 0 <;> rfl

/-- A test as data, spelt out. -/
def testD (t : Test) : List DV := [.str t.name, slD Init.cells t.inits, thrD t.threads, .int .i64 t.kind, rowsD t.rows]
def testD0 : List DV := [.str [], .nsl, .nsl, .int .i64 0, .nsl]

/-- What Parse comes to. -/
def parseV : PR Test → AV
  | .ok t => .tup [.agg ((testD t).map .d), .agg [.d (.int .i64 0), .d (.int .i64 0)]]
  | .error e => .tup [.agg (testD0.map .d), .agg [.d (.int .i64 e.1), .d (.int .i64 e.2)]]

end Go.Proofs.YtpfbljkfbjjlkaaDoor

/- The document's reader: its loops over what locations begin with, and over instructions. -/
namespace Go.Proofs.YtpfbljkfbjjlkaaDoor
open Go Go.Jq
set_option maxRecDepth 100000
set_option linter.unusedSimpArgs false

/-- How far a loop up to a closing brace is. -/
structure NI {α : Type} (s : List UInt8) (one : PT α) (σ0 : PR Nat) (f0 : Nat) (acc : List α) (r : RSt) (σ : PR Nat) (f : Nat) : Prop where
  rs : RS s σ r
  to : ∀ l rf, RQ s (thn σ ((tMany one f).run s)) l rf → RQ s (thn σ0 ((tMany one f0).run s)) (acc ++ l) rf
  fuel : ∀ a, σ = .ok a → s.length - a < f
  len : acc.length + f ≤ f0 ∨ (r.code ≠ 0 ∧ acc.length ≤ f0 + 1)

theorem RL.okPos {s : List UInt8} {a : Nat} {r : RSt} (h : RL s (.ok a) r) : a ≤ s.length ∧ (nextW s a).2.2 = 0 := ⟨h.2.2.1, h.2.2.2.1⟩

theorem NI.next {α : Type} {s : List UInt8} {one : PT α} (hp : one.Prog) {σ0 : PR Nat} {f0 : Nat} {acc : List α} {r q : RSt} {a f : Nat} (h : NI s one σ0 f0 acc r (.ok a) f) (hc : r.code = 0) (hl : RL s (.ok a) q) (hb : ikB q [125] = false) {x : α} {q' : RSt} (hq : RQ s (one.run s a) x q') :
    ∃ f', f = f' + 1 ∧ NI s one σ0 f0 (acc ++ [x]) q' (posR (one.run s a)) f' := by
  have hf := h.fuel a rfl
  obtain ⟨f', rfl⟩ : ∃ f', f = f' + 1 := ⟨f - 1, by omega⟩
  refine ⟨f', rfl, ⟨hq.rs, fun l qf hl' => ?_, fun b hb' => ?_, ?_⟩⟩
  · have : RQ s (thn (.ok a) ((tMany one (f' + 1)).run s)) (x :: l) qf := by
      refine RQ.take_no hl hb ?_
      refine RQ.bind (σ := .ok a) hq (RQ.bind hl' ?_)
      exact RQ.ret hl'.rs
    have := h.to _ _ this
    simpa using this
  · obtain ⟨y, hy⟩ := posR_ok hb'
    have h1 := hp s a y b hl.okPos.1 hl.okPos.2 hy
    have h2 := one.run_le hl.okPos.1 hy
    omega
  · left
    rcases h.len with hl' | ⟨he, _⟩
    · simp only [List.length_append, List.length_cons, List.length_nil]
      omega
    · exact absurd hc he

theorem NI.done {α : Type} {s : List UInt8} {one : PT α} {σ0 : PR Nat} {f0 : Nat} {acc : List α} {r q : RSt} {a f : Nat} (h : NI s one σ0 f0 acc r (.ok a) f) (hl : RL s (.ok a) q) (hb : ikB q [125] = true) {q' : RSt} (hq : RQ s (thn (.ok a) ((tMust [125]).run s)) () q') :
    RQ s (thn σ0 ((tMany one f0).run s)) acc q' := by
  have hf := h.fuel a rfl
  obtain ⟨f', rfl⟩ : ∃ f', f = f' + 1 := ⟨f - 1, by omega⟩
  have hk : isK (curT s a).kd (curT s a).tx [125] = true := by
    unfold ikB at hb
    simp only [Bool.and_eq_true] at hb
    rw [← hl.2.2.2.2.1]
    exact hb.2
  have : RQ s (thn (.ok a) ((tMany one (f' + 1)).run s)) [] q' := by
    unfold tMust at hq
    unfold tMany tTake
    simp only [thn, PT.run] at hq ⊢
    rw [if_pos hk] at hq ⊢
    simp only [PT.run] at hq ⊢
    cases he : eatW s a with
    | ok b => rw [he] at hq; exact ⟨rfl, hq.2⟩
    | error e => rw [he] at hq; exact hq
  have := h.to _ _ this
  simpa using this

theorem NI.err {α : Type} {s : List UInt8} {one : PT α} {σ0 : PR Nat} {f0 : Nat} {acc : List α} {r : RSt} {e : PE} {f : Nat} (h : NI s one σ0 f0 acc r (.error e) f) {q' : RSt} (hq : RQ s (thn (.error e) ((tMust [125]).run s)) () q') : RQ s (thn σ0 ((tMany one f0).run s)) acc q' := by
  have := h.to [] q' hq
  simpa using this

theorem NI.start {α : Type} {s : List UInt8} {one : PT α} {σ : PR Nat} {r : RSt} (hs : s.length ≤ 4000) (h : RS s σ r) : NI s one σ fuelP [] r σ fuelP :=
  ⟨h, fun l qf hl => hl, fun a _ => by unfold fuelP; omega, .inl (by simp)⟩

theorem NI.short {α : Type} {s : List UInt8} {one : PT α} {σ0 σ : PR Nat} {acc : List α} {r : RSt} {f : Nat} (h : NI s one σ0 fuelP acc r σ f) : acc.length ≤ 4002 := by
  rcases h.len with h | h
  · unfold fuelP at h; omega
  · exact h.2

theorem RS.codeE {s : List UInt8} {σ : PR Nat} {r : RSt} (h : RS s σ r) (hc : ¬ r.code = 0) : ∃ e, σ = .error e ∧ RL s (.error e) r := by
  rcases h with ⟨h, _⟩ | ⟨e, rfl, h⟩
  · exact absurd h hc
  · exact ⟨e, rfl, h⟩

end Go.Proofs.YtpfbljkfbjjlkaaDoor

/- The document's reader: its loop over threads. -/
namespace Go.Proofs.YtpfbljkfbjjlkaaDoor
open Go Go.Jq
set_option maxRecDepth 100000
set_option linter.unusedSimpArgs false

structure TN (s : List UInt8) (σ0 : PR Nat) (f0 : Nat) (acc : List (List Ins)) (r : RSt) (σ : PR Nat) (f : Nat) : Prop where
  rs : RS s σ r
  to : ∀ l rf, RQ s (thn σ ((tThreads f).run s)) l rf → RQ s (thn σ0 ((tThreads f0).run s)) (acc ++ l) rf
  fuel : ∀ a, σ = .ok a → s.length - a < f
  len : acc.length + f ≤ f0

theorem TN.next {s : List UInt8} {σ0 : PR Nat} {f0 : Nat} {acc : List (List Ins)} {r q : RSt} {a : Nat} {f : Nat} (h : TN s σ0 f0 acc r (.ok a) f) (hl : RL s (.ok a) q) (hb : ikB q wThread = true) {x : List Ins} {q' : RSt} (hq : RQ s (thn (thn (.ok a) (eatW s)) (tThread.run s)) x q') :
    ∃ f', f = f' + 1 ∧ TN s σ0 f0 (acc ++ [x]) q' (posR (thn (thn (.ok a) (eatW s)) (tThread.run s))) f' := by
  have h4 := ikB_ok hl hb
  obtain ⟨a', ha, h4, _⟩ := h4
  cases ha
  have hf := h.fuel a rfl
  obtain ⟨f', rfl⟩ : ∃ f', f = f' + 1 := ⟨f - 1, by omega⟩
  have hlen := h.len
  refine ⟨f', rfl, ⟨hq.rs, fun l qf hl' => ?_, fun b hb' => ?_, ?_⟩⟩
  · have : RQ s (thn (.ok a) ((tThreads (f' + 1)).run s)) (x :: l) qf := RQ.take_yes hl hb (RQ.bind hq (RQ.bind hl' (RQ.ret hl'.rs)))
    have := h.to _ _ this
    simpa using this
  · obtain ⟨y, hy⟩ := posR_ok hb'
    obtain ⟨c, hc, hy'⟩ := thn_ok hy
    have h1 := eatW_lt hl.okPos.1 hl.okPos.2 h4 hc
    have h2 := tThread.run_le h1.2 hy'
    omega
  · simp only [List.length_append, List.length_cons, List.length_nil]
    omega

theorem TN.done {s : List UInt8} {σ0 : PR Nat} {f0 : Nat} {acc : List (List Ins)} {r q : RSt} {σ : PR Nat} {f : Nat} (h : TN s σ0 f0 acc r σ f) (hl : RL s σ q) (hb : ikB q wThread = false) : RQ s (thn σ0 ((tThreads f0).run s)) acc q := by
  have : RQ s (thn σ ((tThreads f).run s)) [] q := by
    cases σ with
    | error e => exact hl.rs
    | ok a =>
      have hf := h.fuel a rfl
      obtain ⟨f', rfl⟩ : ∃ f', f = f' + 1 := ⟨f - 1, by omega⟩
      exact RQ.take_no hl hb (RQ.ret hl.rs)
  have := h.to _ _ this
  simpa using this

theorem TN.start {s : List UInt8} {σ : PR Nat} {r : RSt} (hs : s.length ≤ 4000) (h : RS s σ r) : TN s σ fuelP [] r σ fuelP :=
  ⟨h, fun l qf hl => hl, fun a _ => by unfold fuelP; omega, by simp⟩

theorem TN.short {s : List UInt8} {σ0 σ : PR Nat} {acc : List (List Ins)} {r : RSt} {f : Nat} (h : TN s σ0 fuelP acc r σ f) : acc.length ≤ 4001 := by
  have := h.len
  unfold fuelP at this; omega

end Go.Proofs.YtpfbljkfbjjlkaaDoor

/- The document's reader: its loop over a condition's atoms. -/
namespace Go.Proofs.YtpfbljkfbjjlkaaDoor
open Go Go.Jq
set_option maxRecDepth 100000
set_option linter.unusedSimpArgs false

theorem PT.bind_assoc {α β γ : Type} (t : PT α) (f : α → PT β) (g : β → PT γ) : (t.bind f).bind g = t.bind fun x => (f x).bind g := by
  induction t with
  | ret x => rfl
  | bad c => rfl
  | cur k ih =>
    simp only [bind]
    congr 1
    funext d x
    exact ih d x
  | eat k ih => simp only [bind, ih]

theorem tTake_bind {α β : Type} (x : List UInt8) (yes no : PT α) (f : α → PT β) : (tTake x yes no).bind f = tTake x (yes.bind f) (no.bind f) := by
  unfold tTake
  simp only [PT.bind]
  congr 1
  funext d y
  split <;> rfl

/-- What stands behind a row's atoms so far. -/
def tailP (f g : Nat) (row : List Atom) : PT (List (List Atom)) := (tRow g).bind fun l => tTake [124] ((tRows f).bind fun r => .ret ((row ++ l) :: r)) (.ret [row ++ l])

theorem tailP_succ (f g : Nat) (row : List Atom) : tailP f (g + 1) row = tTake [38] (tAtom.bind fun x => tailP f g (row ++ [x])) (tTake [124] ((tRows f).bind fun r => .ret (row :: r)) (.ret [row])) := by
  have e : tRow (g + 1) = tTake [38] (tAtom.bind fun x => (tRow g).bind fun l => .ret (x :: l)) (.ret []) := rfl
  unfold tailP
  rw [e, tTake_bind]
  congr 1
  · rw [PT.bind_assoc]
    congr 1
    funext x
    rw [PT.bind_assoc]
    congr 1
    funext l
    simp only [PT.bind, List.append_assoc, List.cons_append, List.nil_append]
  · simp only [PT.bind, List.append_nil]

theorem tRows_succ (f : Nat) : tRows (f + 1) = tAtom.bind fun x => tailP f fuelP [x] := rfl

def ikV (s : List UInt8) (σ : PR Nat) (x : List UInt8) : Bool := match σ with
  | .ok a => isK (curT s a).kd (curT s a).tx x
  | .error _ => false

theorem RL.ikV {s : List UInt8} {σ : PR Nat} {q : RSt} (h : RL s σ q) (x : List UInt8) : ikB q x = ikV s σ x := by
  cases σ with
  | ok a => simp [ikB, h.code, h.2.2.2.2.1, Proofs.YtpfbljkfbjjlkaaDoor.ikV]
  | error e => simp [ikB, h.codeE, Proofs.YtpfbljkfbjjlkaaDoor.ikV]

theorem ikV_ok {s : List UInt8} {σ : PR Nat} {x : List UInt8} (h : ikV s σ x = true) : ∃ a, σ = .ok a ∧ (curT s a).kd ≠ 4 := by
  cases σ with
  | ok a => exact ⟨a, rfl, isK_kd h⟩
  | error e => cases h

/-- How far the loop over atoms is. -/
structure FN (s : List UInt8) (σ0 : PR Nat) (accs : List (List Atom)) (row : List Atom) (r : RSt) (σ : PR Nat) (f g : Nat) : Prop where
  rs : RS s σ r
  to : ∀ y rf, RQ s (thn σ ((tailP f g row).run s)) y rf → RQ s (thn σ0 ((tRows fuelP).run s)) (accs ++ y) rf
  fuel : ∀ a, σ = .ok a → s.length - a < f ∧ s.length - a < g
  len : row.length + g ≤ fuelP + 1 ∧ accs.length + f ≤ fuelP

theorem FN.and {s : List UInt8} {σ0 : PR Nat} {accs : List (List Atom)} {row : List Atom} {r q : RSt} {σ : PR Nat} {f g : Nat} (h : FN s σ0 accs row r σ f g) (hl : RL s σ q) (hb : ikV s σ [38] = true) {x : Atom} {q' : RSt} (hq : RQ s (thn (thn σ (eatW s)) (tAtom.run s)) x q') :
    ∃ g', g = g' + 1 ∧ FN s σ0 accs (row ++ [x]) q' (posR (thn (thn σ (eatW s)) (tAtom.run s))) f g' := by
  obtain ⟨a, rfl, h4⟩ := ikV_ok hb
  have hf := h.fuel a rfl
  obtain ⟨g', rfl⟩ : ∃ g', g = g' + 1 := ⟨g - 1, by omega⟩
  refine ⟨g', rfl, ⟨hq.rs, fun y rf hy => ?_, fun b hb' => ?_, ?_⟩⟩
  · refine h.to y rf ?_
    rw [tailP_succ]
    exact RQ.take_yes hl (by rw [hl.ikV]; exact hb) (RQ.bind hq hy)
  · obtain ⟨y, hy⟩ := posR_ok hb'
    obtain ⟨c, hc, hy'⟩ := thn_ok hy
    have h1 := eatW_lt hl.okPos.1 hl.okPos.2 h4 hc
    have h2 := tAtom.run_le h1.2 hy'
    omega
  · have := h.len
    simp only [List.length_append, List.length_cons, List.length_nil]
    omega

theorem FN.or {s : List UInt8} {σ0 : PR Nat} {accs : List (List Atom)} {row : List Atom} {r q : RSt} {σ : PR Nat} {f g : Nat} (h : FN s σ0 accs row r σ f g) (hl : RL s σ q) (hb : ikV s σ [38] = false) (ho : ikV s σ [124] = true) {x : Atom} {q' : RSt} (hq : RQ s (thn (thn σ (eatW s)) (tAtom.run s)) x q') :
    ∃ f', f = f' + 1 ∧ FN s σ0 (accs ++ [row]) [x] q' (posR (thn (thn σ (eatW s)) (tAtom.run s))) f' fuelP := by
  obtain ⟨a, rfl, h4⟩ := ikV_ok ho
  have hf := h.fuel a rfl
  obtain ⟨f', rfl⟩ : ∃ f', f = f' + 1 := ⟨f - 1, by omega⟩
  obtain ⟨g', rfl⟩ : ∃ g', g = g' + 1 := ⟨g - 1, by omega⟩
  refine ⟨f', rfl, ⟨hq.rs, fun y rf hy => ?_, fun b hb' => ?_, ?_⟩⟩
  · have : RQ s (thn (.ok a) ((tailP (f' + 1) (g' + 1) row).run s)) (row :: y) rf := by
      rw [tailP_succ]
      refine RQ.take_no hl (by rw [hl.ikV]; exact hb) (RQ.take_yes hl (by rw [hl.ikV]; exact ho) ?_)
      rw [tRows_succ, PT.bind_assoc]
      refine RQ.bind hq ?_
      exact RQ.bind hy (RQ.ret hy.rs)
    have := h.to _ _ this
    simpa using this
  · obtain ⟨y, hy⟩ := posR_ok hb'
    obtain ⟨c, hc, hy'⟩ := thn_ok hy
    have h1 := eatW_lt hl.okPos.1 hl.okPos.2 h4 hc
    have h2 := tAtom.run_le h1.2 hy'
    have hl' := h.len
    have e : fuelP = 4001 := rfl
    omega
  · have := h.len
    simp only [List.length_append, List.length_cons, List.length_nil]
    omega

theorem FN.done {s : List UInt8} {σ0 : PR Nat} {accs : List (List Atom)} {row : List Atom} {r q : RSt} {σ : PR Nat} {f g : Nat} (h : FN s σ0 accs row r σ f g) (hl : RL s σ q) (hb : ikV s σ [38] = false) (ho : ikV s σ [124] = false) :
    RQ s (thn σ0 ((tRows fuelP).run s)) (accs ++ [row]) q := by
  refine h.to [row] q ?_
  cases σ with
  | error e => exact hl.rs
  | ok a =>
    have hf := h.fuel a rfl
    obtain ⟨g', rfl⟩ : ∃ g', g = g' + 1 := ⟨g - 1, by omega⟩
    rw [tailP_succ]
    exact RQ.take_no hl (by rw [hl.ikV]; exact hb) (RQ.take_no hl (by rw [hl.ikV]; exact ho) (RQ.ret hl.rs))

theorem RS.okPos {s : List UInt8} {a : Nat} {r : RSt} (h : RS s (.ok a) r) : a ≤ s.length ∧ (nextW s a).2.2 = 0 := by
  rcases h with ⟨_, h1, h2⟩ | ⟨e, h, _⟩
  · obtain ⟨rfl, h3⟩ := goW_ok h2.symm
    exact ⟨h1, h3⟩
  · cases h

theorem FN.start {s : List UInt8} (hs : s.length ≤ 4000) {σ0 : PR Nat} {r0 : RSt} (h0 : RS s σ0 r0) {x : Atom} {r : RSt} (h : RQ s (thn σ0 (tAtom.run s)) x r) : FN s σ0 [] [x] r (posR (thn σ0 (tAtom.run s))) 4000 fuelP := by
  refine ⟨h.rs, fun y rf hy => ?_, fun a ha => ?_, ?_⟩
  · have e : fuelP = 4000 + 1 := rfl
    rw [e, tRows_succ]
    exact RQ.bind h hy
  · obtain ⟨y, hy⟩ := posR_ok ha
    obtain ⟨c, rfl, hy'⟩ := thn_ok hy
    have hp := h0.okPos
    have h1 := prog_atom s c y a hp.1 hp.2 hy'
    have h2 := tAtom.run_le hp.1 hy'
    unfold fuelP
    omega
  · simp [fuelP]

end Go.Proofs.YtpfbljkfbjjlkaaDoor

/- parse.Parse. -/
namespace Go.Proofs.YtpfbljkfbjjlkaaDoor
open Go Go.Jq
set_option maxRecDepth 100000
set_option linter.unusedSimpArgs false

theorem PQ.fin {α : Type} {s : List UInt8} {τ : PR (α × Nat)} {x : α} {q : PSt} (h : PQ s τ x q) : (q.code = 0 ∧ ∃ b, τ = .ok (x, b)) ∨ (∃ e, τ = .error e ∧ q.code = e.1 ∧ e.1 ≠ 0 ∧ q.eat = e.2) := by
  cases τ with
  | ok p =>
    obtain ⟨y, b⟩ := p
    obtain ⟨rfl, h⟩ := h
    exact .inl ⟨h.code, b, rfl⟩
  | error e => exact .inr ⟨e, rfl, h.1, h.2.1, h.2.2.1⟩

/-- Behind the threads. -/
def pzS (s : List UInt8) (t : Test) (q : PSt) : St :=
  ⟨[(5, .ptr 0 0), (6, .ptr 2 0), (2, .ptr 4 0), (3, .ptr 5 0)], [(0, parC q), (1, lexQ s q), (2, (testD t).map .d), (4, testD0.map .d), (5, [.d (.int .i64 0), .d (.int .i64 0)])], 6⟩

set_option maxHeartbeats 32000000 in
theorem parse1_pure {s : List UInt8} (hs : s.length ≤ maxLen) : Pure Tryd.prog 25 [.d (.str s)] (parseV (pTest s)) := by
  have h54 : ldk Tryd.prog 54 = some (some 5) := by kernel_rfl
  have h26 : ldk Tryd.prog 26 = some (some 2) := by kernel_rfl
  have kl := long_pure s
  have hin : ∀ r, (parseV r).ren (fun _ => none) = parseV r := by
    intro r
    cases r <;> simp [parseV, AV.ren, renL, testD, testD0]
  refine acalls_of Tryd.func25 ac25_ok Tryd.ntmps25 Tryd.results25 rfl ?_
  unfold ac25
  refine bwp_seq fun K hK => bwp_region rfl ?_
  simp -implicitDefEqProofs only [go_sem, ↓reduceIte, Nat.reduceEqDiff, Nat.reduceAdd, Nat.reduceLeDiff, Nat.reduceMul, Nat.reduceSub, Int.reduceLE, Int.reduceLT, Int.reduceEq, Int.reduceToNat, Int.reducePow, Int.reduceNeg]
  refine hK _ ?_; clear hK
  refine bwp_seq fun K1 hK1 => ?_
  by_cases hl : 4000 < s.length
  · unfold longV at kl
    rw [if_pos hl] at kl
    refine bwp_seq fun K hK => bwp_region rfl ?_
    simp -implicitDefEqProofs only [go_sem, ↓reduceIte, Nat.reduceEqDiff, Nat.reduceAdd, Nat.reduceLeDiff, Nat.reduceMul, Nat.reduceSub, Int.reduceLE, Int.reduceLT, Int.reduceEq, Int.reduceToNat, Int.reducePow, Int.reduceNeg]
    repeat' (first
      | (refine gateK_split (fun hb => ?_) (fun hb => ?_) <;> simp -implicitDefEqProofs only [go_sem, ↓reduceIte, Nat.reduceEqDiff, Nat.reduceAdd, Nat.reduceLeDiff, Nat.reduceMul, Nat.reduceSub, Int.reduceLE, Int.reduceLT, Int.reduceEq, Int.reduceToNat, Int.reducePow, Int.reduceNeg, hb])
      | (refine dGateK_split (fun hb => ?_) (fun hb => ?_) <;> simp -implicitDefEqProofs only [go_sem, ↓reduceIte, Nat.reduceEqDiff, Nat.reduceAdd, Nat.reduceLeDiff, Nat.reduceMul, Nat.reduceSub, Int.reduceLE, Int.reduceLT, Int.reduceEq, Int.reduceToNat, Int.reducePow, Int.reduceNeg, hb])
      | (refine callK_pure (kl) rfl rfl ?_; simp -implicitDefEqProofs only [go_sem, ↓reduceIte, Nat.reduceEqDiff, Nat.reduceAdd, Nat.reduceLeDiff, Nat.reduceMul, Nat.reduceSub, Int.reduceLE, Int.reduceLT, Int.reduceEq, Int.reduceToNat, Int.reducePow, Int.reduceNeg])
      | (refine dCallK_pure (kl) rfl rfl ?_; simp -implicitDefEqProofs only [go_sem, ↓reduceIte, Nat.reduceEqDiff, Nat.reduceAdd, Nat.reduceLeDiff, Nat.reduceMul, Nat.reduceSub, Int.reduceLE, Int.reduceLT, Int.reduceEq, Int.reduceToNat, Int.reducePow, Int.reduceNeg])
      | (rw [if_pos (by (try simp only [List.length_append, List.length_cons, List.length_nil, List.length_map]); omega)]; simp -implicitDefEqProofs only [go_sem, ↓reduceIte, Nat.reduceEqDiff, Nat.reduceAdd, Nat.reduceLeDiff, Nat.reduceMul, Nat.reduceSub, Int.reduceLE, Int.reduceLT, Int.reduceEq, Int.reduceToNat, Int.reducePow, Int.reduceNeg]))
    refine hK _ ?_; clear hK
    refine bwp_seq fun K hK => bwp_region rfl ?_
    simp -implicitDefEqProofs only [go_sem, ↓reduceIte, Nat.reduceEqDiff, Nat.reduceAdd, Nat.reduceLeDiff, Nat.reduceMul, Nat.reduceSub, Int.reduceLE, Int.reduceLT, Int.reduceEq, Int.reduceToNat, Int.reducePow, Int.reduceNeg]
    refine hK _ ?_; clear hK
    refine bwp_cond true (by simp [ev, fget]) (fun _ => ?_) (fun h => nomatch h)
    refine bwp_seq fun K hK => bwp_region_draw rfl rfl ?_
    simp -implicitDefEqProofs only [go_sem, ↓reduceIte, Nat.reduceEqDiff, Nat.reduceAdd, Nat.reduceLeDiff, Nat.reduceMul, Nat.reduceSub, Int.reduceLE, Int.reduceLT, Int.reduceEq, Int.reduceToNat, Int.reducePow, Int.reduceNeg]
    refine ⟨rfl, hK _ ?_⟩; clear hK
    refine bwp_ret ?_
    simp -implicitDefEqProofs only [go_sem, ↓reduceIte, Nat.reduceEqDiff, Nat.reduceAdd, Nat.reduceLeDiff, Nat.reduceMul, Nat.reduceSub, Int.reduceLE, Int.reduceLT, Int.reduceEq, Int.reduceToNat, Int.reducePow, Int.reduceNeg]
    refine aend_ret (parseV (pTest s)) ?_ (hin _) ⟨rfl, rfl⟩
    have : pTest s = .error (2, 4000) := by unfold pTest; rw [if_pos hl]
    rw [this]
    simp [resA, resVs, resV, fget, mget, mset, loadA, h54, h26, parseV, testD0]
  have hs4 : s.length ≤ 4000 := by omega
  have hs' : s.length ≤ 140737488351232 := by omega
  unfold longV at kl
  rw [if_neg hl] at kl
  refine bwp_seq fun K hK => bwp_region rfl ?_
  simp -implicitDefEqProofs only [go_sem, ↓reduceIte, Nat.reduceEqDiff, Nat.reduceAdd, Nat.reduceLeDiff, Nat.reduceMul, Nat.reduceSub, Int.reduceLE, Int.reduceLT, Int.reduceEq, Int.reduceToNat, Int.reducePow, Int.reduceNeg]
  repeat' (first
    | (refine gateK_split (fun hb => ?_) (fun hb => ?_) <;> simp -implicitDefEqProofs only [go_sem, ↓reduceIte, Nat.reduceEqDiff, Nat.reduceAdd, Nat.reduceLeDiff, Nat.reduceMul, Nat.reduceSub, Int.reduceLE, Int.reduceLT, Int.reduceEq, Int.reduceToNat, Int.reducePow, Int.reduceNeg, hb])
    | (refine dGateK_split (fun hb => ?_) (fun hb => ?_) <;> simp -implicitDefEqProofs only [go_sem, ↓reduceIte, Nat.reduceEqDiff, Nat.reduceAdd, Nat.reduceLeDiff, Nat.reduceMul, Nat.reduceSub, Int.reduceLE, Int.reduceLT, Int.reduceEq, Int.reduceToNat, Int.reducePow, Int.reduceNeg, hb])
    | (refine callK_pure (kl) rfl rfl ?_; simp -implicitDefEqProofs only [go_sem, ↓reduceIte, Nat.reduceEqDiff, Nat.reduceAdd, Nat.reduceLeDiff, Nat.reduceMul, Nat.reduceSub, Int.reduceLE, Int.reduceLT, Int.reduceEq, Int.reduceToNat, Int.reducePow, Int.reduceNeg])
    | (refine dCallK_pure (kl) rfl rfl ?_; simp -implicitDefEqProofs only [go_sem, ↓reduceIte, Nat.reduceEqDiff, Nat.reduceAdd, Nat.reduceLeDiff, Nat.reduceMul, Nat.reduceSub, Int.reduceLE, Int.reduceLT, Int.reduceEq, Int.reduceToNat, Int.reducePow, Int.reduceNeg])
    | (rw [if_pos (by (try simp only [List.length_append, List.length_cons, List.length_nil, List.length_map]); omega)]; simp -implicitDefEqProofs only [go_sem, ↓reduceIte, Nat.reduceEqDiff, Nat.reduceAdd, Nat.reduceLeDiff, Nat.reduceMul, Nat.reduceSub, Int.reduceLE, Int.reduceLT, Int.reduceEq, Int.reduceToNat, Int.reducePow, Int.reduceNeg]))
  refine hK _ ?_; clear hK
  refine bwp_seq fun K hK => bwp_region rfl ?_
  simp -implicitDefEqProofs only [go_sem, ↓reduceIte, Nat.reduceEqDiff, Nat.reduceAdd, Nat.reduceLeDiff, Nat.reduceMul, Nat.reduceSub, Int.reduceLE, Int.reduceLT, Int.reduceEq, Int.reduceToNat, Int.reducePow, Int.reduceNeg]
  refine hK _ ?_; clear hK
  refine bwp_cond false (by simp [ev, fget]) (fun h => nomatch h) (fun _ => ?_)
  refine bwp_skip ?_
  refine hK1 _ ?_; clear hK1
  refine bwp_seq fun K hK => bwp_region rfl ?_
  simp -implicitDefEqProofs only [go_sem, ↓reduceIte, Nat.reduceEqDiff, Nat.reduceAdd, Nat.reduceLeDiff, Nat.reduceMul, Nat.reduceSub, Int.reduceLE, Int.reduceLT, Int.reduceEq, Int.reduceToNat, Int.reducePow, Int.reduceNeg]
  refine new_callK s ?_
  simp -implicitDefEqProofs only [go_sem, ↓reduceIte, Nat.reduceEqDiff, Nat.reduceAdd, Nat.reduceLeDiff, Nat.reduceMul, Nat.reduceSub, Int.reduceLE, Int.reduceLT, Int.reduceEq, Int.reduceToNat, Int.reducePow, Int.reduceNeg, mset]
  refine hK _ ?_; clear hK
  refine bwp_leads (S' := ⟨[(5, .ptr 0 0), (2, .ptr 2 0), (3, .ptr 3 0)], [(0, parC ⟨noTok, 0, 0, 0, 0, 0, 0⟩), (1, lexQ s ⟨noTok, 0, 0, 0, 0, 0, 0⟩), (2, testD0.map .d), (3, [.d (.int .i64 0), .d (.int .i64 0)])], 4⟩) (Leads.ent [(4, 0), (3, 1), (0, 2), (1, 3)] ⟨by simp [entT, fget, AV.ren, renL, pget, parC, lexQ, lexC, noTok, testD0], by simp [entM, pinv, mget, mset, renL, AV.ren, pget, renL_append, -List.map_map, parC, lexQ, lexC, noTok, testD0], rfl, rfl⟩) ?_
  refine bwp_seq fun K hK => bwp_region rfl ?_
  simp -implicitDefEqProofs only [go_sem, ↓reduceIte, Nat.reduceEqDiff, Nat.reduceAdd, Nat.reduceLeDiff, Nat.reduceMul, Nat.reduceSub, Int.reduceLE, Int.reduceLT, Int.reduceEq, Int.reduceToNat, Int.reducePow, Int.reduceNeg]
  refine pnext0_callK hs' rfl rfl ?_
  intro q1 h1
  simp -implicitDefEqProofs only [go_sem, ↓reduceIte, Nat.reduceEqDiff, Nat.reduceAdd, Nat.reduceLeDiff, Nat.reduceMul, Nat.reduceSub, Int.reduceLE, Int.reduceLT, Int.reduceEq, Int.reduceToNat, Int.reducePow, Int.reduceNeg, mset]
  refine hK _ ?_; clear hK
  refine bwp_seq fun K hK => bwp_region rfl ?_
  simp -implicitDefEqProofs only [go_sem, ↓reduceIte, Nat.reduceEqDiff, Nat.reduceAdd, Nat.reduceLeDiff, Nat.reduceMul, Nat.reduceSub, Int.reduceLE, Int.reduceLT, Int.reduceEq, Int.reduceToNat, Int.reducePow, Int.reduceNeg]
  refine hK _ ?_; clear hK
  refine bwp_leads (S' := ⟨[(5, .ptr 0 0), (6, .ptr 2 0), (2, .ptr 4 0), (3, .ptr 5 0)], [(0, parC q1), (1, lexQ s q1), (2, testD0.map .d), (4, testD0.map .d), (5, [.d (.int .i64 0), .d (.int .i64 0)])], 6⟩) (Leads.ent [(0, 0), (1, 1), (6, 2), (2, 4), (3, 5)] ⟨by simp [entT, fget, AV.ren, renL, pget, parC, lexQ, lexC, testD0], by simp [entM, pinv, mget, mset, renL, AV.ren, pget, renL_append, -List.map_map, parC, lexQ, lexC, testD0], rfl, rfl⟩) ?_
  refine bwp_leads (Leads.nilCell 2 1 2 rfl rfl rfl rfl) ?_
  refine bwp_leads (Leads.nilCell 2 4 1 rfl rfl rfl rfl) ?_
  refine bwp_leads (Leads.nilCell 2 2 1 rfl rfl rfl rfl) ?_
  refine bwp_leads (Leads.frz (S' := ⟨[(5, .ptr 0 0), (6, .ptr 2 0), (2, .ptr 4 0), (3, .ptr 5 0)], [(0, parC q1), (1, lexQ s q1), (2, [.d (.str []), .d (.sl 0 []), .sl 3 1 0 0, .d (.int .i64 0), .d (.sl 0 [])]), (3, []), (4, testD0.map .d), (5, [.d (.int .i64 0), .d (.int .i64 0)])], 6⟩) [(0, 0), (1, 1), (2, 2), (8, 3), (4, 4), (5, 5)] [(6, []), (7, [])] ⟨?_, ?_, rfl, rfl, ?_⟩) ?_
  · simp [frzT, fget, AV.cv, cvL, zget, pget]
  · simp [frzM, pinv, zget, mget, mset, cvL, AV.cv, parC, lexQ, lexC, pget, testD0]
  · simp [zokFrom, mget, mset, cvL]
  refine bwp_seq fun K hK => bwp_region rfl ?_
  simp -implicitDefEqProofs only [go_sem, ↓reduceIte, Nat.reduceEqDiff, Nat.reduceAdd, Nat.reduceLeDiff, Nat.reduceMul, Nat.reduceSub, Int.reduceLE, Int.reduceLT, Int.reduceEq, Int.reduceToNat, Int.reducePow, Int.reduceNeg]
  refine pmust_callK hs' h1 wTest rfl rfl ?_
  intro q2 h2
  simp -implicitDefEqProofs only [go_sem, ↓reduceIte, Nat.reduceEqDiff, Nat.reduceAdd, Nat.reduceLeDiff, Nat.reduceMul, Nat.reduceSub, Int.reduceLE, Int.reduceLT, Int.reduceEq, Int.reduceToNat, Int.reducePow, Int.reduceNeg, mset]
  refine hK _ ?_; clear hK
  refine bwp_seq fun K hK => bwp_region rfl ?_
  simp -implicitDefEqProofs only [go_sem, ↓reduceIte, Nat.reduceEqDiff, Nat.reduceAdd, Nat.reduceLeDiff, Nat.reduceMul, Nat.reduceSub, Int.reduceLE, Int.reduceLT, Int.reduceEq, Int.reduceToNat, Int.reducePow, Int.reduceNeg]
  refine pword_callK hs' h2.ps rfl rfl ?_
  intro nm q3 h3
  simp -implicitDefEqProofs only [go_sem, ↓reduceIte, Nat.reduceEqDiff, Nat.reduceAdd, Nat.reduceLeDiff, Nat.reduceMul, Nat.reduceSub, Int.reduceLE, Int.reduceLT, Int.reduceEq, Int.reduceToNat, Int.reducePow, Int.reduceNeg, mset]
  refine hK _ ?_; clear hK
  refine bwp_seq fun K hK => bwp_region rfl ?_
  simp -implicitDefEqProofs only [go_sem, ↓reduceIte, Nat.reduceEqDiff, Nat.reduceAdd, Nat.reduceLeDiff, Nat.reduceMul, Nat.reduceSub, Int.reduceLE, Int.reduceLT, Int.reduceEq, Int.reduceToNat, Int.reducePow, Int.reduceNeg]
  refine pmust_callK hs' h3.ps [123] rfl rfl ?_
  intro q4 h4
  simp -implicitDefEqProofs only [go_sem, ↓reduceIte, Nat.reduceEqDiff, Nat.reduceAdd, Nat.reduceLeDiff, Nat.reduceMul, Nat.reduceSub, Int.reduceLE, Int.reduceLT, Int.reduceEq, Int.reduceToNat, Int.reducePow, Int.reduceNeg, mset]
  refine hK _ ?_; clear hK
  generalize hσ4 : posR (thn (posR (thn (posR (thn (goW s 0) ((tMust wTest).run s))) (tWord.run s))) ((tMust [123]).run s)) = σ4
  have hps4 := h4.ps
  rw [hσ4] at hps4
  refine bwp_seq fun K1 hK1 => ?_
  have fin1 : ∀ (S : St) (l : List Init) (q : PSt), Leads (mbound []) 77 S (ptS s nm (slD Init.cells l) [] q) → PQ s (thn σ4 ((tTake wInit tInits (.ret [])).run s)) l q → K1 S := by
    intro S inits q5 hS h5
    refine hK1 _ ?_; clear hK1
    refine bwp_leads hS ?_
    refine bwp_seq fun K2 hK2 => ?_
    refine bwp_block ?_
    refine ppa_loop hs4 h5.ps ?_
    intro ts q6 hl6 hls6 h6
    unfold ptS
    simp -implicitDefEqProofs only [go_sem, ↓reduceIte, Nat.reduceEqDiff, Nat.reduceAdd, Nat.reduceLeDiff, Nat.reduceMul, Nat.reduceSub, Int.reduceLE, Int.reduceLT, Int.reduceEq, Int.reduceToNat, Int.reducePow, Int.reduceNeg]
    refine hK2 _ ?_; clear hK2
    have hth : (thrC ts).length = ts.length := thrC_len ts
    have htk : (thrC ts).take ts.length = thrC ts := List.take_of_length_le (by omega)
    refine bwp_leads (Leads.frz (S' := ⟨[(5, .ptr 0 0), (6, .ptr 2 0), (2, .ptr 4 0), (3, .ptr 5 0)], [(0, parC q6), (1, lexQ s q6), (2, [.d (.str nm), .d (slD Init.cells inits), .d (thrD ts), .d (.int .i64 0), .d (.sl 0 [])]), (4, testD0.map .d), (5, [.d (.int .i64 0), .d (.int .i64 0)])], 6⟩) [(0, 0), (1, 1), (2, 2), (4, 4), (5, 5)] [(3, thrC ts)] ⟨?_, ?_, rfl, rfl, ?_⟩) ?_
    · simp [frzT, fget, AV.cv, cvL, zget, pget]
    · simp [frzM, pinv, zget, mget, mset, cvL, AV.cv, parC, lexQ, lexC, pget, testD0, thrD, htk]
    · simp [zokFrom, mget, mset, cvL_d]
    refine bwp_seq fun K2 hK2 => ?_
    refine bwp_block ?_
    have fin2 : ∀ (S : St) (c : Int × List (List Atom)) (q : PSt), Leads (mbound []) 77 S (pzS s ⟨nm, inits, ts, c.1, c.2⟩ q) → PQ s (thn (posR (thn (posR (thn σ4 ((tTake wInit tInits (.ret [])).run s))) ((tThreads fuelP).run s))) (tCond.run s)) c q → K2 S := by
      intro S c q7 hS h7
      refine hK2 _ ?_; clear hK2
      refine bwp_leads hS ?_
      unfold pzS
      refine bwp_seq fun K hK => bwp_region rfl ?_
      simp -implicitDefEqProofs only [go_sem, ↓reduceIte, Nat.reduceEqDiff, Nat.reduceAdd, Nat.reduceLeDiff, Nat.reduceMul, Nat.reduceSub, Int.reduceLE, Int.reduceLT, Int.reduceEq, Int.reduceToNat, Int.reducePow, Int.reduceNeg]
      refine pmust_callK hs' h7.ps [125] rfl rfl ?_
      intro q8 h8
      simp -implicitDefEqProofs only [go_sem, ↓reduceIte, Nat.reduceEqDiff, Nat.reduceAdd, Nat.reduceLeDiff, Nat.reduceMul, Nat.reduceSub, Int.reduceLE, Int.reduceLT, Int.reduceEq, Int.reduceToNat, Int.reducePow, Int.reduceNeg, mset]
      refine hK _ ?_; clear hK
      refine bwp_seq fun K3 hK3 => ?_
      have fin3 : ∀ (S : St) (q : PSt), Leads (mbound []) 77 S (pzS s ⟨nm, inits, ts, c.1, c.2⟩ q) → PQ s (thn (posR (thn (posR (thn (posR (thn (posR (thn σ4 ((tTake wInit tInits (.ret [])).run s))) ((tThreads fuelP).run s))) (tCond.run s))) ((tMust [125]).run s))) ((PT.cur fun d _ => if d = 4 then .ret (⟨nm, inits, ts, c.1, c.2⟩ : Test) else .bad 6).run s)) ⟨nm, inits, ts, c.1, c.2⟩ q → K3 S := by
        intro S q9 hS h9
        refine hK3 _ ?_; clear hK3
        refine bwp_leads hS ?_
        subst hσ4
        have hall : PQ s (thn (goW s 0) (tTest.run s)) ⟨nm, inits, ts, c.1, c.2⟩ q9 := PQ.bind h2 (PQ.bind h3 (PQ.bind h4 (PQ.bind h5 (PQ.bind h6 (PQ.bind h7 (PQ.bind h8 h9))))))
        unfold pzS
        refine bwp_seq fun K4 hK4 => ?_
        refine bwp_seq fun K hK => bwp_region rfl ?_
        simp -implicitDefEqProofs only [go_sem, ↓reduceIte, Nat.reduceEqDiff, Nat.reduceAdd, Nat.reduceLeDiff, Nat.reduceMul, Nat.reduceSub, Int.reduceLE, Int.reduceLT, Int.reduceEq, Int.reduceToNat, Int.reducePow, Int.reduceNeg]
        refine pok_callK s q9 rfl rfl ?_
        have heq := pTest_eq hs4
        rcases hall.fin with ⟨hc, b, hb⟩ | ⟨e, he, hc, hne, hat⟩
        · rw [hb] at heq
          simp only at heq
          simp -implicitDefEqProofs only [go_sem, ↓reduceIte, Nat.reduceEqDiff, Nat.reduceAdd, Nat.reduceLeDiff, Nat.reduceMul, Nat.reduceSub, Int.reduceLE, Int.reduceLT, Int.reduceEq, Int.reduceToNat, Int.reducePow, Int.reduceNeg, mset, eq_true hc, decide_true]
          refine hK _ ?_; clear hK
          refine bwp_cond false (by simp [ev, fget]) (fun h => nomatch h) (fun _ => ?_)
          refine bwp_skip ?_
          refine hK4 _ ?_; clear hK4
          refine bwp_seq fun K hK => bwp_region rfl ?_
          simp -implicitDefEqProofs only [go_sem, ↓reduceIte, Nat.reduceEqDiff, Nat.reduceAdd, Nat.reduceLeDiff, Nat.reduceMul, Nat.reduceSub, Int.reduceLE, Int.reduceLT, Int.reduceEq, Int.reduceToNat, Int.reducePow, Int.reduceNeg, testD]
          refine hK _ ?_; clear hK
          refine bwp_ret ?_
          simp -implicitDefEqProofs only [go_sem, ↓reduceIte, Nat.reduceEqDiff, Nat.reduceAdd, Nat.reduceLeDiff, Nat.reduceMul, Nat.reduceSub, Int.reduceLE, Int.reduceLT, Int.reduceEq, Int.reduceToNat, Int.reducePow, Int.reduceNeg]
          refine aend_ret (parseV (pTest s)) ?_ (hin _) ⟨rfl, rfl⟩
          rw [heq]
          simp [resA, resVs, resV, fget, mget, mset, loadA, h54, h26, parseV, testD, testD0]
        · rw [he] at heq
          simp only at heq
          have hc0 : ¬ q9.code = 0 := by rw [hc]; exact hne
          simp -implicitDefEqProofs only [go_sem, ↓reduceIte, Nat.reduceEqDiff, Nat.reduceAdd, Nat.reduceLeDiff, Nat.reduceMul, Nat.reduceSub, Int.reduceLE, Int.reduceLT, Int.reduceEq, Int.reduceToNat, Int.reducePow, Int.reduceNeg, mset, eq_false hc0, decide_false]
          refine hK _ ?_; clear hK
          refine bwp_cond true (by simp [ev, fget]) (fun _ => ?_) (fun h => nomatch h)
          refine bwp_seq fun K hK => bwp_region_draw rfl rfl ?_
          simp -implicitDefEqProofs only [go_sem, ↓reduceIte, Nat.reduceEqDiff, Nat.reduceAdd, Nat.reduceLeDiff, Nat.reduceMul, Nat.reduceSub, Int.reduceLE, Int.reduceLT, Int.reduceEq, Int.reduceToNat, Int.reducePow, Int.reduceNeg, parC]
          refine ⟨rfl, hK _ ?_⟩; clear hK
          refine bwp_ret ?_
          simp -implicitDefEqProofs only [go_sem, ↓reduceIte, Nat.reduceEqDiff, Nat.reduceAdd, Nat.reduceLeDiff, Nat.reduceMul, Nat.reduceSub, Int.reduceLE, Int.reduceLT, Int.reduceEq, Int.reduceToNat, Int.reducePow, Int.reduceNeg]
          refine aend_ret (parseV (pTest s)) ?_ (hin _) ⟨rfl, rfl⟩
          rw [heq]
          simp [resA, resVs, resV, fget, mget, mset, loadA, h54, h26, parseV, testD0, hc, hat]
      refine bwp_seq fun K hK => bwp_region rfl ?_
      simp -implicitDefEqProofs only [go_sem, ↓reduceIte, Nat.reduceEqDiff, Nat.reduceAdd, Nat.reduceLeDiff, Nat.reduceMul, Nat.reduceSub, Int.reduceLE, Int.reduceLT, Int.reduceEq, Int.reduceToNat, Int.reducePow, Int.reduceNeg]
      refine pok_callK s q8 rfl rfl ?_
      by_cases hc : q8.code = 0
      · by_cases h4 : q8.tok.kd = 4
        · simp -implicitDefEqProofs only [go_sem, ↓reduceIte, Nat.reduceEqDiff, Nat.reduceAdd, Nat.reduceLeDiff, Nat.reduceMul, Nat.reduceSub, Int.reduceLE, Int.reduceLT, Int.reduceEq, Int.reduceToNat, Int.reducePow, Int.reduceNeg, mset, eq_true hc, eq_true h4, parC, decide_true]
          refine hK _ ?_; clear hK
          refine bwp_cond false (by simp [ev, fget]) (fun h => nomatch h) (fun _ => ?_)
          refine bwp_skip ?_
          refine fin3 _ q8 (Leads.ent [(0, 0), (1, 1), (2, 2), (4, 4), (5, 5)] ⟨by simp [pzS, entT, fget, AV.ren, renL, pget], by simp [pzS, entM, pinv, mget, mset, renL, AV.ren, pget, parC, lexQ, lexC, testD, testD0], rfl, rfl⟩) ?_
          refine PQ.cur h8.ps ?_
          rw [if_pos h4]
          exact PQ.ret h8.ps
        · simp -implicitDefEqProofs only [go_sem, ↓reduceIte, Nat.reduceEqDiff, Nat.reduceAdd, Nat.reduceLeDiff, Nat.reduceMul, Nat.reduceSub, Int.reduceLE, Int.reduceLT, Int.reduceEq, Int.reduceToNat, Int.reducePow, Int.reduceNeg, mset, eq_true hc, eq_false h4, parC, decide_true]
          refine hK _ ?_; clear hK
          refine bwp_cond true (by simp [ev, fget]) (fun _ => ?_) (fun h => nomatch h)
          refine bwp_region rfl ?_
          simp -implicitDefEqProofs only [go_sem, ↓reduceIte, Nat.reduceEqDiff, Nat.reduceAdd, Nat.reduceLeDiff, Nat.reduceMul, Nat.reduceSub, Int.reduceLE, Int.reduceLT, Int.reduceEq, Int.reduceToNat, Int.reducePow, Int.reduceNeg]
          refine pfail_callK s q8 6 rfl rfl ?_
          simp -implicitDefEqProofs only [go_sem, ↓reduceIte, Nat.reduceEqDiff, Nat.reduceAdd, Nat.reduceLeDiff, Nat.reduceMul, Nat.reduceSub, Int.reduceLE, Int.reduceLT, Int.reduceEq, Int.reduceToNat, Int.reducePow, Int.reduceNeg, mset]
          refine fin3 _ (failF q8 6) (Leads.ent [(0, 0), (1, 1), (2, 2), (4, 4), (5, 5)] ⟨by simp [pzS, entT, fget, AV.ren, renL, pget], by simp [pzS, entM, pinv, mget, mset, renL, AV.ren, pget, parC, lexQ, lexC, testD, testD0], rfl, rfl⟩) ?_
          refine PQ.cur h8.ps ?_
          rw [if_neg h4]
          exact PQ.bad h8.ps (by decide) _
      · simp -implicitDefEqProofs only [go_sem, ↓reduceIte, Nat.reduceEqDiff, Nat.reduceAdd, Nat.reduceLeDiff, Nat.reduceMul, Nat.reduceSub, Int.reduceLE, Int.reduceLT, Int.reduceEq, Int.reduceToNat, Int.reducePow, Int.reduceNeg, mset, eq_false hc, parC, decide_false]
        refine hK _ ?_; clear hK
        refine bwp_cond false (by simp [ev, fget]) (fun h => nomatch h) (fun _ => ?_)
        refine bwp_skip ?_
        refine fin3 _ q8 (Leads.ent [(0, 0), (1, 1), (2, 2), (4, 4), (5, 5)] ⟨by simp [pzS, entT, fget, AV.ren, renL, pget], by simp [pzS, entM, pinv, mget, mset, renL, AV.ren, pget, parC, lexQ, lexC, testD, testD0], rfl, rfl⟩) ?_
        have hp8 := h8.ps
        generalize posR (thn (posR (thn (posR (thn (posR (thn σ4 ((tTake wInit tInits (.ret [])).run s))) ((tThreads fuelP).run s))) (tCond.run s))) ((tMust [125]).run s)) = σ8 at hp8 ⊢
        cases σ8 with
        | ok a => exact absurd hp8.code hc
        | error e => exact hp8
    refine bwp_seq fun K hK => bwp_region rfl ?_
    simp -implicitDefEqProofs only [go_sem, ↓reduceIte, Nat.reduceEqDiff, Nat.reduceAdd, Nat.reduceLeDiff, Nat.reduceMul, Nat.reduceSub, Int.reduceLE, Int.reduceLT, Int.reduceEq, Int.reduceToNat, Int.reducePow, Int.reduceNeg]
    refine ptake_callK hs' h6.ps wExists rfl rfl ?_
    intro q7 hy hn
    cases hb : tkB q6 wExists with
    | true =>
      have h7 := hy hb
      simp -implicitDefEqProofs only [go_sem, ↓reduceIte, Nat.reduceEqDiff, Nat.reduceAdd, Nat.reduceLeDiff, Nat.reduceMul, Nat.reduceSub, Int.reduceLE, Int.reduceLT, Int.reduceEq, Int.reduceToNat, Int.reducePow, Int.reduceNeg, mset]
      refine hK _ ?_; clear hK
      refine bwp_cond true (by simp [ev, fget]) (fun _ => ?_) (fun h => nomatch h)
      refine bwp_region rfl ?_
      simp -implicitDefEqProofs only [go_sem, ↓reduceIte, Nat.reduceEqDiff, Nat.reduceAdd, Nat.reduceLeDiff, Nat.reduceMul, Nat.reduceSub, Int.reduceLE, Int.reduceLT, Int.reduceEq, Int.reduceToNat, Int.reducePow, Int.reduceNeg]
      refine pcond_callK hs4 h7 1 rfl rfl ?_
      intro rows q8 hr h8
      simp -implicitDefEqProofs only [go_sem, ↓reduceIte, Nat.reduceEqDiff, Nat.reduceAdd, Nat.reduceLeDiff, Nat.reduceMul, Nat.reduceSub, Int.reduceLE, Int.reduceLT, Int.reduceEq, Int.reduceToNat, Int.reducePow, Int.reduceNeg, mset]
      refine fin2 _ (1, rows) q8 (Leads.ent [(0, 0), (1, 1), (2, 2), (4, 4), (5, 5)] ⟨by simp [pzS, entT, fget, AV.ren, renL, pget], by simp [pzS, entM, pinv, mget, mset, renL, AV.ren, pget, parC, lexQ, lexC, testD, testD0, rowsD], rfl, rfl⟩) ?_
      exact PQ.take_yes h6.ps hb h8
    | false =>
      have h7 := hn hb
      subst h7
      simp -implicitDefEqProofs only [go_sem, ↓reduceIte, Nat.reduceEqDiff, Nat.reduceAdd, Nat.reduceLeDiff, Nat.reduceMul, Nat.reduceSub, Int.reduceLE, Int.reduceLT, Int.reduceEq, Int.reduceToNat, Int.reducePow, Int.reduceNeg, mset]
      refine hK _ ?_; clear hK
      refine bwp_cond false (by simp [ev, fget]) (fun h => nomatch h) (fun _ => ?_)
      refine bwp_seq fun K hK => bwp_region rfl ?_
      simp -implicitDefEqProofs only [go_sem, ↓reduceIte, Nat.reduceEqDiff, Nat.reduceAdd, Nat.reduceLeDiff, Nat.reduceMul, Nat.reduceSub, Int.reduceLE, Int.reduceLT, Int.reduceEq, Int.reduceToNat, Int.reducePow, Int.reduceNeg]
      refine ptake_callK hs' h6.ps wForall rfl rfl ?_
      intro q8 hy hn
      cases hb2 : tkB q7 wForall with
      | true =>
        have h8 := hy hb2
        simp -implicitDefEqProofs only [go_sem, ↓reduceIte, Nat.reduceEqDiff, Nat.reduceAdd, Nat.reduceLeDiff, Nat.reduceMul, Nat.reduceSub, Int.reduceLE, Int.reduceLT, Int.reduceEq, Int.reduceToNat, Int.reducePow, Int.reduceNeg, mset]
        refine hK _ ?_; clear hK
        refine bwp_cond true (by simp [ev, fget]) (fun _ => ?_) (fun h => nomatch h)
        refine bwp_region rfl ?_
        simp -implicitDefEqProofs only [go_sem, ↓reduceIte, Nat.reduceEqDiff, Nat.reduceAdd, Nat.reduceLeDiff, Nat.reduceMul, Nat.reduceSub, Int.reduceLE, Int.reduceLT, Int.reduceEq, Int.reduceToNat, Int.reducePow, Int.reduceNeg]
        refine pcond_callK hs4 h8 2 rfl rfl ?_
        intro rows q9 hr h9
        simp -implicitDefEqProofs only [go_sem, ↓reduceIte, Nat.reduceEqDiff, Nat.reduceAdd, Nat.reduceLeDiff, Nat.reduceMul, Nat.reduceSub, Int.reduceLE, Int.reduceLT, Int.reduceEq, Int.reduceToNat, Int.reducePow, Int.reduceNeg, mset]
        refine fin2 _ (2, rows) q9 (Leads.ent [(0, 0), (1, 1), (2, 2), (4, 4), (5, 5)] ⟨by simp [pzS, entT, fget, AV.ren, renL, pget], by simp [pzS, entM, pinv, mget, mset, renL, AV.ren, pget, parC, lexQ, lexC, testD, testD0], rfl, rfl⟩) ?_
        exact PQ.take_no h6.ps hb (PQ.take_yes h6.ps hb2 h9)
      | false =>
        have h8 := hn hb2
        subst h8
        simp -implicitDefEqProofs only [go_sem, ↓reduceIte, Nat.reduceEqDiff, Nat.reduceAdd, Nat.reduceLeDiff, Nat.reduceMul, Nat.reduceSub, Int.reduceLE, Int.reduceLT, Int.reduceEq, Int.reduceToNat, Int.reducePow, Int.reduceNeg, mset]
        refine hK _ ?_; clear hK
        refine bwp_cond false (by simp [ev, fget]) (fun h => nomatch h) (fun _ => ?_)
        refine bwp_skip ?_
        refine fin2 _ (0, []) q8 (Leads.ent [(0, 0), (1, 1), (2, 2), (4, 4), (5, 5)] ⟨by simp [pzS, entT, fget, AV.ren, renL, pget], by simp [pzS, entM, pinv, mget, mset, renL, AV.ren, pget, parC, lexQ, lexC, testD, testD0, rowsD, rowsC], rfl, rfl⟩) ?_
        exact PQ.take_no h6.ps hb (PQ.take_no h6.ps hb2 (PQ.ret h6.ps))
  refine bwp_seq fun K hK => bwp_region rfl ?_
  simp -implicitDefEqProofs only [go_sem, ↓reduceIte, Nat.reduceEqDiff, Nat.reduceAdd, Nat.reduceLeDiff, Nat.reduceMul, Nat.reduceSub, Int.reduceLE, Int.reduceLT, Int.reduceEq, Int.reduceToNat, Int.reducePow, Int.reduceNeg]
  refine ptake_callK hs' hps4 wInit rfl rfl ?_
  intro q5 hy hn
  cases hb : tkB q4 wInit with
  | true =>
    have h5 := hy hb
    simp -implicitDefEqProofs only [go_sem, ↓reduceIte, Nat.reduceEqDiff, Nat.reduceAdd, Nat.reduceLeDiff, Nat.reduceMul, Nat.reduceSub, Int.reduceLE, Int.reduceLT, Int.reduceEq, Int.reduceToNat, Int.reducePow, Int.reduceNeg, mset]
    refine hK _ ?_; clear hK
    refine bwp_cond true (by simp [ev, fget]) (fun _ => ?_) (fun h => nomatch h)
    refine bwp_region rfl ?_
    simp -implicitDefEqProofs only [go_sem, ↓reduceIte, Nat.reduceEqDiff, Nat.reduceAdd, Nat.reduceLeDiff, Nat.reduceMul, Nat.reduceSub, Int.reduceLE, Int.reduceLT, Int.reduceEq, Int.reduceToNat, Int.reducePow, Int.reduceNeg]
    refine pinit_callK hs4 h5 rfl rfl ?_
    intro l q6 hl h6
    simp -implicitDefEqProofs only [go_sem, ↓reduceIte, Nat.reduceEqDiff, Nat.reduceAdd, Nat.reduceLeDiff, Nat.reduceMul, Nat.reduceSub, Int.reduceLE, Int.reduceLT, Int.reduceEq, Int.reduceToNat, Int.reducePow, Int.reduceNeg, mset]
    refine fin1 _ l q6 (Leads.ent [(0, 0), (1, 1), (2, 2), (3, 3), (4, 4), (5, 5)] ⟨by simp [ptS, entT, fget, AV.ren, renL, pget], by simp [ptS, thrC, entM, pinv, mget, mset, renL, AV.ren, pget, parC, lexQ, lexC, testD, testD0], rfl, rfl⟩) ?_
    exact PQ.take_yes hps4 hb h6
  | false =>
    have h5 := hn hb
    subst h5
    simp -implicitDefEqProofs only [go_sem, ↓reduceIte, Nat.reduceEqDiff, Nat.reduceAdd, Nat.reduceLeDiff, Nat.reduceMul, Nat.reduceSub, Int.reduceLE, Int.reduceLT, Int.reduceEq, Int.reduceToNat, Int.reducePow, Int.reduceNeg, mset]
    refine hK _ ?_; clear hK
    refine bwp_cond false (by simp [ev, fget]) (fun h => nomatch h) (fun _ => ?_)
    refine bwp_skip ?_
    refine fin1 _ [] q5 (Leads.ent [(0, 0), (1, 1), (2, 2), (3, 3), (4, 4), (5, 5)] ⟨by simp [ptS, entT, fget, AV.ren, renL, pget], by simp [ptS, slD, thrC, entM, pinv, mget, mset, renL, AV.ren, pget, parC, lexQ, lexC, testD, testD0], rfl, rfl⟩) ?_
    exact PQ.take_no hps4 hb (PQ.ret hps4)

end Go.Proofs.YtpfbljkfbjjlkaaDoor

/- The document's reader: Tree. -/
namespace Go.Proofs.YtpfbljkfbjjlkaaDoor
open Go Go.Jq
set_option maxRecDepth 100000
set_option linter.unusedSimpArgs false

theorem RQ.fin {α : Type} {s : List UInt8} {σ : PR Nat} {t : PT α} {x : α} {q q' : RSt} {b : PR (α × Nat)} (h : RQ s b x q) (hl : RL s (posR b) q') (hσ : b = thn σ (t.run s)) : (q'.code = 0 ∧ ∃ c, b = .ok (x, c)) ∨ (∃ e, b = .error e ∧ q'.code = e.1 ∧ e.1 ≠ 0 ∧ q'.eat = e.2) := by
  cases b with
  | ok p =>
    obtain ⟨y, c⟩ := p
    obtain ⟨rfl, h⟩ := h
    exact .inl ⟨hl.code, c, rfl⟩
  | error e => exact .inr ⟨e, rfl, hl⟩

end Go.Proofs.YtpfbljkfbjjlkaaDoor

/- Two lists held against each other, plain. -/
namespace Go.Proofs.YtpfbljkfbjjlkaaDoor
open Go Go.Jq
set_option maxRecDepth 100000
set_option linter.unusedSimpArgs false

end Go.Proofs.YtpfbljkfbjjlkaaDoor

/- The document's Same: its loops. -/
namespace Go.Proofs.YtpfbljkfbjjlkaaDoor
open Go Go.Jq
set_option maxRecDepth 100000
set_option linter.unusedSimpArgs false

end Go.Proofs.YtpfbljkfbjjlkaaDoor

/- The document's Same, over data. -/
namespace Go.Proofs.YtpfbljkfbjjlkaaDoor
open Go Go.Jq
set_option maxRecDepth 100000
set_option linter.unusedSimpArgs false

end Go.Proofs.YtpfbljkfbjjlkaaDoor

/- What Parse and Tree come to, as tests; Same of them; what the document fixes. -/
namespace Go.Proofs.YtpfbljkfbjjlkaaDoor
open Go Go.Jq
set_option maxRecDepth 100000
set_option linter.unusedSimpArgs false

/-! ### Parse's values -/

def pT (r : PR Test) : Test := match r with
  | .ok t => t
  | .error _ => ⟨[], [], [], 0, []⟩
def pCells (r : PR Test) : List DV := match r with
  | .ok t => testD t
  | .error _ => testD0
def pCode (r : PR Test) : Int := match r with
  | .ok _ => 0
  | .error e => e.1
def pAt (r : PR Test) : Nat := match r with
  | .ok _ => 0
  | .error e => e.2

theorem parseV_eq (r : PR Test) : parseV r = .tup [.agg ((pCells r).map .d), .agg [.d (.int .i64 (pCode r)), .d (.int .i64 (pAt r))]] := by
  cases r <;> rfl

theorem parse2_pure {s : List UInt8} (hs : s.length ≤ maxLen) : Pure Tryd.prog 25 [.d (.str s)] (.tup [.agg ((pCells (pTest s)).map .d), .agg [.d (.int .i64 (pCode (pTest s))), .d (.int .i64 (pAt (pTest s)))]]) := by
  rw [← parseV_eq]; exact parse1_pure hs
/-- A parsed test's cells, one by one. -/
theorem pCells_split (r : PR Test) : ∃ I T A, pCells r = [.str (pT r).name, I, T, .int .i64 (pT r).kind, A] := by
  cases r with
  | ok t => exact ⟨_, _, _, rfl⟩
  | error e => exact ⟨_, _, _, rfl⟩

/-! ### What the document fixes -/

def awT : List UInt8 := [116, 101, 115, 116, 32, 97, 32, 123, 32, 116, 104, 114, 101, 97, 100, 32, 123, 32, 102, 101, 110, 99, 101, 32, 59, 32, 125, 32, 125]

theorem awake_test : pTest awT = .ok ⟨[97], [], [[⟨3, 0, 0, ⟨0, 0⟩, 0, ⟨0, 0⟩, 0⟩]], 0, []⟩ := by kernel_rfl

set_option maxHeartbeats 4000000 in
theorem awake3_pure : Pure Tryd.prog 24 [] (.d (.bool true)) := by
  have k := parse1_pure (s := awT) (by decide)
  rw [awake_test] at k
  simp only [parseV, testD, slD, thrD, thrC, rowsD, rowsC, awT, Ins.cells, List.length_cons, List.length_nil, List.flatMap_cons, List.flatMap_nil, List.map_cons, List.map_nil, List.cons_append, List.nil_append, List.append_nil, Nat.zero_add, Nat.reduceAdd] at k
  refine acalls_of Tryd.func24 ac24_ok Tryd.ntmps24 Tryd.results24 rfl ?_
  unfold ac24
  refine bwp_seq fun K hK => bwp_region rfl ?_
  simp -implicitDefEqProofs only [go_sem, ↓reduceIte, Nat.reduceEqDiff, Nat.reduceAdd, Nat.reduceLeDiff, Nat.reduceMul, Nat.reduceSub, Int.reduceLE, Int.reduceLT, Int.reduceEq, Int.reduceToNat, Int.reducePow, Int.reduceNeg]
  refine hK _ ?_; clear hK
  refine bwp_seq fun K hK => bwp_region rfl ?_
  simp -implicitDefEqProofs only [go_sem, ↓reduceIte, Nat.reduceEqDiff, Nat.reduceAdd, Nat.reduceLeDiff, Nat.reduceMul, Nat.reduceSub, Int.reduceLE, Int.reduceLT, Int.reduceEq, Int.reduceToNat, Int.reducePow, Int.reduceNeg]
  repeat' (first
    | (refine gateK_split (fun hb => ?_) (fun hb => ?_) <;> simp -implicitDefEqProofs only [go_sem, ↓reduceIte, Nat.reduceEqDiff, Nat.reduceAdd, Nat.reduceLeDiff, Nat.reduceMul, Nat.reduceSub, Int.reduceLE, Int.reduceLT, Int.reduceEq, Int.reduceToNat, Int.reducePow, Int.reduceNeg, hb])
    | (refine dGateK_split (fun hb => ?_) (fun hb => ?_) <;> simp -implicitDefEqProofs only [go_sem, ↓reduceIte, Nat.reduceEqDiff, Nat.reduceAdd, Nat.reduceLeDiff, Nat.reduceMul, Nat.reduceSub, Int.reduceLE, Int.reduceLT, Int.reduceEq, Int.reduceToNat, Int.reducePow, Int.reduceNeg, hb])
    | (refine callK_pure (k) rfl rfl ?_; simp -implicitDefEqProofs only [go_sem, ↓reduceIte, Nat.reduceEqDiff, Nat.reduceAdd, Nat.reduceLeDiff, Nat.reduceMul, Nat.reduceSub, Int.reduceLE, Int.reduceLT, Int.reduceEq, Int.reduceToNat, Int.reducePow, Int.reduceNeg])
    | (refine dCallK_pure (k) rfl rfl ?_; simp -implicitDefEqProofs only [go_sem, ↓reduceIte, Nat.reduceEqDiff, Nat.reduceAdd, Nat.reduceLeDiff, Nat.reduceMul, Nat.reduceSub, Int.reduceLE, Int.reduceLT, Int.reduceEq, Int.reduceToNat, Int.reducePow, Int.reduceNeg])
    | (rw [if_pos (by (try simp only [List.length_append, List.length_cons, List.length_nil, List.length_map]); omega)]; simp -implicitDefEqProofs only [go_sem, ↓reduceIte, Nat.reduceEqDiff, Nat.reduceAdd, Nat.reduceLeDiff, Nat.reduceMul, Nat.reduceSub, Int.reduceLE, Int.reduceLT, Int.reduceEq, Int.reduceToNat, Int.reducePow, Int.reduceNeg]))
  refine hK _ ?_; clear hK
  refine bwp_seq fun K hK => bwp_region rfl ?_
  simp -implicitDefEqProofs only [go_sem, ↓reduceIte, Nat.reduceEqDiff, Nat.reduceAdd, Nat.reduceLeDiff, Nat.reduceMul, Nat.reduceSub, Int.reduceLE, Int.reduceLT, Int.reduceEq, Int.reduceToNat, Int.reducePow, Int.reduceNeg]
  refine hK _ ?_; clear hK
  refine bwp_ret ?_
  simp only [go_sem]
  refine aend_ret _ rfl rfl ⟨?_, rfl⟩
  simp [fget]

end Go.Proofs.YtpfbljkfbjjlkaaDoor

/- What stands behind an error's token says nothing. -/
namespace Go.Proofs.YtpfbljkfbjjlkaaDoor
open Go Go.Jq
set_option maxRecDepth 100000
set_option linter.unusedSimpArgs false

theorem skipN_cut : ∀ (l : List UInt8) (b : Bool) (m : Nat) (z : List UInt8), skipN b l < m → m ≤ l.length → skipN b (l.take m ++ z) = skipN b l
  | [], _, m, _, h, h' => by simp at h'; subst h'; exact absurd h (Nat.not_lt_zero _)
  | c :: r, b, m, z, h, h' => by
    obtain ⟨m, rfl⟩ : ∃ k, m = k + 1 := ⟨m - 1, by omega⟩
    simp only [List.length_cons] at h'
    simp only [List.take_succ_cons, List.cons_append]
    cases b with
    | true =>
      simp only [skipN] at h ⊢
      rw [skipN_cut r _ m z (by omega) (by omega)]
    | false =>
      simp only [skipN] at h ⊢
      split
      · rename_i hb
        rw [if_pos hb] at h
        rw [skipN_cut r _ m z (by omega) (by omega)]
      · rename_i hb
        rw [if_neg hb] at h
        split
        · rename_i hc
          rw [if_pos hc] at h
          rw [skipN_cut r _ m z (by omega) (by omega)]
        · rfl

theorem blank_nots {x : UInt8} (hx : blankB x = true) : alnB x = false ∧ digB x = false ∧ (x ≠ 60 ∧ x ≠ 62 ∧ x ≠ 61) := by
  simp only [blankB, Bool.or_eq_true, beq_iff_eq] at hx
  rcases hx with (rfl | rfl) | rfl <;> exact ⟨rfl, rfl, by decide⟩

theorem runL_cut {x : UInt8} (hx : blankB x = true) : ∀ (r : List UInt8) (k : Nat) (z : List UInt8), runL r ≤ k → k ≤ r.length → runL (r.take k ++ x :: z) = runL r ∧ (r.take k ++ x :: z).take (runL r) = r.take (runL r)
  | [], k, z, _, h => by simp at h; subst h; simp [runL, (blank_nots hx).1]
  | c :: r, 0, z, h, _ => by
    have h0 : runL (c :: r) = 0 := by omega
    rw [h0]
    simp [runL, (blank_nots hx).1]
  | c :: r, k + 1, z, h, h' => by
    simp only [List.length_cons] at h'
    simp only [List.take_succ_cons, List.cons_append, runL] at h ⊢
    split
    · rename_i hc
      rw [if_pos hc] at h
      obtain ⟨h1, h2⟩ := runL_cut hx r k z (by omega) (by omega)
      rw [h1]
      refine ⟨rfl, ?_⟩
      rw [show 1 + runL r = runL r + 1 by omega, List.take_succ_cons, List.take_succ_cons, h2]
    · exact ⟨rfl, by simp⟩

theorem head_cut (x : UInt8) (r : List UInt8) (k : Nat) (z : List UInt8) (h : k ≤ r.length) : (r.take k ++ x :: z).head? = if k = 0 then some x else r.head? := by
  cases k with
  | zero => simp
  | succ k =>
    cases r with
    | nil => simp at h
    | cons c r => simp

theorem runL_head {r : List UInt8} (h : runL r = 0) : (r.head?.map digB).getD false = false := by
  cases r with
  | nil => rfl
  | cons c r =>
    simp only [List.head?_cons, Option.map_some, Option.getD_some]
    cases hd : digB c with
    | false => rfl
    | true =>
      have : runL (c :: r) = 1 + runL r := by rw [runL, if_pos (by simp [alnB, hd])]
      omega

/-- A token is the same with a blank behind it. -/
theorem tokAt_cut {x : UInt8} (hx : blankB x = true) (a : Nat) {l : List UInt8} {m : Nat} (h1 : 1 ≤ m) (hm : m ≤ l.length) (h : m = l.length ∨ ((tokAt a l).2.2 = 0 ∧ (tokAt a l).2.1 ≤ a + m)) (z : List UInt8) : tokAt a (l.take m ++ x :: z) = tokAt a l := by
  cases l with
  | nil => simp at hm; omega
  | cons c r =>
    obtain ⟨k, rfl⟩ : ∃ k, m = k + 1 := ⟨m - 1, by omega⟩
    simp only [List.length_cons] at hm h
    have hk : k ≤ r.length := by omega
    have hlen : ∀ r : List UInt8, runL r ≤ r.length := by
      intro r
      induction r with
      | nil => simp [runL]
      | cons c r ih => rw [runL]; simp only [List.length_cons]; split <;> omega
    simp only [List.take_succ_cons, List.cons_append]
    have hh := head_cut x r k z hk
    rw [tokAt] at h ⊢
    rw [tokAt]
    by_cases hc : letB c = true
    · rw [if_pos hc] at h ⊢
      rw [if_pos hc]
      have hr : runL r ≤ k := by
        rcases h with h | h
        · have := hlen r; omega
        · simp only at h; omega
      obtain ⟨e1, e2⟩ := runL_cut hx r k z hr hk
      rw [e1, e2]
    · rw [if_neg hc] at h ⊢
      rw [if_neg hc]
      have hdd : (digB c = true ∨ (c = 45 ∧ ((r.take k ++ x :: z).head?.map digB).getD false = true)) ↔ (digB c = true ∨ (c = 45 ∧ (r.head?.map digB).getD false = true)) := by
        rw [hh]
        by_cases k0 : k = 0
        · rw [if_pos k0]
          have e : (Option.map digB (some x)).getD false = false := (blank_nots hx).2.1
          rw [e]
          constructor
          · rintro (h' | ⟨_, h'⟩)
            · exact .inl h'
            · cases h'
          · rintro (h' | ⟨hc45, h'⟩)
            · exact .inl h'
            · exfalso
              have hr0 : runL r = 0 ∨ r = [] := by
                rcases h with h | h
                · right
                  cases r with
                  | nil => rfl
                  | cons _ _ => simp at h; omega
                · left
                  rw [if_pos (.inr ⟨hc45, h'⟩)] at h
                  split at h
                  · simp only at h; omega
                  · simp at h
              rcases hr0 with h0 | h0
              · rw [runL_head h0] at h'; cases h'
              · subst h0; simp at h'
        · rw [if_neg k0]
      by_cases hd : digB c = true ∨ (c = 45 ∧ (r.head?.map digB).getD false = true)
      · rw [if_pos hd] at h ⊢
        rw [if_pos (hdd.2 hd)]
        have hr : runL r ≤ k := by
          rcases h with h | h
          · have := hlen r; omega
          · split at h
            · simp only at h; omega
            · simp at h
        obtain ⟨e1, e2⟩ := runL_cut hx r k z hr hk
        rw [e1, e2]
      · rw [if_neg hd] at h ⊢
        rw [if_neg (fun h' => hd (hdd.1 h'))]
        have hs : signL (c :: (r.take k ++ x :: z)) = signL (c :: r) ∧ signL (c :: r) ≤ k + 1 := by
          by_cases k0 : k = 0
          · subst k0
            have hne2 : signL (c :: r) ≠ 2 := by
              intro h2
              rcases h with h | h
              · cases r with
                | nil =>
                  rw [signL] at h2
                  simp at h2
                  split at h2 <;> omega
                | cons _ _ => simp at h
              · rw [if_neg (by rw [h2]; decide), h2] at h
                simp only at h
                omega
            rw [signL] at hne2
            rw [signL, signL, hh, if_pos rfl]
            split at hne2
            · exact absurd rfl hne2
            · rename_i hn
              rw [if_neg hn, if_neg (by have := (blank_nots hx).2.2; simp [this])]
              refine ⟨rfl, ?_⟩
              split <;> omega
          · rw [signL, signL, hh, if_neg k0]
            refine ⟨rfl, ?_⟩
            split
            · omega
            · split <;> omega
        rw [hs.1]
        split
        · rfl
        · have ht : (c :: (r.take k ++ x :: z)).take (signL (c :: r)) = (c :: r).take (signL (c :: r)) := by
            rw [show c :: (r.take k ++ x :: z) = (c :: r).take (k + 1) ++ x :: z by simp, List.take_append_of_le_length (by simp only [List.length_take, List.length_cons]; omega), List.take_take, Nat.min_eq_left hs.2]
          rw [ht]

/-- A text cut behind a place, with a blank and more behind it. -/
def cutT (s : List UInt8) (to : Nat) (tail : List UInt8) : List UInt8 := s.take to ++ 32 :: tail

theorem nextW_cut {s tail : List UInt8} {a to : Nat} (_ : a ≤ s.length) (hto : to ≤ s.length) (hq : skipA s a < to) (he : to = s.length ∨ ((nextW s a).2.2 = 0 ∧ (nextW s a).2.1 ≤ to)) :
    skipA (cutT s to tail) a = skipA s a ∧ nextW (cutT s to tail) a = nextW s a := by
  have hla := Nat.le_trans (show a ≤ skipA s a by unfold skipA; omega) (Nat.le_of_lt hq)
  have hdrop : ∀ q, q ≤ to → (cutT s to tail).drop q = (s.drop q).take (to - q) ++ 32 :: tail := by
    intro q h
    unfold cutT
    rw [List.drop_append_of_le_length (by simp; omega), List.drop_take]
  have h1 : skipA (cutT s to tail) a = skipA s a := by
    unfold skipA at hq ⊢
    rw [hdrop a hla, skipN_cut _ _ _ _ (by omega) (by simp; omega)]
  refine ⟨h1, ?_⟩
  unfold nextW at he ⊢
  rw [h1, hdrop _ (Nat.le_of_lt hq)]
  refine tokAt_cut (x := 32) rfl _ (by omega) (by simp; omega) ?_ _
  rcases he with he | he
  · left; simp; omega
  · right; exact ⟨he.1, by omega⟩

theorem PT.run_err_ge {α : Type} {s : List UInt8} (t : PT α) : ∀ {a : Nat} {c : Int} {p : Nat}, a ≤ s.length → (nextW s a).2.2 = 0 → t.run s a = .error (c, p) → p = skipA s a ∨ (nextW s a).2.1 ≤ p := by
  induction t with
  | ret x => intro a c p ha h0 h; cases h
  | bad c =>
    intro a c' p ha h0 h
    simp only [run, Except.error.injEq, Prod.mk.injEq] at h
    obtain ⟨_, rfl⟩ := h
    left
    exact (next_text ha (t := curT s a) (e := (nextW s a).2.1) (by unfold curT; rw [← h0])).1
  | cur k ih => intro a c p ha h0 h; exact ih _ _ ha h0 h
  | eat k ih =>
    intro a c p ha h0 h
    have h1 := nextW_to ha
    have hsk : ∀ b, b ≤ skipA s b := fun b => by unfold skipA; omega
    simp only [run] at h
    right
    split at h
    · rename_i b' hb
      obtain ⟨rfl, h2⟩ := eatW_ok hb
      have h3 := nextW_to h1.2.1
      have := hsk (nextW s a).2.1
      rcases ih h1.2.1 h2 h with h' | h'
      · omega
      · omega
    · rename_i e he
      cases h
      unfold eatW at he
      rw [(goW_err he).2.2]
      exact hsk _

/-- What a cut must keep of an error. -/
def Keeps (s : List UInt8) (p to : Nat) : Prop := to ≤ s.length ∧ p < to ∧ (to = s.length ∨ ((nextW s p).2.2 = 0 ∧ (nextW s p).2.1 ≤ to))

theorem skipA_skip (s : List UInt8) {a : Nat} (ha : a ≤ s.length) : skipA s (skipA s a) = skipA s a ∧ nextW s (skipA s a) = nextW s a := by
  have h1 : skipA s (skipA s a) = skipA s a := by
    have key : ∀ (l : List UInt8) (b : Bool), skipN false (l.drop (skipN b l)) = 0 := by
      intro l
      induction l with
      | nil => intro b; cases b <;> rfl
      | cons c r ih =>
        intro b
        cases b with
        | true =>
          simp only [skipN]
          rw [show 1 + skipN (c != 10) r = skipN (c != 10) r + 1 by omega, List.drop_succ_cons]
          exact ih _
        | false =>
          simp only [skipN]
          split
          · rw [show 1 + skipN false r = skipN false r + 1 by omega, List.drop_succ_cons]
            exact ih _
          · rename_i hb
            split
            · rw [show 1 + skipN true r = skipN true r + 1 by omega, List.drop_succ_cons]
              exact ih _
            · rename_i hc
              rw [List.drop_zero, skipN, if_neg hb, if_neg hc]
    have := key (s.drop a) false
    unfold skipA
    rw [← List.drop_drop, this]
    omega
  refine ⟨h1, ?_⟩
  unfold nextW
  rw [h1]

theorem goW_cut {s tail : List UInt8} {a to p : Nat} {c : Int} (ha : a ≤ s.length) (hk : Keeps s p to) (h : goW s a = .error (c, p)) : goW (cutT s to tail) a = .error (c, p) := by
  obtain ⟨h1, h2, rfl⟩ := goW_err h
  obtain ⟨k1, k2, k3⟩ := hk
  have h3 := (skipA_skip s ha).2
  rw [h3] at k3
  have := nextW_cut (tail := tail) ha k1 k2 k3
  unfold goW
  rw [this.1, this.2, if_neg (by rw [h1]; exact h2), h1]

theorem PT.run_cut {α : Type} {s tail : List UInt8} {to : Nat} (t : PT α) : ∀ {a : Nat} {c : Int} {p : Nat}, a ≤ s.length → (nextW s a).2.2 = 0 → t.run s a = .error (c, p) → Keeps s p to → t.run (cutT s to tail) a = .error (c, p) ∧ nextW (cutT s to tail) a = nextW s a := by
  have base : ∀ {β : Type} (t : PT β) {a : Nat} {c : Int} {p : Nat}, a ≤ s.length → (nextW s a).2.2 = 0 → t.run s a = .error (c, p) → Keeps s p to → nextW (cutT s to tail) a = nextW s a := by
    intro β t a c p ha h0 h hk
    obtain ⟨k1, k2, k3⟩ := hk
    have hge := t.run_err_ge ha h0 h
    have hsk : skipA s a ≤ (nextW s a).2.1 := by
      have := next_text ha (t := curT s a) (e := (nextW s a).2.1) (by unfold curT; rw [← h0])
      omega
    refine (nextW_cut (tail := tail) ha k1 ?_ ?_).2
    · rcases hge with h' | h' <;> omega
    · rcases hge with h' | h'
      · have h3 := (skipA_skip s ha).2
        rw [← h'] at h3
        rw [h3] at k3
        exact k3
      · rcases k3 with k3 | k3
        · exact .inl k3
        · exact .inr ⟨h0, by omega⟩
  induction t with
  | ret x => intro a c p ha h0 h; cases h
  | bad c' =>
    intro a c p ha h0 h hk
    have hb := base (PT.bad c' : PT α) ha h0 h hk
    refine ⟨?_, hb⟩
    simp only [run] at h ⊢
    unfold curT at h ⊢
    rw [hb]
    exact h
  | cur k ih =>
    intro a c p ha h0 h hk
    have hb := base (PT.cur k) ha h0 h hk
    refine ⟨?_, hb⟩
    simp only [run] at h ⊢
    have e : curT (cutT s to tail) a = curT s a := by unfold curT; rw [hb]
    rw [e]
    exact (ih _ _ ha h0 h hk).1
  | eat k ih =>
    intro a c p ha h0 h hk
    have hb := base (PT.eat k) ha h0 h hk
    refine ⟨?_, hb⟩
    have h1 := nextW_to ha
    simp only [run] at h ⊢
    have ee : eatW (cutT s to tail) a = goW (cutT s to tail) (nextW s a).2.1 := by unfold eatW; rw [hb]
    rw [ee]
    cases he : eatW s a with
    | ok b =>
      rw [he] at h
      obtain ⟨rfl, h2⟩ := eatW_ok he
      obtain ⟨i1, i2⟩ := ih h1.2.1 h2 h hk
      have hg : goW (cutT s to tail) (nextW s a).2.1 = .ok (nextW s a).2.1 := by unfold goW; rw [i2, if_pos h2]
      rw [hg]
      exact i1
    | error e =>
      rw [he] at h
      cases h
      rw [goW_cut (tail := tail) h1.2.1 hk he]

theorem pTest_cut {s tail : List UInt8} {to : Nat} {c : Int} {p : Nat} (h4 : (cutT s to tail).length ≤ 4000) (hs : s.length ≤ 4000) (h : pTest s = .error (c, p)) (hk : Keeps s p to) : pTest (cutT s to tail) = .error (c, p) := by
  unfold pTest at h ⊢
  rw [if_neg (by omega)] at h ⊢
  cases hg : goW s 0 with
  | error e =>
    rw [hg] at h
    simp only [Except.error.injEq] at h
    subst h
    rw [goW_cut (tail := tail) (Nat.zero_le _) hk hg]
  | ok a =>
    rw [hg] at h
    obtain ⟨rfl, h0⟩ := goW_ok hg
    simp only at h
    cases hr : tTest.run s 0 with
    | ok r => rw [hr] at h; cases h
    | error e =>
      rw [hr] at h
      simp only [Except.error.injEq] at h
      subst h
      obtain ⟨h1, h2⟩ := tTest.run_cut (tail := tail) (Nat.zero_le _) h0 hr hk
      have hg' : goW (cutT s to tail) 0 = .ok 0 := by unfold goW; rw [h2, if_pos h0]
      simp only [hg', h1]

end Go.Proofs.YtpfbljkfbjjlkaaDoor

/- ParseFirst comes to true. -/
namespace Go.Proofs.YtpfbljkfbjjlkaaDoor
open Go Go.Jq
set_option maxRecDepth 100000
set_option linter.unusedSimpArgs false

theorem pTest_code {s : List UInt8} (h : pCode (pTest s) ≠ 0) : ∃ e, pTest s = .error e ∧ pCode (pTest s) = e.1 ∧ pAt (pTest s) = e.2 := by
  cases hp : pTest s with
  | ok t => rw [hp] at h; exact absurd rfl h
  | error e => exact ⟨e, rfl, rfl, rfl⟩

theorem pTest_long {s : List UInt8} (h : 4000 < s.length) : pCode (pTest s) = 2 := by
  unfold pTest
  rw [if_pos h]; rfl

set_option maxHeartbeats 8000000 in
theorem parseFirst_pure {s tail : List UInt8} (hs : s.length ≤ reachBytes) (ht : tail.length ≤ reachBytes) : Pure Tryd.prog 15 [.d (.str s), .d (.str tail)] (.d (.bool true)) := by
  have hm : maxLen = 9223372036854775807 := rfl
  have hrb : reachBytes ≤ 140737488351232 := by decide
  have haw := awake3_pure
  have k1 := parse2_pure (s := s) (by omega)
  obtain ⟨I, T, A, hc⟩ := pCells_split (pTest s)
  rw [hc] at k1
  have hlong : 4000 < s.length → pCode (pTest s) = 2 := pTest_long
  have hcode : pCode (pTest s) ≠ 0 → ∃ e, pTest s = .error e ∧ pCode (pTest s) = e.1 ∧ pAt (pTest s) = e.2 := pTest_code
  have hsum : IntKind.i64.wrap ((s.length : Int) + (tail.length : Int)) = (s.length : Int) + (tail.length : Int) := wrap_i64 (by omega) (by omega)
  generalize (pT (pTest s)).name = nm at *
  generalize (pT (pTest s)).kind = kd at *
  generalize pCode (pTest s) = e1 at *
  generalize pAt (pTest s) = e2 at *
  simp only [List.map_cons, List.map_nil] at k1
  refine acalls_of Tryd.func15 ac15_ok Tryd.ntmps15 Tryd.results15 rfl ?_
  unfold ac15
  refine bwp_seq fun K hK => bwp_region rfl ?_
  simp -implicitDefEqProofs only [go_sem, ↓reduceIte, Nat.reduceEqDiff, Nat.reduceAdd, Nat.reduceLeDiff, Nat.reduceMul, Nat.reduceSub, Int.reduceLE, Int.reduceLT, Int.reduceEq, Int.reduceToNat, Int.reducePow, Int.reduceNeg]
  refine hK _ ?_; clear hK
  refine bwp_seq fun K hK => bwp_region rfl ?_
  simp -implicitDefEqProofs only [go_sem, ↓reduceIte, Nat.reduceEqDiff, Nat.reduceAdd, Nat.reduceLeDiff, Nat.reduceMul, Nat.reduceSub, Int.reduceLE, Int.reduceLT, Int.reduceEq, Int.reduceToNat, Int.reducePow, Int.reduceNeg]
  repeat' (first
    | (refine gateK_split (fun hb => ?_) (fun hb => ?_) <;> simp -implicitDefEqProofs only [go_sem, ↓reduceIte, Nat.reduceEqDiff, Nat.reduceAdd, Nat.reduceLeDiff, Nat.reduceMul, Nat.reduceSub, Int.reduceLE, Int.reduceLT, Int.reduceEq, Int.reduceToNat, Int.reducePow, Int.reduceNeg, hb])
    | (refine dGateK_split (fun hb => ?_) (fun hb => ?_) <;> simp -implicitDefEqProofs only [go_sem, ↓reduceIte, Nat.reduceEqDiff, Nat.reduceAdd, Nat.reduceLeDiff, Nat.reduceMul, Nat.reduceSub, Int.reduceLE, Int.reduceLT, Int.reduceEq, Int.reduceToNat, Int.reducePow, Int.reduceNeg, hb])
    | (refine callK_pure (k1) rfl rfl ?_; simp -implicitDefEqProofs only [go_sem, ↓reduceIte, Nat.reduceEqDiff, Nat.reduceAdd, Nat.reduceLeDiff, Nat.reduceMul, Nat.reduceSub, Int.reduceLE, Int.reduceLT, Int.reduceEq, Int.reduceToNat, Int.reducePow, Int.reduceNeg])
    | (refine dCallK_pure (k1) rfl rfl ?_; simp -implicitDefEqProofs only [go_sem, ↓reduceIte, Nat.reduceEqDiff, Nat.reduceAdd, Nat.reduceLeDiff, Nat.reduceMul, Nat.reduceSub, Int.reduceLE, Int.reduceLT, Int.reduceEq, Int.reduceToNat, Int.reducePow, Int.reduceNeg])
    | (rw [if_pos (by (try simp only [List.length_append, List.length_cons, List.length_nil, List.length_map]); omega)]; simp -implicitDefEqProofs only [go_sem, ↓reduceIte, Nat.reduceEqDiff, Nat.reduceAdd, Nat.reduceLeDiff, Nat.reduceMul, Nat.reduceSub, Int.reduceLE, Int.reduceLT, Int.reduceEq, Int.reduceToNat, Int.reducePow, Int.reduceNeg]))
  refine hK _ ?_; clear hK
  refine bwp_seq fun K1 hK1 => ?_
  have no : ∀ S : St, decide (mbound [] ≤ S.n) = true → BWP Tryd.prog (mbound []) Tryd.f15.ntmps ((ACode.region false [⟨some 40, .callf 24 [], none⟩, ⟨some 4, .mv (.t 40), none⟩] []).seq ACode.ret) S (Exit.thenA K1 (AEnd Tryd.prog #[.tmp 4] (mbound []) fun r m' => r = .d (.bool true) ∧ m' = [])) := by
    intro S hn
    refine bwp_seq fun K hK => bwp_region hn ?_
    simp -implicitDefEqProofs only [go_sem, ↓reduceIte, Nat.reduceEqDiff, Nat.reduceAdd, Nat.reduceLeDiff, Nat.reduceMul, Nat.reduceSub, Int.reduceLE, Int.reduceLT, Int.reduceEq, Int.reduceToNat, Int.reducePow, Int.reduceNeg]
    refine callK_pure awake3_pure rfl rfl ?_
    simp -implicitDefEqProofs only [go_sem, ↓reduceIte, Nat.reduceEqDiff, Nat.reduceAdd, Nat.reduceLeDiff, Nat.reduceMul, Nat.reduceSub, Int.reduceLE, Int.reduceLT, Int.reduceEq, Int.reduceToNat, Int.reducePow, Int.reduceNeg]
    refine hK _ ?_; clear hK
    refine bwp_ret ?_
    simp only [go_sem]
    refine aend_ret _ rfl rfl ⟨?_, rfl⟩
    simp [fget]
  by_cases h0 : e1 = 0
  · refine bwp_seq fun K hK => bwp_region rfl ?_
    simp -implicitDefEqProofs only [go_sem, ↓reduceIte, Nat.reduceEqDiff, Nat.reduceAdd, Nat.reduceLeDiff, Nat.reduceMul, Nat.reduceSub, Int.reduceLE, Int.reduceLT, Int.reduceEq, Int.reduceToNat, Int.reducePow, Int.reduceNeg, eq_true h0, decide_true]
    refine hK _ ?_; clear hK
    refine bwp_cond true (by simp [ev, fget]) (fun _ => ?_) (fun h => nomatch h)
    exact no _ rfl
  by_cases h2 : e1 = 2
  · refine bwp_seq fun K hK => bwp_region rfl ?_
    simp -implicitDefEqProofs only [go_sem, ↓reduceIte, Nat.reduceEqDiff, Nat.reduceAdd, Nat.reduceLeDiff, Nat.reduceMul, Nat.reduceSub, Int.reduceLE, Int.reduceLT, Int.reduceEq, Int.reduceToNat, Int.reducePow, Int.reduceNeg, eq_false h0, eq_true h2, decide_true, decide_false]
    refine hK _ ?_; clear hK
    refine bwp_cond true (by simp [ev, fget]) (fun _ => ?_) (fun h => nomatch h)
    exact no _ rfl
  have hs4 : s.length ≤ 4000 := by
    rcases Nat.lt_or_ge 4000 s.length with h | h
    · exact absurd (hlong h) h2
    · exact h
  by_cases h3 : (3900 : Int) < (s.length : Int) + (tail.length : Int)
  · refine bwp_seq fun K hK => bwp_region rfl ?_
    simp -implicitDefEqProofs only [go_sem, ↓reduceIte, Nat.reduceEqDiff, Nat.reduceAdd, Nat.reduceLeDiff, Nat.reduceMul, Nat.reduceSub, Int.reduceLE, Int.reduceLT, Int.reduceEq, Int.reduceToNat, Int.reducePow, Int.reduceNeg, eq_false h0, eq_false h2, hsum, eq_true h3, decide_true, decide_false]
    refine hK _ ?_; clear hK
    refine bwp_cond true (by simp [ev, fget]) (fun _ => ?_) (fun h => nomatch h)
    exact no _ rfl
  by_cases h4 : (s.length : Int) ≤ (e2 : Int)
  · refine bwp_seq fun K hK => bwp_region rfl ?_
    simp -implicitDefEqProofs only [go_sem, ↓reduceIte, Nat.reduceEqDiff, Nat.reduceAdd, Nat.reduceLeDiff, Nat.reduceMul, Nat.reduceSub, Int.reduceLE, Int.reduceLT, Int.reduceEq, Int.reduceToNat, Int.reducePow, Int.reduceNeg, eq_false h0, eq_false h2, hsum, eq_false h3, eq_true h4, decide_true, decide_false]
    refine hK _ ?_; clear hK
    refine bwp_cond true (by simp [ev, fget]) (fun _ => ?_) (fun h => nomatch h)
    exact no _ rfl
  obtain ⟨⟨c, p⟩, hp, hc1, hp2⟩ := hcode h0
  simp only at hc1 hp2
  subst hc1 hp2
  refine bwp_seq fun K hK => bwp_region rfl ?_
  simp -implicitDefEqProofs only [go_sem, ↓reduceIte, Nat.reduceEqDiff, Nat.reduceAdd, Nat.reduceLeDiff, Nat.reduceMul, Nat.reduceSub, Int.reduceLE, Int.reduceLT, Int.reduceEq, Int.reduceToNat, Int.reducePow, Int.reduceNeg, eq_false h0, eq_false h2, hsum, eq_false h3, eq_false h4, decide_true, decide_false]
  refine hK _ ?_; clear hK
  refine bwp_cond false (by simp [ev, fget]) (fun h => nomatch h) (fun _ => ?_)
  refine bwp_skip ?_
  refine hK1 _ ?_; clear hK1
  have hple : e2 ≤ s.length := by omega
  have kn := refNext_pure (s := s) (by omega) hple
  by_cases hf : (nextW s e2).2.2 = 0
  · have he : nextW s e2 = ((nextW s e2).1, (nextW s e2).2.1, 0) := by rw [← hf]
    rw [nxV_ok he] at kn
    refine bwp_seq fun K hK => bwp_region rfl ?_
    simp -implicitDefEqProofs only [go_sem, ↓reduceIte, Nat.reduceEqDiff, Nat.reduceAdd, Nat.reduceLeDiff, Nat.reduceMul, Nat.reduceSub, Int.reduceLE, Int.reduceLT, Int.reduceEq, Int.reduceToNat, Int.reducePow, Int.reduceNeg]
    repeat' (first
      | (refine gateK_split (fun hb => ?_) (fun hb => ?_) <;> simp -implicitDefEqProofs only [go_sem, ↓reduceIte, Nat.reduceEqDiff, Nat.reduceAdd, Nat.reduceLeDiff, Nat.reduceMul, Nat.reduceSub, Int.reduceLE, Int.reduceLT, Int.reduceEq, Int.reduceToNat, Int.reducePow, Int.reduceNeg, hb])
      | (refine dGateK_split (fun hb => ?_) (fun hb => ?_) <;> simp -implicitDefEqProofs only [go_sem, ↓reduceIte, Nat.reduceEqDiff, Nat.reduceAdd, Nat.reduceLeDiff, Nat.reduceMul, Nat.reduceSub, Int.reduceLE, Int.reduceLT, Int.reduceEq, Int.reduceToNat, Int.reducePow, Int.reduceNeg, hb])
      | (refine callK_pure (kn) rfl rfl ?_; simp -implicitDefEqProofs only [go_sem, ↓reduceIte, Nat.reduceEqDiff, Nat.reduceAdd, Nat.reduceLeDiff, Nat.reduceMul, Nat.reduceSub, Int.reduceLE, Int.reduceLT, Int.reduceEq, Int.reduceToNat, Int.reducePow, Int.reduceNeg])
      | (refine dCallK_pure (kn) rfl rfl ?_; simp -implicitDefEqProofs only [go_sem, ↓reduceIte, Nat.reduceEqDiff, Nat.reduceAdd, Nat.reduceLeDiff, Nat.reduceMul, Nat.reduceSub, Int.reduceLE, Int.reduceLT, Int.reduceEq, Int.reduceToNat, Int.reducePow, Int.reduceNeg])
      | (rw [if_pos (by (try simp only [List.length_append, List.length_cons, List.length_nil, List.length_map]); omega)]; simp -implicitDefEqProofs only [go_sem, ↓reduceIte, Nat.reduceEqDiff, Nat.reduceAdd, Nat.reduceLeDiff, Nat.reduceMul, Nat.reduceSub, Int.reduceLE, Int.reduceLT, Int.reduceEq, Int.reduceToNat, Int.reducePow, Int.reduceNeg]))
    refine hK _ ?_; clear hK
    refine bwp_seq fun K2 hK2 => ?_
    have fin : ∀ (to : Nat) (S : St), Keeps s e2 to → Leads (mbound []) Tryd.f15.ntmps S ⟨[(0, .d (.str s)), (1, .d (.str tail)), (6, .ptr 0 0), (8, .d (.int .i64 to))], [(0, [.d (.int .i64 e1), .d (.int .i64 e2)])], 1⟩ → K2 S := by
      intro to S hk hS
      refine hK2 _ ?_; clear hK2
      refine bwp_leads hS ?_
      have h1 := hk.1
      have a0 : (0 : Int) ≤ (to : Int) := Int.natCast_nonneg _
      have hcl : (cutT s to tail).length ≤ 4000 := by
        unfold cutT
        simp only [List.length_append, List.length_cons, List.length_take]
        omega
      have hcut := pTest_cut hcl hs4 hp hk
      have k2 := parse1_pure (s := cutT s to tail) (by omega)
      rw [hcut] at k2
      have ec : cutT s to tail = List.take to s ++ [32] ++ tail := by unfold cutT; rw [List.append_assoc]; rfl
      rw [ec] at k2
      simp only [parseV, testD0, List.map_cons, List.map_nil] at k2
      have htl : (List.take to s).length ≤ s.length := by rw [List.length_take]; omega
      have b0 : 0 ≤ to := Nat.zero_le _
      refine bwp_seq fun K hK => bwp_region rfl ?_
      simp -implicitDefEqProofs only [go_sem, ↓reduceIte, Nat.reduceEqDiff, Nat.reduceAdd, Nat.reduceLeDiff, Nat.reduceMul, Nat.reduceSub, Int.reduceLE, Int.reduceLT, Int.reduceEq, Int.reduceToNat, Int.reducePow, Int.reduceNeg, a0, b0, h1, Int.toNat_natCast, List.drop_zero]
      repeat' (first
        | (refine gateK_split (fun hb => ?_) (fun hb => ?_) <;> simp -implicitDefEqProofs only [go_sem, ↓reduceIte, Nat.reduceEqDiff, Nat.reduceAdd, Nat.reduceLeDiff, Nat.reduceMul, Nat.reduceSub, Int.reduceLE, Int.reduceLT, Int.reduceEq, Int.reduceToNat, Int.reducePow, Int.reduceNeg, hb])
        | (refine dGateK_split (fun hb => ?_) (fun hb => ?_) <;> simp -implicitDefEqProofs only [go_sem, ↓reduceIte, Nat.reduceEqDiff, Nat.reduceAdd, Nat.reduceLeDiff, Nat.reduceMul, Nat.reduceSub, Int.reduceLE, Int.reduceLT, Int.reduceEq, Int.reduceToNat, Int.reducePow, Int.reduceNeg, hb])
        | (refine callK_pure (k2) rfl rfl ?_; simp -implicitDefEqProofs only [go_sem, ↓reduceIte, Nat.reduceEqDiff, Nat.reduceAdd, Nat.reduceLeDiff, Nat.reduceMul, Nat.reduceSub, Int.reduceLE, Int.reduceLT, Int.reduceEq, Int.reduceToNat, Int.reducePow, Int.reduceNeg])
        | (refine dCallK_pure (k2) rfl rfl ?_; simp -implicitDefEqProofs only [go_sem, ↓reduceIte, Nat.reduceEqDiff, Nat.reduceAdd, Nat.reduceLeDiff, Nat.reduceMul, Nat.reduceSub, Int.reduceLE, Int.reduceLT, Int.reduceEq, Int.reduceToNat, Int.reducePow, Int.reduceNeg])
        | (rw [if_pos (by (try simp only [List.length_append, List.length_cons, List.length_nil, List.length_map]); omega)]; simp -implicitDefEqProofs only [go_sem, ↓reduceIte, Nat.reduceEqDiff, Nat.reduceAdd, Nat.reduceLeDiff, Nat.reduceMul, Nat.reduceSub, Int.reduceLE, Int.reduceLT, Int.reduceEq, Int.reduceToNat, Int.reducePow, Int.reduceNeg]))
      refine hK _ ?_; clear hK
      refine bwp_seq fun K hK => bwp_region rfl ?_
      simp -implicitDefEqProofs only [go_sem, ↓reduceIte, Nat.reduceEqDiff, Nat.reduceAdd, Nat.reduceLeDiff, Nat.reduceMul, Nat.reduceSub, Int.reduceLE, Int.reduceLT, Int.reduceEq, Int.reduceToNat, Int.reducePow, Int.reduceNeg]
      repeat' (first
        | (refine gateK_split (fun hb => ?_) (fun hb => ?_) <;> simp -implicitDefEqProofs only [go_sem, ↓reduceIte, Nat.reduceEqDiff, Nat.reduceAdd, Nat.reduceLeDiff, Nat.reduceMul, Nat.reduceSub, Int.reduceLE, Int.reduceLT, Int.reduceEq, Int.reduceToNat, Int.reducePow, Int.reduceNeg, hb])
        | (refine dGateK_split (fun hb => ?_) (fun hb => ?_) <;> simp -implicitDefEqProofs only [go_sem, ↓reduceIte, Nat.reduceEqDiff, Nat.reduceAdd, Nat.reduceLeDiff, Nat.reduceMul, Nat.reduceSub, Int.reduceLE, Int.reduceLT, Int.reduceEq, Int.reduceToNat, Int.reducePow, Int.reduceNeg, hb])
        | (refine callK_pure (haw) rfl rfl ?_; simp -implicitDefEqProofs only [go_sem, ↓reduceIte, Nat.reduceEqDiff, Nat.reduceAdd, Nat.reduceLeDiff, Nat.reduceMul, Nat.reduceSub, Int.reduceLE, Int.reduceLT, Int.reduceEq, Int.reduceToNat, Int.reducePow, Int.reduceNeg])
        | (refine dCallK_pure (haw) rfl rfl ?_; simp -implicitDefEqProofs only [go_sem, ↓reduceIte, Nat.reduceEqDiff, Nat.reduceAdd, Nat.reduceLeDiff, Nat.reduceMul, Nat.reduceSub, Int.reduceLE, Int.reduceLT, Int.reduceEq, Int.reduceToNat, Int.reducePow, Int.reduceNeg])
        | (rw [if_pos (by (try simp only [List.length_append, List.length_cons, List.length_nil, List.length_map]); omega)]; simp -implicitDefEqProofs only [go_sem, ↓reduceIte, Nat.reduceEqDiff, Nat.reduceAdd, Nat.reduceLeDiff, Nat.reduceMul, Nat.reduceSub, Int.reduceLE, Int.reduceLT, Int.reduceEq, Int.reduceToNat, Int.reducePow, Int.reduceNeg]))
      refine hK _ ?_; clear hK
      refine bwp_ret ?_
      simp only [go_sem]
      refine aend_ret _ rfl rfl ⟨?_, rfl⟩
      simp [fget]
    refine bwp_seq fun K hK => bwp_region rfl ?_
    simp -implicitDefEqProofs only [go_sem, ↓reduceIte, Nat.reduceEqDiff, Nat.reduceAdd, Nat.reduceLeDiff, Nat.reduceMul, Nat.reduceSub, Int.reduceLE, Int.reduceLT, Int.reduceEq, Int.reduceToNat, Int.reducePow, Int.reduceNeg]
    refine hK _ ?_; clear hK
    refine bwp_cond false (by simp [ev, fget]) (fun h => nomatch h) (fun _ => ?_)
    refine bwp_skip ?_
    refine fin (nextW s e2).2.1 _ ?_ (Leads.ent [(1, 0)] ⟨by simp [entT, fget, AV.ren, renL, pget], by simp [entM, pinv, mget, mset, renL, AV.ren, pget], rfl, rfl⟩)
    have h1 := next_text hple he
    have h2 := nextW_to hple
    refine ⟨h2.2.1, ?_, .inr ⟨hf, Nat.le_refl _⟩⟩
    by_cases h4 : (nextW s e2).1.kd = 4
    · have := h1.2.2.2.2.2.1.1 h4
      omega
    · exact h2.2.2 hf h4
  · have hne : ¬ (nextW s e2).2.2 = (0 : Int) := hf
    have hbad := curT_noTok hf
    rw [nxV_bad hf hbad] at kn
    refine bwp_seq fun K hK => bwp_region rfl ?_
    simp -implicitDefEqProofs only [go_sem, ↓reduceIte, Nat.reduceEqDiff, Nat.reduceAdd, Nat.reduceLeDiff, Nat.reduceMul, Nat.reduceSub, Int.reduceLE, Int.reduceLT, Int.reduceEq, Int.reduceToNat, Int.reducePow, Int.reduceNeg]
    repeat' (first
      | (refine gateK_split (fun hb => ?_) (fun hb => ?_) <;> simp -implicitDefEqProofs only [go_sem, ↓reduceIte, Nat.reduceEqDiff, Nat.reduceAdd, Nat.reduceLeDiff, Nat.reduceMul, Nat.reduceSub, Int.reduceLE, Int.reduceLT, Int.reduceEq, Int.reduceToNat, Int.reducePow, Int.reduceNeg, hb])
      | (refine dGateK_split (fun hb => ?_) (fun hb => ?_) <;> simp -implicitDefEqProofs only [go_sem, ↓reduceIte, Nat.reduceEqDiff, Nat.reduceAdd, Nat.reduceLeDiff, Nat.reduceMul, Nat.reduceSub, Int.reduceLE, Int.reduceLT, Int.reduceEq, Int.reduceToNat, Int.reducePow, Int.reduceNeg, hb])
      | (refine callK_pure (kn) rfl rfl ?_; simp -implicitDefEqProofs only [go_sem, ↓reduceIte, Nat.reduceEqDiff, Nat.reduceAdd, Nat.reduceLeDiff, Nat.reduceMul, Nat.reduceSub, Int.reduceLE, Int.reduceLT, Int.reduceEq, Int.reduceToNat, Int.reducePow, Int.reduceNeg])
      | (refine dCallK_pure (kn) rfl rfl ?_; simp -implicitDefEqProofs only [go_sem, ↓reduceIte, Nat.reduceEqDiff, Nat.reduceAdd, Nat.reduceLeDiff, Nat.reduceMul, Nat.reduceSub, Int.reduceLE, Int.reduceLT, Int.reduceEq, Int.reduceToNat, Int.reducePow, Int.reduceNeg])
      | (rw [if_pos (by (try simp only [List.length_append, List.length_cons, List.length_nil, List.length_map]); omega)]; simp -implicitDefEqProofs only [go_sem, ↓reduceIte, Nat.reduceEqDiff, Nat.reduceAdd, Nat.reduceLeDiff, Nat.reduceMul, Nat.reduceSub, Int.reduceLE, Int.reduceLT, Int.reduceEq, Int.reduceToNat, Int.reducePow, Int.reduceNeg]))
    refine hK _ ?_; clear hK
    refine bwp_seq fun K2 hK2 => ?_
    have fin : ∀ (to : Nat) (S : St), Keeps s e2 to → Leads (mbound []) Tryd.f15.ntmps S ⟨[(0, .d (.str s)), (1, .d (.str tail)), (6, .ptr 0 0), (8, .d (.int .i64 to))], [(0, [.d (.int .i64 e1), .d (.int .i64 e2)])], 1⟩ → K2 S := by
      intro to S hk hS
      refine hK2 _ ?_; clear hK2
      refine bwp_leads hS ?_
      have h1 := hk.1
      have a0 : (0 : Int) ≤ (to : Int) := Int.natCast_nonneg _
      have hcl : (cutT s to tail).length ≤ 4000 := by
        unfold cutT
        simp only [List.length_append, List.length_cons, List.length_take]
        omega
      have hcut := pTest_cut hcl hs4 hp hk
      have k2 := parse1_pure (s := cutT s to tail) (by omega)
      rw [hcut] at k2
      have ec : cutT s to tail = List.take to s ++ [32] ++ tail := by unfold cutT; rw [List.append_assoc]; rfl
      rw [ec] at k2
      simp only [parseV, testD0, List.map_cons, List.map_nil] at k2
      have htl : (List.take to s).length ≤ s.length := by rw [List.length_take]; omega
      have b0 : 0 ≤ to := Nat.zero_le _
      refine bwp_seq fun K hK => bwp_region rfl ?_
      simp -implicitDefEqProofs only [go_sem, ↓reduceIte, Nat.reduceEqDiff, Nat.reduceAdd, Nat.reduceLeDiff, Nat.reduceMul, Nat.reduceSub, Int.reduceLE, Int.reduceLT, Int.reduceEq, Int.reduceToNat, Int.reducePow, Int.reduceNeg, a0, b0, h1, Int.toNat_natCast, List.drop_zero]
      repeat' (first
        | (refine gateK_split (fun hb => ?_) (fun hb => ?_) <;> simp -implicitDefEqProofs only [go_sem, ↓reduceIte, Nat.reduceEqDiff, Nat.reduceAdd, Nat.reduceLeDiff, Nat.reduceMul, Nat.reduceSub, Int.reduceLE, Int.reduceLT, Int.reduceEq, Int.reduceToNat, Int.reducePow, Int.reduceNeg, hb])
        | (refine dGateK_split (fun hb => ?_) (fun hb => ?_) <;> simp -implicitDefEqProofs only [go_sem, ↓reduceIte, Nat.reduceEqDiff, Nat.reduceAdd, Nat.reduceLeDiff, Nat.reduceMul, Nat.reduceSub, Int.reduceLE, Int.reduceLT, Int.reduceEq, Int.reduceToNat, Int.reducePow, Int.reduceNeg, hb])
        | (refine callK_pure (k2) rfl rfl ?_; simp -implicitDefEqProofs only [go_sem, ↓reduceIte, Nat.reduceEqDiff, Nat.reduceAdd, Nat.reduceLeDiff, Nat.reduceMul, Nat.reduceSub, Int.reduceLE, Int.reduceLT, Int.reduceEq, Int.reduceToNat, Int.reducePow, Int.reduceNeg])
        | (refine dCallK_pure (k2) rfl rfl ?_; simp -implicitDefEqProofs only [go_sem, ↓reduceIte, Nat.reduceEqDiff, Nat.reduceAdd, Nat.reduceLeDiff, Nat.reduceMul, Nat.reduceSub, Int.reduceLE, Int.reduceLT, Int.reduceEq, Int.reduceToNat, Int.reducePow, Int.reduceNeg])
        | (rw [if_pos (by (try simp only [List.length_append, List.length_cons, List.length_nil, List.length_map]); omega)]; simp -implicitDefEqProofs only [go_sem, ↓reduceIte, Nat.reduceEqDiff, Nat.reduceAdd, Nat.reduceLeDiff, Nat.reduceMul, Nat.reduceSub, Int.reduceLE, Int.reduceLT, Int.reduceEq, Int.reduceToNat, Int.reducePow, Int.reduceNeg]))
      refine hK _ ?_; clear hK
      refine bwp_seq fun K hK => bwp_region rfl ?_
      simp -implicitDefEqProofs only [go_sem, ↓reduceIte, Nat.reduceEqDiff, Nat.reduceAdd, Nat.reduceLeDiff, Nat.reduceMul, Nat.reduceSub, Int.reduceLE, Int.reduceLT, Int.reduceEq, Int.reduceToNat, Int.reducePow, Int.reduceNeg]
      repeat' (first
        | (refine gateK_split (fun hb => ?_) (fun hb => ?_) <;> simp -implicitDefEqProofs only [go_sem, ↓reduceIte, Nat.reduceEqDiff, Nat.reduceAdd, Nat.reduceLeDiff, Nat.reduceMul, Nat.reduceSub, Int.reduceLE, Int.reduceLT, Int.reduceEq, Int.reduceToNat, Int.reducePow, Int.reduceNeg, hb])
        | (refine dGateK_split (fun hb => ?_) (fun hb => ?_) <;> simp -implicitDefEqProofs only [go_sem, ↓reduceIte, Nat.reduceEqDiff, Nat.reduceAdd, Nat.reduceLeDiff, Nat.reduceMul, Nat.reduceSub, Int.reduceLE, Int.reduceLT, Int.reduceEq, Int.reduceToNat, Int.reducePow, Int.reduceNeg, hb])
        | (refine callK_pure (haw) rfl rfl ?_; simp -implicitDefEqProofs only [go_sem, ↓reduceIte, Nat.reduceEqDiff, Nat.reduceAdd, Nat.reduceLeDiff, Nat.reduceMul, Nat.reduceSub, Int.reduceLE, Int.reduceLT, Int.reduceEq, Int.reduceToNat, Int.reducePow, Int.reduceNeg])
        | (refine dCallK_pure (haw) rfl rfl ?_; simp -implicitDefEqProofs only [go_sem, ↓reduceIte, Nat.reduceEqDiff, Nat.reduceAdd, Nat.reduceLeDiff, Nat.reduceMul, Nat.reduceSub, Int.reduceLE, Int.reduceLT, Int.reduceEq, Int.reduceToNat, Int.reducePow, Int.reduceNeg])
        | (rw [if_pos (by (try simp only [List.length_append, List.length_cons, List.length_nil, List.length_map]); omega)]; simp -implicitDefEqProofs only [go_sem, ↓reduceIte, Nat.reduceEqDiff, Nat.reduceAdd, Nat.reduceLeDiff, Nat.reduceMul, Nat.reduceSub, Int.reduceLE, Int.reduceLT, Int.reduceEq, Int.reduceToNat, Int.reducePow, Int.reduceNeg]))
      refine hK _ ?_; clear hK
      refine bwp_ret ?_
      simp only [go_sem]
      refine aend_ret _ rfl rfl ⟨?_, rfl⟩
      simp [fget]
    refine bwp_seq fun K hK => bwp_region rfl ?_
    simp -implicitDefEqProofs only [go_sem, ↓reduceIte, Nat.reduceEqDiff, Nat.reduceAdd, Nat.reduceLeDiff, Nat.reduceMul, Nat.reduceSub, Int.reduceLE, Int.reduceLT, Int.reduceEq, Int.reduceToNat, Int.reducePow, Int.reduceNeg, eq_false hne]
    refine hK _ ?_; clear hK
    refine bwp_cond true (by simp [ev, fget]) (fun _ => ?_) (fun h => nomatch h)
    refine bwp_region rfl ?_
    simp -implicitDefEqProofs only [go_sem, ↓reduceIte, Nat.reduceEqDiff, Nat.reduceAdd, Nat.reduceLeDiff, Nat.reduceMul, Nat.reduceSub, Int.reduceLE, Int.reduceLT, Int.reduceEq, Int.reduceToNat, Int.reducePow, Int.reduceNeg]
    refine fin s.length _ ⟨Nat.le_refl _, by omega, .inl rfl⟩ (Leads.ent [(1, 0)] ⟨by simp [entT, fget, AV.ren, renL, pget], by simp [entM, pinv, mget, mset, renL, AV.ren, pget], rfl, rfl⟩)

end Go.Proofs.YtpfbljkfbjjlkaaDoor
