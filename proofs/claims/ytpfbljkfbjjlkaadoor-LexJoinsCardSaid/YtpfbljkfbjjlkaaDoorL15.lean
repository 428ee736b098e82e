/- The lexer's next token, gone through. -/
import Derived.Test.YtpfbljkfbjjlkaaDoorL14
import Derived.Test.YtpfbljkfbjjlkaaDoorL10
import Derived.Test.YtpfbljkfbjjlkaaDoorL11
namespace Go.Proofs.YtpfbljkfbjjlkaaDoor
open Go Go.Jq
set_option maxRecDepth 100000
set_option linter.unusedSimpArgs false

theorem fail_calls (s : List UInt8) (a rd : Nat) (e : Int) : ACalls Tryd.prog 38 [.ptr 0 0, .d (.int .i64 e)] [(0, lexC s a rd 0 0)] fun r m' => r = .tup [.agg [.d (.int .i64 0), .d (.str []), .d (.int .i64 0)], .agg [.d (.int .i64 e), .d (.int .i64 a)]] ∧ m' = [(0, lexC s a rd e a)] := by
  have h34 : ldk Tryd.prog 34 = some (some 3) := by kernel_rfl
  have h26 : ldk Tryd.prog 26 = some (some 2) := by kernel_rfl
  refine acalls_of Tryd.func38 ac38_ok Tryd.ntmps38 Tryd.results38 rfl ?_
  unfold ac38
  refine bwp_seq fun K hK => bwp_region rfl ?_
  simp -implicitDefEqProofs only [go_sem, ↓reduceIte, Nat.reduceEqDiff, Nat.reduceAdd, Nat.reduceLeDiff, Nat.reduceMul, Nat.reduceSub, Int.reduceLE, Int.reduceLT, Int.reduceEq, Int.reduceToNat, Int.reducePow, Int.reduceNeg]
  refine hK _ ?_; clear hK
  refine bwp_seq fun K hK => bwp_region rfl ?_
  simp -implicitDefEqProofs only [go_sem, ↓reduceIte, Nat.reduceEqDiff, Nat.reduceAdd, Nat.reduceLeDiff, Nat.reduceMul, Nat.reduceSub, Int.reduceLE, Int.reduceLT, Int.reduceEq, Int.reduceToNat, Int.reducePow, Int.reduceNeg, lexC]
  refine hK _ ?_; clear hK
  refine bwp_seq fun K hK => bwp_region_draw rfl rfl ?_
  simp -implicitDefEqProofs only [go_sem, ↓reduceIte, Nat.reduceEqDiff, Nat.reduceAdd, Nat.reduceLeDiff, Nat.reduceMul, Nat.reduceSub, Int.reduceLE, Int.reduceLT, Int.reduceEq, Int.reduceToNat, Int.reducePow, Int.reduceNeg]
  refine ⟨rfl, hK _ ?_⟩; clear hK
  refine bwp_ret ?_
  simp only [go_sem]
  refine aend_mem (.tup [.agg [.d (.int .i64 0), .d (.str []), .d (.int .i64 0)], .agg [.d (.int .i64 e), .d (.int .i64 a)]]) [(0, 0)] [(0, lexC s a rd e a)] ?_ rfl rfl ?_ ⟨rfl, rfl⟩
  · simp [resA, resVs, resV, fget, mget, mset, loadA, h34, h26]
  · simp [entM, pinv, mget, mset, renL, AV.ren, lexC]

theorem fail_callK (s : List UInt8) (a rd : Nat) (e : Int) {j : Nat} {dst : Option Nat} {r : List AOper} {K : St → Prop} {t : Fr} {m : Mem} {n : Nat} (hm : mget m j = some (lexC s a rd 0 0))
    (hk : runOps Tryd.prog r ⟨putF t dst (.tup [.agg [.d (.int .i64 0), .d (.str []), .d (.int .i64 0)], .agg [.d (.int .i64 e), .d (.int .i64 a)]]), mset m j (lexC s a rd e a), n + 1⟩ K) : callK Tryd.prog 38 [.ptr j 0, .d (.int .i64 e)] dst r K t m n := by
  refine meth_callK (rest := [.d (.int .i64 e)]) (Q := fun r c' => r = .tup [.agg [.d (.int .i64 0), .d (.str []), .d (.int .i64 0)], .agg [.d (.int .i64 e), .d (.int .i64 a)]] ∧ c' = lexC s a rd e a) ((fail_calls s a rd e).mono fun r m' h => ⟨_, h.2, h.1, rfl⟩) rfl rfl ?_ hm ?_
  · rintro _ _ ⟨rfl, rfl⟩; exact ⟨rfl, rfl⟩
  · rintro _ _ ⟨rfl, rfl⟩; exact hk

theorem sign_callK {s : List UInt8} (hs : s.length ≤ 140737488351232) {a rd : Nat} (ha : a < s.length) (hr : a ≤ rd ∧ rd ≤ s.length) {j : Nat} {dst : Option Nat} {r : List AOper} {K : St → Prop} {t : Fr} {m : Mem} {n : Nat} (hm : mget m j = some (lexC s a rd 0 0))
    (hk : ∀ rd', (rd ≤ rd' ∧ a + 1 ≤ rd' ∧ rd' ≤ s.length ∧ (signL (s.drop a) ≠ 0 → a + signL (s.drop a) ≤ rd' ∧ rd' ≤ max rd (a + signL (s.drop a) + 1))) →
      runOps Tryd.prog r ⟨putF t dst (.d (.str ((s.drop a).take (signL (s.drop a))))), mset m j (lexC s a rd' 0 0), n + 1⟩ K) : callK Tryd.prog 39 [.ptr j 0] dst r K t m n := by
  refine meth_callK (rest := []) (Q := fun r c' => sgQ s a rd r [(0, c')]) ((sign_calls hs ha hr).mono fun r m' h => ?_) rfl rfl ?_ hm ?_
  · obtain ⟨h1, rd', h2, h3⟩ := h
    exact ⟨_, h3, h1, rd', h2, rfl⟩
  · rintro _ c' ⟨rfl, rd', _, h⟩
    have : c' = lexC s a rd' 0 0 := by simpa using h
    subst this
    exact ⟨rfl, rfl⟩
  · rintro _ c' ⟨rfl, rd', h1, h⟩
    have : c' = lexC s a rd' 0 0 := by simpa using h
    subst this
    exact hk rd' h1

theorem not_let_dig' {c : UInt8} (h : digB c = true) : letB c = false := by
  simp only [digB, Bool.and_eq_true, decide_eq_true_eq] at h
  have : ¬ 97 ≤ c.toNat := by omega
  simp [letB, this]

theorem kind_let (c : UInt8) : kindW c = 2 ↔ letB c = true := by
  unfold kindW
  cases h : letB c with
  | true => simp [(let_heads h).1]
  | false => cases blankB c <;> cases digB c <;> decide

theorem kind_dig (c : UInt8) : kindW c = 3 ↔ digB c = true := by
  unfold kindW
  cases h : digB c with
  | true => simp [(dig_heads h).1, not_let_dig' h]
  | false => cases blankB c <;> cases letB c <;> decide

/-- What Next tells. -/
def nxR (s : List UInt8) (a : Nat) : AV := .tup [.agg ((nextW s a).1.cells.map .d), .agg [.d (.int .i64 (nextW s a).2.2), .d (.int .i64 (errAt s a))]]
theorem nxR_in (s : List UInt8) (a : Nat) : inB (fun _ => none) (nxR s a) = true := rfl
theorem nxR_ok {s : List UInt8} {a : Nat} {t : Tok} {e : Nat} (h : nextW s a = (t, e, 0)) : nxR s a = .tup [.agg [.d (.int .i64 t.kd), .d (.str t.tx), .d (.int .i64 t.pl)], .agg [.d (.int .i64 0), .d (.int .i64 0)]] := by
  simp [nxR, errAt, h, Tok.cells]
theorem nxR_bad {s : List UInt8} {a : Nat} {e : Nat} {c : Int} (hc : c ≠ 0) (h : nextW s a = (noTok, e, c)) : nxR s a = .tup [.agg [.d (.int .i64 0), .d (.str []), .d (.int .i64 0)], .agg [.d (.int .i64 c), .d (.int .i64 (skipA s a))]] := by
  simp [nxR, errAt, h, hc, Tok.cells, noTok]

def nxQ (s : List UInt8) (a rd : Nat) (r : AV) (c' : List AV) : Prop :=
  r = nxR s a ∧ ∃ rd', (rd ≤ rd' ∧ rd' ≤ s.length ∧ (nextW s a).2.1 ≤ rd' ∧ ((nextW s a).2.2 = 0 → rd' ≤ max rd ((nextW s a).2.1 + 1))) ∧ c' = lexC s (nextW s a).2.1 rd' (nextW s a).2.2 (errAt s a)

/-- The state in which a token's text is cut. -/
def fnS (s : List UInt8) (p q rd : Nat) (k : Int) : St := ⟨[(6, .d (.int .i64 q)), (0, .ptr 0 0), (5, .ptr 3 0), (2, .ptr 1 0), (3, .ptr 2 0)], [(0, lexC s p rd 0 0), (1, [.d (.int .i64 0), .d (.str []), .d (.int .i64 0)]), (2, [.d (.int .i64 0), .d (.int .i64 0)]), (3, [.d (.int .i64 k), .d (.str []), .d (.int .i64 p)])], 4⟩

/-- The state in which it is seen whether a number begins. -/
def kdS (s : List UInt8) (p rd : Nat) (c : UInt8) (b : Bool) : St := ⟨[(78, .d (.bool b)), (6, .d (.int .i64 p)), (4, .d (.int .u8 c.toNat)), (0, .ptr 0 0), (5, .ptr 3 0), (2, .ptr 1 0), (3, .ptr 2 0)], [(0, lexC s p rd 0 0), (1, [.d (.int .i64 0), .d (.str []), .d (.int .i64 0)]), (2, [.d (.int .i64 0), .d (.int .i64 0)]), (3, [.d (.int .i64 0), .d (.str []), .d (.int .i64 p)])], 4⟩

set_option maxHeartbeats 16000000 in
theorem next_calls {s : List UInt8} (hs : s.length ≤ 140737488351232) {a rd : Nat} (ha : a ≤ s.length) (hr : a ≤ rd ∧ rd ≤ s.length) :
    ACalls Tryd.prog 22 [.ptr 0 0] [(0, lexC s a rd 0 0)] fun r m' => ∃ c', m' = [(0, c')] ∧ nxQ s a rd r c' := by
  have h34 : ldk Tryd.prog 34 = some (some 3) := by kernel_rfl
  have h26 : ldk Tryd.prog 26 = some (some 2) := by kernel_rfl
  have hskl := skipA_le ha
  have hska := le_skipA s a
  have hnw : nextW s a = tokAt (skipA s a) (s.drop (skipA s a)) := rfl
  refine acalls_of Tryd.func22 ac22_ok Tryd.ntmps22 Tryd.results22 rfl ?_
  unfold ac22
  refine bwp_seq fun K hK => bwp_region rfl ?_
  simp -implicitDefEqProofs only [go_sem, ↓reduceIte, Nat.reduceEqDiff, Nat.reduceAdd, Nat.reduceLeDiff, Nat.reduceMul, Nat.reduceSub, Int.reduceLE, Int.reduceLT, Int.reduceEq, Int.reduceToNat, Int.reducePow, Int.reduceNeg]
  refine hK _ ?_; clear hK
  refine bwp_seq fun K1 hK1 => ?_
  refine bwp_seq fun K hK => bwp_region rfl ?_
  simp -implicitDefEqProofs only [go_sem, ↓reduceIte, Nat.reduceEqDiff, Nat.reduceAdd, Nat.reduceLeDiff, Nat.reduceMul, Nat.reduceSub, Int.reduceLE, Int.reduceLT, Int.reduceEq, Int.reduceToNat, Int.reducePow, Int.reduceNeg, lexC]
  refine hK _ ?_; clear hK
  refine bwp_cond false (by simp [ev, fget]) (fun h => nomatch h) (fun _ => ?_)
  refine bwp_skip ?_
  refine hK1 _ ?_; clear hK1
  refine bwp_seq fun K hK => bwp_region rfl ?_
  simp -implicitDefEqProofs only [go_sem, ↓reduceIte, Nat.reduceEqDiff, Nat.reduceAdd, Nat.reduceLeDiff, Nat.reduceMul, Nat.reduceSub, Int.reduceLE, Int.reduceLT, Int.reduceEq, Int.reduceToNat, Int.reducePow, Int.reduceNeg]
  refine skip_callK hs ha hr rfl ?_
  intro rd1 hrd1
  unfold rdIn at hrd1
  generalize hp : skipA s a = p at *
  simp -implicitDefEqProofs only [go_sem, ↓reduceIte, Nat.reduceEqDiff, Nat.reduceAdd, Nat.reduceLeDiff, Nat.reduceMul, Nat.reduceSub, Int.reduceLE, Int.reduceLT, Int.reduceEq, Int.reduceToNat, Int.reducePow, Int.reduceNeg, lexC, mset]
  refine hK _ ?_; clear hK
  refine bwp_seq fun K1 hK1 => ?_
  refine bwp_seq fun K hK => bwp_region rfl ?_
  simp -implicitDefEqProofs only [go_sem, ↓reduceIte, Nat.reduceEqDiff, Nat.reduceAdd, Nat.reduceLeDiff, Nat.reduceMul, Nat.reduceSub, Int.reduceLE, Int.reduceLT, Int.reduceEq, Int.reduceToNat, Int.reducePow, Int.reduceNeg]
  refine has_callK s p rd1 0 0 p rfl ?_
  by_cases hlt : p < s.length
  · simp -implicitDefEqProofs only [go_sem, ↓reduceIte, Nat.reduceEqDiff, Nat.reduceAdd, Nat.reduceLeDiff, Nat.reduceMul, Nat.reduceSub, Int.reduceLE, Int.reduceLT, Int.reduceEq, Int.reduceToNat, Int.reducePow, Int.reduceNeg, hlt, decide_true, lexC, mset]
    refine hK _ ?_; clear hK
    refine bwp_cond false (by simp [ev, fget]) (fun h => nomatch h) (fun _ => ?_)
    refine bwp_skip ?_
    refine hK1 _ ?_; clear hK1
    refine bwp_seq fun K hK => bwp_region rfl ?_
    simp -implicitDefEqProofs only [go_sem, ↓reduceIte, Nat.reduceEqDiff, Nat.reduceAdd, Nat.reduceLeDiff, Nat.reduceMul, Nat.reduceSub, Int.reduceLE, Int.reduceLT, Int.reduceEq, Int.reduceToNat, Int.reducePow, Int.reduceNeg]
    refine peek_callK hs p rd1 0 0 p rfl ?_
    have hd := drop_at hlt
    rw [rdW_lt hlt]
    generalize hcd : s.getD p 0 = c at hd
    obtain ⟨rd2, hr2, b1, b2, b3, b4⟩ : ∃ rd2, max rd1 (p + 1) = rd2 ∧ rd ≤ rd2 ∧ p + 1 ≤ rd2 ∧ rd2 ≤ s.length ∧ rd2 ≤ max rd (p + 1) := ⟨_, rfl, by omega⟩
    rw [hr2]
    rw [hd] at hnw
    simp -implicitDefEqProofs only [go_sem, ↓reduceIte, Nat.reduceEqDiff, Nat.reduceAdd, Nat.reduceLeDiff, Nat.reduceMul, Nat.reduceSub, Int.reduceLE, Int.reduceLT, Int.reduceEq, Int.reduceToNat, Int.reducePow, Int.reduceNeg, lexC, mset]
    refine hK _ ?_; clear hK
    refine bwp_seq fun K hK => bwp_region rfl ?_
    simp -implicitDefEqProofs only [go_sem, ↓reduceIte, Nat.reduceEqDiff, Nat.reduceAdd, Nat.reduceLeDiff, Nat.reduceMul, Nat.reduceSub, Int.reduceLE, Int.reduceLT, Int.reduceEq, Int.reduceToNat, Int.reducePow, Int.reduceNeg]
    refine hK _ ?_; clear hK
    refine bwp_seq fun K hK => bwp_region rfl ?_
    simp -implicitDefEqProofs only [go_sem, ↓reduceIte, Nat.reduceEqDiff, Nat.reduceAdd, Nat.reduceLeDiff, Nat.reduceMul, Nat.reduceSub, Int.reduceLE, Int.reduceLT, Int.reduceEq, Int.reduceToNat, Int.reducePow, Int.reduceNeg]
    refine hK _ ?_; clear hK
    refine bwp_seq fun K1 hK1 => ?_
    refine bwp_block ?_
    have fin : ∀ (k : Int) (q rd' : Nat) (S : St), nextW s a = (⟨k, (s.drop p).take (q - p), p⟩, q, 0) → p ≤ q → q ≤ s.length → (rd ≤ rd' ∧ rd' ≤ s.length ∧ q ≤ rd' ∧ rd' ≤ max rd (q + 1)) → Leads (mbound [(0, lexC s a rd 0 0)]) 142 S (fnS s p q rd' k) → K1 S := by
      intro k q rd' S hn hq1 hq2 hb hS
      refine hK1 _ ?_; clear hK1
      refine bwp_leads hS ?_
      have hsl : (s.take q).drop p = (s.drop p).take (q - p) := by rw [List.drop_take]
      have i0 : (0 : Int) ≤ (p : Int) := Int.natCast_nonneg _
      have i1 : (0 : Int) ≤ (q : Int) := Int.natCast_nonneg _
      unfold fnS lexC
      refine bwp_seq fun K hK => bwp_region_draw rfl rfl ?_
      simp -implicitDefEqProofs only [go_sem, ↓reduceIte, Nat.reduceEqDiff, Nat.reduceAdd, Nat.reduceLeDiff, Nat.reduceMul, Nat.reduceSub, Int.reduceLE, Int.reduceLT, Int.reduceEq, Int.reduceToNat, Int.reducePow, Int.reduceNeg, i0, i1, hq1, hq2, Int.toNat_natCast, hsl]
      refine ⟨rfl, hK _ ?_⟩; clear hK
      refine bwp_seq fun K hK => bwp_region rfl ?_
      simp -implicitDefEqProofs only [go_sem, ↓reduceIte, Nat.reduceEqDiff, Nat.reduceAdd, Nat.reduceLeDiff, Nat.reduceMul, Nat.reduceSub, Int.reduceLE, Int.reduceLT, Int.reduceEq, Int.reduceToNat, Int.reducePow, Int.reduceNeg]
      refine hK _ ?_; clear hK
      refine bwp_ret ?_
      simp only [go_sem]
      refine aend_mem (nxR s a) [(0, 0)] [(0, lexC s q rd' 0 0)] ?_ rfl rfl ?_ ⟨_, rfl, rfl, rd', ⟨by omega, by omega, by rw [hn]; exact hb.2.2.1, fun _ => by rw [hn]; exact hb.2.2.2⟩, by unfold errAt; rw [hn]; rfl⟩
      · rw [nxR_ok hn]
        simp [resA, resVs, resV, fget, mget, mset, loadA, h34, h26]
      · simp [entM, pinv, mget, mset, renL, AV.ren, lexC]
    have kc := kind_pure c
    have hrun : ∀ q, q = runL (s.drop (p + 1)) → p + (1 + q) ≤ s.length := fun q h => by
      have := runL_le (s.drop (p + 1))
      rw [List.length_drop] at this
      omega
    have htk : ∀ q, (s.drop p).take (p + (1 + q) - p) = c :: (s.drop (p + 1)).take q := fun q => by
      rw [hd, show p + (1 + q) - p = q + 1 by omega, List.take_succ_cons]
    by_cases hlet : letB c = true
    · have hk2 := (kind_let c).2 hlet
      have haln : alnB c = true := by unfold alnB; rw [hlet]; rfl
      have hrl : runL (s.drop p) = 1 + runL (s.drop (p + 1)) := by rw [hd, runL, if_pos haln]
      rw [tokAt, if_pos hlet] at hnw
      refine bwp_seq fun K hK => bwp_region rfl ?_
      simp -implicitDefEqProofs only [go_sem, ↓reduceIte, Nat.reduceEqDiff, Nat.reduceAdd, Nat.reduceLeDiff, Nat.reduceMul, Nat.reduceSub, Int.reduceLE, Int.reduceLT, Int.reduceEq, Int.reduceToNat, Int.reducePow, Int.reduceNeg]
      refine callK_pure kc rfl rfl ?_
      simp -implicitDefEqProofs only [go_sem, ↓reduceIte, Nat.reduceEqDiff, Nat.reduceAdd, Nat.reduceLeDiff, Nat.reduceMul, Nat.reduceSub, Int.reduceLE, Int.reduceLT, Int.reduceEq, Int.reduceToNat, Int.reducePow, Int.reduceNeg, hk2]
      refine hK _ ?_; clear hK
      refine bwp_cond true (by simp [ev, fget]) (fun _ => ?_) (fun h => nomatch h)
      refine bwp_region rfl ?_
      simp -implicitDefEqProofs only [go_sem, ↓reduceIte, Nat.reduceEqDiff, Nat.reduceAdd, Nat.reduceLeDiff, Nat.reduceMul, Nat.reduceSub, Int.reduceLE, Int.reduceLT, Int.reduceEq, Int.reduceToNat, Int.reducePow, Int.reduceNeg]
      refine run_callK hs (by omega) ⟨by omega, b3⟩ rfl ?_
      intro rd' hrd'
      rw [hrl] at hrd' ⊢
      unfold rdIn at hrd'
      have hq := hrun _ rfl
      have htq := htk (runL (s.drop (p + 1)))
      rw [← htq] at hnw
      have hq0 : p + 1 ≤ p + (1 + runL (s.drop (p + 1))) := by omega
      generalize p + (1 + runL (s.drop (p + 1))) = q at hnw hrd' hq hq0 ⊢
      simp -implicitDefEqProofs only [go_sem, ↓reduceIte, Nat.reduceEqDiff, Nat.reduceAdd, Nat.reduceLeDiff, Nat.reduceMul, Nat.reduceSub, Int.reduceLE, Int.reduceLT, Int.reduceEq, Int.reduceToNat, Int.reducePow, Int.reduceNeg, lexC, mset]
      refine fin 1 q rd' _ hnw (by omega) hq (by omega) ?_
      exact Leads.ent [(0, 0), (1, 1), (2, 2), (6, 3)] ⟨by simp [entT, fget, AV.ren, renL, pget, fnS], by simp [entM, pinv, mget, mset, renL, AV.ren, fnS, lexC], rfl, rfl⟩
    · have hk2 : ¬ kindW c = 2 := fun h => hlet ((kind_let c).1 h)
      rw [tokAt, if_neg hlet] at hnw
      refine bwp_seq fun K hK => bwp_region rfl ?_
      simp -implicitDefEqProofs only [go_sem, ↓reduceIte, Nat.reduceEqDiff, Nat.reduceAdd, Nat.reduceLeDiff, Nat.reduceMul, Nat.reduceSub, Int.reduceLE, Int.reduceLT, Int.reduceEq, Int.reduceToNat, Int.reducePow, Int.reduceNeg]
      refine callK_pure kc rfl rfl ?_
      simp -implicitDefEqProofs only [go_sem, ↓reduceIte, Nat.reduceEqDiff, Nat.reduceAdd, Nat.reduceLeDiff, Nat.reduceMul, Nat.reduceSub, Int.reduceLE, Int.reduceLT, Int.reduceEq, Int.reduceToNat, Int.reducePow, Int.reduceNeg, hk2]
      refine hK _ ?_; clear hK
      refine bwp_cond false (by simp [ev, fget]) (fun h => nomatch h) (fun _ => ?_)
      have hH : ((s.drop (p + 1)).head?.map digB).getD false = digB (s.getD (p + 1) 0) := by
        rcases Nat.lt_or_ge (p + 1) s.length with h | h
        · rw [drop_at h]; rfl
        · rw [List.drop_eq_nil_of_le h, List.getD_eq_getElem?_getD, List.getElem?_eq_none h]; rfl
      have hw1 : IntKind.i64.wrap ((p : Int) + 1) = ((p + 1 : Nat) : Int) := by rw [wrap_i64 (by omega) (by omega)]; rfl
      rw [hH] at hnw
      refine bwp_seq fun K hK => bwp_region rfl ?_
      simp -implicitDefEqProofs only [go_sem, ↓reduceIte, Nat.reduceEqDiff, Nat.reduceAdd, Nat.reduceLeDiff, Nat.reduceMul, Nat.reduceSub, Int.reduceLE, Int.reduceLT, Int.reduceEq, Int.reduceToNat, Int.reducePow, Int.reduceNeg]
      have yes : (digB c = true ∨ (c = 45 ∧ digB (s.getD (p + 1) 0) = true)) → ∀ (rd3 : Nat) (S : St), (rd ≤ rd3 ∧ p + 1 ≤ rd3 ∧ rd3 ≤ s.length ∧ rd3 ≤ max rd (p + 2)) → Leads (mbound [(0, lexC s a rd 0 0)]) 142 S (kdS s p rd3 c true) → K S := by
        intro hdg rd3 S hb hS
        rw [if_pos hdg] at hnw
        refine hK _ ?_; clear hK
        refine bwp_leads hS ?_
        unfold kdS lexC
        refine bwp_cond true (by simp [ev, fget]) (fun _ => ?_) (fun h => nomatch h)
        refine bwp_seq fun K hK => bwp_region rfl ?_
        simp -implicitDefEqProofs only [go_sem, ↓reduceIte, Nat.reduceEqDiff, Nat.reduceAdd, Nat.reduceLeDiff, Nat.reduceMul, Nat.reduceSub, Int.reduceLE, Int.reduceLT, Int.reduceEq, Int.reduceToNat, Int.reducePow, Int.reduceNeg, hw1]
        refine run_callK hs (by omega) ⟨by omega, hb.2.2.1⟩ rfl ?_
        intro rd' hrd'
        unfold rdIn at hrd'
        have hq := hrun _ rfl
        have htq := htk (runL (s.drop (p + 1)))
        have hq0 : p + 1 ≤ p + (1 + runL (s.drop (p + 1))) := by omega
        have hql : (c :: (s.drop (p + 1)).take (runL (s.drop (p + 1)))).length ≤ 281474976710656 := by
          rw [List.length_cons, List.length_take, List.length_drop]
          omega
        have kp := parse_pure hql
        rw [← htq] at hnw kp
        rw [show p + 1 + runL (s.drop (p + 1)) = p + (1 + runL (s.drop (p + 1))) by omega] at hrd' ⊢
        generalize p + (1 + runL (s.drop (p + 1))) = q at hnw hrd' hq hq0 kp ⊢
        simp -implicitDefEqProofs only [go_sem, ↓reduceIte, Nat.reduceEqDiff, Nat.reduceAdd, Nat.reduceLeDiff, Nat.reduceMul, Nat.reduceSub, Int.reduceLE, Int.reduceLT, Int.reduceEq, Int.reduceToNat, Int.reducePow, Int.reduceNeg, lexC, mset]
        refine hK _ ?_; clear hK
        have hsl : (s.take q).drop p = (s.drop p).take (q - p) := by rw [List.drop_take]
        have i0 : (0 : Int) ≤ (p : Int) := Int.natCast_nonneg _
        have i1 : (0 : Int) ≤ (q : Int) := Int.natCast_nonneg _
        have i2 : p ≤ q := by omega
        generalize hw : (s.drop p).take (q - p) = w at *
        generalize parseW w = pr at *
        obtain ⟨pn, pb⟩ := pr
        refine bwp_seq fun K hK => bwp_region_draw rfl rfl ?_
        simp -implicitDefEqProofs only [go_sem, ↓reduceIte, Nat.reduceEqDiff, Nat.reduceAdd, Nat.reduceLeDiff, Nat.reduceMul, Nat.reduceSub, Int.reduceLE, Int.reduceLT, Int.reduceEq, Int.reduceToNat, Int.reducePow, Int.reduceNeg, i0, i1, i2, hq, Int.toNat_natCast, hsl]
        refine dCallK_pure kp rfl rfl ?_
        simp -implicitDefEqProofs only [go_sem, ↓reduceIte, Nat.reduceEqDiff, Nat.reduceAdd, Nat.reduceLeDiff, Nat.reduceMul, Nat.reduceSub, Int.reduceLE, Int.reduceLT, Int.reduceEq, Int.reduceToNat, Int.reducePow, Int.reduceNeg]
        refine ⟨rfl, hK _ ?_⟩; clear hK
        cases pb with
        | true =>
          rw [if_pos rfl] at hnw
          refine bwp_seq fun K hK => bwp_region rfl ?_
          simp -implicitDefEqProofs only [go_sem, ↓reduceIte, Nat.reduceEqDiff, Nat.reduceAdd, Nat.reduceLeDiff, Nat.reduceMul, Nat.reduceSub, Int.reduceLE, Int.reduceLT, Int.reduceEq, Int.reduceToNat, Int.reducePow, Int.reduceNeg]
          refine hK _ ?_; clear hK
          refine bwp_cond false (by simp [ev, fget]) (fun h => nomatch h) (fun _ => ?_)
          refine bwp_skip ?_
          simp -implicitDefEqProofs only [go_sem, ↓reduceIte, Nat.reduceEqDiff, Nat.reduceAdd, Nat.reduceLeDiff, Nat.reduceMul, Nat.reduceSub, Int.reduceLE, Int.reduceLT, Int.reduceEq, Int.reduceToNat, Int.reducePow, Int.reduceNeg]
          refine fin 2 q rd' _ (by rw [hnw, hw]) (by omega) hq (by omega) ?_
          exact Leads.ent [(0, 0), (1, 1), (2, 2), (3, 3)] ⟨by simp [entT, fget, AV.ren, renL, pget, fnS], by simp [entM, pinv, mget, mset, renL, AV.ren, fnS, lexC], rfl, rfl⟩
        | false =>
          rw [if_neg (by exact Bool.false_ne_true)] at hnw
          refine bwp_seq fun K hK => bwp_region rfl ?_
          simp -implicitDefEqProofs only [go_sem, ↓reduceIte, Nat.reduceEqDiff, Nat.reduceAdd, Nat.reduceLeDiff, Nat.reduceMul, Nat.reduceSub, Int.reduceLE, Int.reduceLT, Int.reduceEq, Int.reduceToNat, Int.reducePow, Int.reduceNeg]
          refine hK _ ?_; clear hK
          refine bwp_cond true (by simp [ev, fget]) (fun _ => ?_) (fun h => nomatch h)
          refine bwp_seq fun K hK => bwp_region rfl ?_
          simp -implicitDefEqProofs only [go_sem, ↓reduceIte, Nat.reduceEqDiff, Nat.reduceAdd, Nat.reduceLeDiff, Nat.reduceMul, Nat.reduceSub, Int.reduceLE, Int.reduceLT, Int.reduceEq, Int.reduceToNat, Int.reducePow, Int.reduceNeg]
          refine fail_callK s p rd' 5 rfl ?_
          simp -implicitDefEqProofs only [go_sem, ↓reduceIte, Nat.reduceEqDiff, Nat.reduceAdd, Nat.reduceLeDiff, Nat.reduceMul, Nat.reduceSub, Int.reduceLE, Int.reduceLT, Int.reduceEq, Int.reduceToNat, Int.reducePow, Int.reduceNeg, lexC, mset]
          refine hK _ ?_; clear hK
          refine bwp_ret ?_
          simp only [go_sem]
          refine aend_mem (nxR s a) [(0, 0)] [(0, lexC s p rd' 5 p)] ?_ rfl rfl ?_ ⟨_, rfl, rfl, rd', ⟨by omega, by omega, by rw [hnw]; simp only; omega, fun h => by rw [hnw] at h; cases h⟩, by unfold errAt; rw [hnw, hp]; rfl⟩
          · rw [nxR_bad (by decide) hnw, hp]
            simp [resA, resVs, resV, fget, mget, mset, loadA, h34, h26]
          · simp [entM, pinv, mget, mset, renL, AV.ren, lexC]
      have no : ¬ (digB c = true ∨ (c = 45 ∧ digB (s.getD (p + 1) 0) = true)) → ∀ (rd3 : Nat) (S : St), (rd ≤ rd3 ∧ p + 1 ≤ rd3 ∧ rd3 ≤ s.length ∧ rd3 ≤ max rd (p + 2)) → Leads (mbound [(0, lexC s a rd 0 0)]) 142 S (kdS s p rd3 c false) → K S := by
        intro hdg rd3 S hb hS
        rw [if_neg hdg] at hnw
        refine hK _ ?_; clear hK
        refine bwp_leads hS ?_
        unfold kdS lexC
        refine bwp_cond false (by simp [ev, fget]) (fun h => nomatch h) (fun _ => ?_)
        refine bwp_seq fun K hK => bwp_region rfl ?_
        simp -implicitDefEqProofs only [go_sem, ↓reduceIte, Nat.reduceEqDiff, Nat.reduceAdd, Nat.reduceLeDiff, Nat.reduceMul, Nat.reduceSub, Int.reduceLE, Int.reduceLT, Int.reduceEq, Int.reduceToNat, Int.reducePow, Int.reduceNeg]
        refine sign_callK hs hlt ⟨by omega, hb.2.2.1⟩ rfl ?_
        intro rd' hrd'
        have hsl := signL_le (s.drop p)
        have hlw : ((s.drop p).take (signL (s.drop p))).length = signL (s.drop p) := by rw [List.length_take]; omega
        rw [List.length_drop] at hsl
        rw [← hd] at hnw
        generalize hk : signL (s.drop p) = k at *
        simp -implicitDefEqProofs only [go_sem, ↓reduceIte, Nat.reduceEqDiff, Nat.reduceAdd, Nat.reduceLeDiff, Nat.reduceMul, Nat.reduceSub, Int.reduceLE, Int.reduceLT, Int.reduceEq, Int.reduceToNat, Int.reducePow, Int.reduceNeg, lexC, mset]
        refine hK _ ?_; clear hK
        refine bwp_seq fun K3 hK3 => ?_
        by_cases hk0 : k = 0
        · subst hk0
          rw [if_pos rfl] at hnw
          refine bwp_seq fun K hK => bwp_region rfl ?_
          simp -implicitDefEqProofs only [go_sem, ↓reduceIte, Nat.reduceEqDiff, Nat.reduceAdd, Nat.reduceLeDiff, Nat.reduceMul, Nat.reduceSub, Int.reduceLE, Int.reduceLT, Int.reduceEq, Int.reduceToNat, Int.reducePow, Int.reduceNeg, List.take_zero]
          refine hK _ ?_; clear hK
          refine bwp_cond true (by simp [ev, fget]) (fun _ => ?_) (fun h => nomatch h)
          refine bwp_seq fun K hK => bwp_region rfl ?_
          simp -implicitDefEqProofs only [go_sem, ↓reduceIte, Nat.reduceEqDiff, Nat.reduceAdd, Nat.reduceLeDiff, Nat.reduceMul, Nat.reduceSub, Int.reduceLE, Int.reduceLT, Int.reduceEq, Int.reduceToNat, Int.reducePow, Int.reduceNeg]
          refine fail_callK s p rd' 4 rfl ?_
          simp -implicitDefEqProofs only [go_sem, ↓reduceIte, Nat.reduceEqDiff, Nat.reduceAdd, Nat.reduceLeDiff, Nat.reduceMul, Nat.reduceSub, Int.reduceLE, Int.reduceLT, Int.reduceEq, Int.reduceToNat, Int.reducePow, Int.reduceNeg, lexC, mset]
          refine hK _ ?_; clear hK
          refine bwp_ret ?_
          simp only [go_sem]
          refine aend_mem (nxR s a) [(0, 0)] [(0, lexC s p rd' 4 p)] ?_ rfl rfl ?_ ⟨_, rfl, rfl, rd', ⟨by omega, by omega, by rw [hnw]; simp only; omega, fun h => by rw [hnw] at h; cases h⟩, by unfold errAt; rw [hnw, hp]; rfl⟩
          · rw [nxR_bad (by decide) hnw, hp]
            simp [resA, resVs, resV, fget, mget, mset, loadA, h34, h26]
          · simp [entM, pinv, mget, mset, renL, AV.ren, lexC]
        · rw [if_neg hk0] at hnw
          have hne : ¬ (s.drop p).take k = [] := fun h => by rw [h] at hlw; simp at hlw; omega
          have hb2 := hrd'.2.2.2 hk0
          have hwk : IntKind.i64.wrap ((p : Int) + (k : Int)) = ((p + k : Nat) : Int) := by rw [wrap_i64 (by omega) (by omega)]; rfl
          have hqk : p + k - p = k := by omega
          have hpk1 : p + 1 ≤ p + k := by omega
          have hpk2 : p + k ≤ s.length := by omega
          generalize hw : (s.drop p).take k = w at *
          refine bwp_seq fun K hK => bwp_region rfl ?_
          simp -implicitDefEqProofs only [go_sem, ↓reduceIte, Nat.reduceEqDiff, Nat.reduceAdd, Nat.reduceLeDiff, Nat.reduceMul, Nat.reduceSub, Int.reduceLE, Int.reduceLT, Int.reduceEq, Int.reduceToNat, Int.reducePow, Int.reduceNeg, hne]
          refine hK _ ?_; clear hK
          refine bwp_cond false (by simp [ev, fget]) (fun h => nomatch h) (fun _ => ?_)
          refine bwp_skip ?_
          refine hK3 _ ?_; clear hK3
          refine bwp_region_draw rfl rfl ?_
          simp -implicitDefEqProofs only [go_sem, ↓reduceIte, Nat.reduceEqDiff, Nat.reduceAdd, Nat.reduceLeDiff, Nat.reduceMul, Nat.reduceSub, Int.reduceLE, Int.reduceLT, Int.reduceEq, Int.reduceToNat, Int.reducePow, Int.reduceNeg, hlw, hwk]
          refine ⟨rfl, fin 3 (p + k) rd' _ (by rw [hnw, hqk, hw]) (by omega) hpk2 (by omega) ?_⟩
          exact Leads.ent [(0, 0), (1, 1), (2, 2), (3, 3)] ⟨by simp [entT, fget, AV.ren, renL, pget, fnS], by simp [entM, pinv, mget, mset, renL, AV.ren, fnS, lexC], rfl, rfl⟩
      by_cases hdig : digB c = true
      · have hk3 := (kind_dig c).2 hdig
        refine callK_pure kc rfl rfl ?_
        simp -implicitDefEqProofs only [go_sem, ↓reduceIte, Nat.reduceEqDiff, Nat.reduceAdd, Nat.reduceLeDiff, Nat.reduceMul, Nat.reduceSub, Int.reduceLE, Int.reduceLT, Int.reduceEq, Int.reduceToNat, Int.reducePow, Int.reduceNeg, hk3]
        refine yes (.inl hdig) rd2 _ (by omega) ?_
        exact Leads.ent [(0, 0), (1, 1), (2, 2), (6, 3)] ⟨by simp [entT, fget, AV.ren, renL, pget, kdS], by simp [entM, pinv, mget, mset, renL, AV.ren, kdS, lexC], rfl, rfl⟩
      · have hk3 : ¬ kindW c = 3 := fun h => hdig ((kind_dig c).1 h)
        refine callK_pure kc rfl rfl ?_
        by_cases h45 : (c.toNat : Int) = 45
        · have hc45 := u8eq (k := 45) h45
          simp -implicitDefEqProofs only [go_sem, ↓reduceIte, Nat.reduceEqDiff, Nat.reduceAdd, Nat.reduceLeDiff, Nat.reduceMul, Nat.reduceSub, Int.reduceLE, Int.reduceLT, Int.reduceEq, Int.reduceToNat, Int.reducePow, Int.reduceNeg, hk3, h45, hw1]
          refine peek_callK hs p rd2 0 0 (p + 1) rfl ?_
          obtain ⟨rd3, hr3, q1, q2, q3⟩ : ∃ rd3, rdW s rd2 (p + 1) = rd3 ∧ rd2 ≤ rd3 ∧ rd3 ≤ s.length ∧ rd3 ≤ max rd (p + 2) := ⟨_, rfl, by unfold rdW; split <;> omega⟩
          rw [hr3]
          generalize hd2 : s.getD (p + 1) 0 = d at *
          have kd := kind_pure d
          simp -implicitDefEqProofs only [go_sem, ↓reduceIte, Nat.reduceEqDiff, Nat.reduceAdd, Nat.reduceLeDiff, Nat.reduceMul, Nat.reduceSub, Int.reduceLE, Int.reduceLT, Int.reduceEq, Int.reduceToNat, Int.reducePow, Int.reduceNeg, lexC, mset]
          refine callK_pure kd rfl rfl ?_
          by_cases hdd : digB d = true
          · have hk4 := (kind_dig d).2 hdd
            simp -implicitDefEqProofs only [go_sem, ↓reduceIte, Nat.reduceEqDiff, Nat.reduceAdd, Nat.reduceLeDiff, Nat.reduceMul, Nat.reduceSub, Int.reduceLE, Int.reduceLT, Int.reduceEq, Int.reduceToNat, Int.reducePow, Int.reduceNeg, hk4]
            refine yes (.inr ⟨hc45, hdd⟩) rd3 _ (by omega) ?_
            exact Leads.ent [(0, 0), (1, 1), (2, 2), (6, 3)] ⟨by simp [entT, fget, AV.ren, renL, pget, kdS, hc45], by simp [entM, pinv, mget, mset, renL, AV.ren, kdS, lexC], rfl, rfl⟩
          · have hk4 : ¬ kindW d = 3 := fun h => hdd ((kind_dig d).1 h)
            simp -implicitDefEqProofs only [go_sem, ↓reduceIte, Nat.reduceEqDiff, Nat.reduceAdd, Nat.reduceLeDiff, Nat.reduceMul, Nat.reduceSub, Int.reduceLE, Int.reduceLT, Int.reduceEq, Int.reduceToNat, Int.reducePow, Int.reduceNeg, hk4]
            refine no (by rintro (h | ⟨_, h⟩); exact hdig h; exact hdd h) rd3 _ (by omega) ?_
            exact Leads.ent [(0, 0), (1, 1), (2, 2), (6, 3)] ⟨by simp [entT, fget, AV.ren, renL, pget, kdS, hc45], by simp [entM, pinv, mget, mset, renL, AV.ren, kdS, lexC], rfl, rfl⟩
        · have hc45 := u8ne (k := 45) h45
          simp -implicitDefEqProofs only [go_sem, ↓reduceIte, Nat.reduceEqDiff, Nat.reduceAdd, Nat.reduceLeDiff, Nat.reduceMul, Nat.reduceSub, Int.reduceLE, Int.reduceLT, Int.reduceEq, Int.reduceToNat, Int.reducePow, Int.reduceNeg, hk3, h45]
          refine no (by rintro (h | ⟨h, _⟩); exact hdig h; exact hc45 h) rd2 _ (by omega) ?_
          exact Leads.ent [(0, 0), (1, 1), (2, 2), (6, 3)] ⟨by simp [entT, fget, AV.ren, renL, pget, kdS], by simp [entM, pinv, mget, mset, renL, AV.ren, kdS, lexC], rfl, rfl⟩
  · have he : p = s.length := by omega
    have hn : nextW s a = (⟨4, [], p⟩, p, 0) := by rw [hnw, he, List.drop_length]; rfl
    simp -implicitDefEqProofs only [go_sem, ↓reduceIte, Nat.reduceEqDiff, Nat.reduceAdd, Nat.reduceLeDiff, Nat.reduceMul, Nat.reduceSub, Int.reduceLE, Int.reduceLT, Int.reduceEq, Int.reduceToNat, Int.reducePow, Int.reduceNeg, hlt, decide_false, lexC, mset]
    refine hK _ ?_; clear hK
    refine bwp_cond true (by simp [ev, fget]) (fun _ => ?_) (fun h => nomatch h)
    refine bwp_seq fun K hK => bwp_region rfl ?_
    simp -implicitDefEqProofs only [go_sem, ↓reduceIte, Nat.reduceEqDiff, Nat.reduceAdd, Nat.reduceLeDiff, Nat.reduceMul, Nat.reduceSub, Int.reduceLE, Int.reduceLT, Int.reduceEq, Int.reduceToNat, Int.reducePow, Int.reduceNeg]
    refine hK _ ?_; clear hK
    refine bwp_ret ?_
    simp only [go_sem]
    refine aend_mem (nxR s a) [(0, 0)] [(0, lexC s p rd1 0 0)] ?_ rfl rfl ?_ ⟨_, rfl, rfl, rd1, ⟨by omega, by omega, by rw [hn]; simp only; omega, fun _ => by rw [hn]; simp only; omega⟩, by unfold errAt; rw [hn]; rfl⟩
    · rw [nxR_ok hn]
      simp [resA, resVs, resV, fget, mget, mset, loadA, h34, h26]
    · simp [entM, pinv, mget, mset, renL, AV.ren, lexC]

end Go.Proofs.YtpfbljkfbjjlkaaDoor
