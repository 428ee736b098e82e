/- The lexer's bytes: kinds, has, peek, run. -/
import Derived.Test.YtpfbljkfbjjlkaaDoorL8
namespace Go.Proofs.YtpfbljkfbjjlkaaDoor
open Go Go.Jq
set_option maxRecDepth 100000
set_option linter.unusedSimpArgs false

/-! ### A method with one own block -/

theorem callMem_one {j n : Nat} {m : Mem} {cs c' : List AV} (h : inL (fun _ => none) c' = true) : callMem [(0, j)] [(0, cs)] [(0, c')] n m = mset m j c' := by
  simp [callMem, updNew, updOld, mget, renL_noId _ h]

theorem meth_callK {P : Program} {f : Nat} {rest cells : List AV} {Q : AV → List AV → Prop} (h : ACalls P f (.ptr 0 0 :: rest) [(0, cells)] fun r m' => ∃ c', m' = [(0, c')] ∧ Q r c')
    (hr : inL (fun _ => none) rest = true) (hc : inL (fun _ => none) cells = true) (hQ : ∀ r c', Q r c' → inB (fun _ => none) r = true ∧ inL (fun _ => none) c' = true)
    {j : Nat} {dst : Option Nat} {r : List AOper} {K : St → Prop} {t : Fr} {m : Mem} {n : Nat} (hm : mget m j = some cells)
    (hk : ∀ v c', Q v c' → runOps P r ⟨putF t dst v, mset m j c', n + 1⟩ K) : callK P f (.ptr j 0 :: rest) dst r K t m n := by
  refine callK_gen [(0, j)] (.ptr 0 0 :: rest) [(0, cells)] (nb := j + 1) h (by simp [okRen]) (by simp [renL, AV.ren, pget, renL_noId _ hr]) (by simp only [inL, inB, pget]; simp; exact inL_mono (fun _ h => by cases h) _ hr) ⟨by simp [pget, hm, renL_noId _ hc]; exact inL_mono (fun _ h => by cases h) _ hc, trivial⟩ (by simp [mget]) ?_
  rintro r0 m' ⟨c', rfl, hq⟩
  obtain ⟨h1, h2⟩ := hQ _ _ hq
  rw [callMem_one h2, ren_noId _ h1]
  exact hk _ _ hq

def lexC (s : List UInt8) (a rd : Nat) (code eat : Int) : List AV := [.d (.str s), .d (.int .i64 a), .d (.int .i64 rd), .d (.int .i64 code), .d (.int .i64 eat)]
theorem lexC_in (s : List UInt8) (a rd : Nat) (code eat : Int) : inL (fun _ => none) (lexC s a rd code eat) = true := rfl

/-- How far it has looked, behind a look at k. -/
def rdW (s : List UInt8) (rd k : Nat) : Nat := if k < s.length then max rd (k + 1) else rd

theorem has_calls (s : List UInt8) (a rd : Nat) (code eat : Int) (k : Nat) : ACalls Tryd.prog 33 [.ptr 0 0, .d (.int .i64 k)] [(0, lexC s a rd code eat)] fun r m' => r = .d (.bool (decide (k < s.length))) ∧ m' = [(0, lexC s a rd code eat)] := by
  refine acalls_of Tryd.func33 ac33_ok Tryd.ntmps33 Tryd.results33 rfl ?_
  unfold ac33
  refine bwp_seq fun K hK => bwp_region rfl ?_
  simp -implicitDefEqProofs only [go_sem, ↓reduceIte, Nat.reduceEqDiff, Nat.reduceAdd, Nat.reduceLeDiff, Nat.reduceMul, Nat.reduceSub, Int.reduceLE, Int.reduceLT, Int.reduceEq, Int.reduceToNat, Int.reducePow, Int.reduceNeg]
  refine hK _ ?_; clear hK
  refine bwp_seq fun K hK => bwp_region rfl ?_
  simp -implicitDefEqProofs only [go_sem, ↓reduceIte, Nat.reduceEqDiff, Nat.reduceAdd, Nat.reduceLeDiff, Nat.reduceMul, Nat.reduceSub, Int.reduceLE, Int.reduceLT, Int.reduceEq, Int.reduceToNat, Int.reducePow, Int.reduceNeg, lexC]
  refine hK _ ?_; clear hK
  have e : (decide ((k : Int) < (s.length : Int))) = decide (k < s.length) := by rw [decide_eq_decide]; omega
  refine bwp_ret ?_
  simp only [go_sem]
  refine aend_mem (.d (.bool (decide (k < s.length)))) [(0, 0)] [(0, lexC s a rd code eat)] ?_ rfl rfl ?_ ⟨rfl, rfl⟩
  · simp [resA, resVs, resV, fget]
  · simp [entM, pinv, mget, renL, AV.ren, lexC]

theorem peek_calls {s : List UInt8} (hs : s.length ≤ 140737488351232) (a rd : Nat) (code eat : Int) (k : Nat) : ACalls Tryd.prog 34 [.ptr 0 0, .d (.int .i64 k)] [(0, lexC s a rd code eat)] fun r m' => r = .d (.int .u8 (s.getD k 0).toNat) ∧ m' = [(0, lexC s a (rdW s rd k) code eat)] := by
  refine acalls_of Tryd.func34 ac34_ok Tryd.ntmps34 Tryd.results34 rfl ?_
  unfold ac34
  refine bwp_seq fun K hK => bwp_region rfl ?_
  simp -implicitDefEqProofs only [go_sem, ↓reduceIte, Nat.reduceEqDiff, Nat.reduceAdd, Nat.reduceLeDiff, Nat.reduceMul, Nat.reduceSub, Int.reduceLE, Int.reduceLT, Int.reduceEq, Int.reduceToNat, Int.reducePow, Int.reduceNeg]
  refine hK _ ?_; clear hK
  refine bwp_seq fun K1 hK1 => ?_
  have hi0 : (0 : Int) ≤ (k : Int) := Int.natCast_nonneg _
  by_cases h : k < s.length
  · have h1 : ¬ (s.length : Int) ≤ (k : Int) := by omega
    have h2 : (k : Int) < s.length := by omega
    have hw : IntKind.i64.wrap ((k : Int) + 1) = ((k + 1 : Nat) : Int) := by rw [wrap_i64 (by omega) (by omega)]; rfl
    have hmx : (if (rd : Int) < ((k + 1 : Nat) : Int) then ((k + 1 : Nat) : Int) else (rd : Int)) = ((max rd (k + 1) : Nat) : Int) := by split <;> omega
    refine bwp_seq fun K hK => bwp_region rfl ?_
    simp -implicitDefEqProofs only [go_sem, ↓reduceIte, Nat.reduceEqDiff, Nat.reduceAdd, Nat.reduceLeDiff, Nat.reduceMul, Nat.reduceSub, Int.reduceLE, Int.reduceLT, Int.reduceEq, Int.reduceToNat, Int.reducePow, Int.reduceNeg, lexC, h1]
    refine hK _ ?_; clear hK
    refine bwp_cond false (by simp [ev, fget]) (fun h => nomatch h) (fun _ => ?_)
    refine bwp_skip ?_
    refine hK1 _ ?_; clear hK1
    refine bwp_seq fun K hK => bwp_region rfl ?_
    simp -implicitDefEqProofs only [go_sem, ↓reduceIte, Nat.reduceEqDiff, Nat.reduceAdd, Nat.reduceLeDiff, Nat.reduceMul, Nat.reduceSub, Int.reduceLE, Int.reduceLT, Int.reduceEq, Int.reduceToNat, Int.reducePow, Int.reduceNeg, hw, hmx]
    refine hK _ ?_; clear hK
    refine bwp_seq fun K hK => bwp_region rfl ?_
    simp -implicitDefEqProofs only [go_sem, ↓reduceIte, Nat.reduceEqDiff, Nat.reduceAdd, Nat.reduceLeDiff, Nat.reduceMul, Nat.reduceSub, Int.reduceLE, Int.reduceLT, Int.reduceEq, Int.reduceToNat, Int.reducePow, Int.reduceNeg, hi0, h2, Int.toNat_natCast]
    refine hK _ ?_; clear hK
    refine bwp_ret ?_
    simp only [go_sem]
    refine aend_mem (.d (.int .u8 (s.getD k 0).toNat)) [(0, 0)] [(0, lexC s a (rdW s rd k) code eat)] ?_ rfl rfl ?_ ⟨rfl, rfl⟩
    · simp [resA, resVs, resV, fget]
    · simp [entM, pinv, mget, mset, renL, AV.ren, lexC, rdW, h, Nat.max_def]
  · have h1 : (s.length : Int) ≤ (k : Int) := by omega
    have hz : s[k]?.getD 0 = 0 := by rw [List.getElem?_eq_none (by omega)]; rfl
    refine bwp_seq fun K hK => bwp_region rfl ?_
    simp -implicitDefEqProofs only [go_sem, ↓reduceIte, Nat.reduceEqDiff, Nat.reduceAdd, Nat.reduceLeDiff, Nat.reduceMul, Nat.reduceSub, Int.reduceLE, Int.reduceLT, Int.reduceEq, Int.reduceToNat, Int.reducePow, Int.reduceNeg, lexC, h1]
    refine hK _ ?_; clear hK
    refine bwp_cond true (by simp [ev, fget]) (fun _ => ?_) (fun h => nomatch h)
    refine bwp_seq fun K hK => bwp_region rfl ?_
    simp -implicitDefEqProofs only [go_sem, ↓reduceIte, Nat.reduceEqDiff, Nat.reduceAdd, Nat.reduceLeDiff, Nat.reduceMul, Nat.reduceSub, Int.reduceLE, Int.reduceLT, Int.reduceEq, Int.reduceToNat, Int.reducePow, Int.reduceNeg]
    refine hK _ ?_; clear hK
    refine bwp_ret ?_
    simp only [go_sem]
    refine aend_mem (.d (.int .u8 (s.getD k 0).toNat)) [(0, 0)] [(0, lexC s a (rdW s rd k) code eat)] ?_ rfl rfl ?_ ⟨rfl, rfl⟩
    · simp [resA, resVs, resV, fget, hz]
    · simp [entM, pinv, mget, mset, renL, AV.ren, lexC, rdW, h]

theorem has_callK (s : List UInt8) (a rd : Nat) (code eat : Int) (k : Nat) {j : Nat} {dst : Option Nat} {r : List AOper} {K : St → Prop} {t : Fr} {m : Mem} {n : Nat} (hm : mget m j = some (lexC s a rd code eat))
    (hk : runOps Tryd.prog r ⟨putF t dst (.d (.bool (decide (k < s.length)))), mset m j (lexC s a rd code eat), n + 1⟩ K) : callK Tryd.prog 33 [.ptr j 0, .d (.int .i64 k)] dst r K t m n := by
  refine meth_callK (rest := [.d (.int .i64 k)]) (Q := fun r c' => r = .d (.bool (decide (k < s.length))) ∧ c' = lexC s a rd code eat) ((has_calls s a rd code eat k).mono fun r m' h => ⟨_, h.2, h.1, rfl⟩) rfl rfl ?_ hm ?_
  · rintro _ _ ⟨rfl, rfl⟩; exact ⟨rfl, rfl⟩
  · rintro _ _ ⟨rfl, rfl⟩; exact hk

theorem peek_callK {s : List UInt8} (hs : s.length ≤ 140737488351232) (a rd : Nat) (code eat : Int) (k : Nat) {j : Nat} {dst : Option Nat} {r : List AOper} {K : St → Prop} {t : Fr} {m : Mem} {n : Nat} (hm : mget m j = some (lexC s a rd code eat))
    (hk : runOps Tryd.prog r ⟨putF t dst (.d (.int .u8 (s.getD k 0).toNat)), mset m j (lexC s a (rdW s rd k) code eat), n + 1⟩ K) : callK Tryd.prog 34 [.ptr j 0, .d (.int .i64 k)] dst r K t m n := by
  refine meth_callK (rest := [.d (.int .i64 k)]) (Q := fun r c' => r = .d (.int .u8 (s.getD k 0).toNat) ∧ c' = lexC s a (rdW s rd k) code eat) ((peek_calls hs a rd code eat k).mono fun r m' h => ⟨_, h.2, h.1, rfl⟩) rfl rfl ?_ hm ?_
  · rintro _ _ ⟨rfl, rfl⟩; exact ⟨rfl, rfl⟩
  · rintro _ _ ⟨rfl, rfl⟩; exact hk

/-! ### Kinds -/

def kindW (c : UInt8) : Int := if blankB c = true then 1 else if letB c = true then 2 else if digB c = true then 3 else 0

set_option maxHeartbeats 4000000 in
theorem kind_pure (c : UInt8) : Pure Tryd.prog 35 [.d (.int .u8 c.toNat)] (.d (.int .i64 (kindW c))) := by
  refine acalls_of Tryd.func35 ac35_ok Tryd.ntmps35 Tryd.results35 rfl ?_
  unfold ac35
  refine bwp_seq fun K hK => bwp_region rfl ?_
  simp -implicitDefEqProofs only [go_sem, ↓reduceIte, Nat.reduceEqDiff, Nat.reduceAdd, Nat.reduceLeDiff, Nat.reduceMul, Nat.reduceSub, Int.reduceLE, Int.reduceLT, Int.reduceEq, Int.reduceToNat, Int.reducePow, Int.reduceNeg]
  refine hK _ ?_; clear hK
  refine bwp_seq fun K1 hK1 => ?_
  refine bwp_block ?_
  have hb : ∀ {k : UInt8}, (c.toNat : Int) = k.toNat → blankB k = true → kindW c = 1 := fun h h1 => by rw [u8eq h]; unfold kindW; rw [if_pos h1]
  by_cases h32 : (c.toNat : Int) = 32
  · refine bwp_seq fun K hK => bwp_region rfl ?_
    simp -implicitDefEqProofs only [go_sem, ↓reduceIte, Nat.reduceEqDiff, Nat.reduceAdd, Nat.reduceLeDiff, Nat.reduceMul, Nat.reduceSub, Int.reduceLE, Int.reduceLT, Int.reduceEq, Int.reduceToNat, Int.reducePow, Int.reduceNeg, h32]
    refine hK _ ?_; clear hK
    refine bwp_cond true (by simp [ev, fget]) (fun _ => ?_) (fun h => nomatch h)
    refine bwp_seq fun K hK => bwp_region rfl ?_
    simp -implicitDefEqProofs only [go_sem, ↓reduceIte, Nat.reduceEqDiff, Nat.reduceAdd, Nat.reduceLeDiff, Nat.reduceMul, Nat.reduceSub, Int.reduceLE, Int.reduceLT, Int.reduceEq, Int.reduceToNat, Int.reducePow, Int.reduceNeg]
    refine hK _ ?_; clear hK
    refine bwp_ret ?_
    simp only [go_sem]
    refine aend_ret _ rfl rfl ⟨?_, rfl⟩
    simp [fget, hb (k := 32) h32 rfl]
  by_cases h9 : (c.toNat : Int) = 9
  · refine bwp_seq fun K hK => bwp_region rfl ?_
    simp -implicitDefEqProofs only [go_sem, ↓reduceIte, Nat.reduceEqDiff, Nat.reduceAdd, Nat.reduceLeDiff, Nat.reduceMul, Nat.reduceSub, Int.reduceLE, Int.reduceLT, Int.reduceEq, Int.reduceToNat, Int.reducePow, Int.reduceNeg, h32, h9]
    refine hK _ ?_; clear hK
    refine bwp_cond true (by simp [ev, fget]) (fun _ => ?_) (fun h => nomatch h)
    refine bwp_seq fun K hK => bwp_region rfl ?_
    simp -implicitDefEqProofs only [go_sem, ↓reduceIte, Nat.reduceEqDiff, Nat.reduceAdd, Nat.reduceLeDiff, Nat.reduceMul, Nat.reduceSub, Int.reduceLE, Int.reduceLT, Int.reduceEq, Int.reduceToNat, Int.reducePow, Int.reduceNeg]
    refine hK _ ?_; clear hK
    refine bwp_ret ?_
    simp only [go_sem]
    refine aend_ret _ rfl rfl ⟨?_, rfl⟩
    simp [fget, hb (k := 9) h9 rfl]
  by_cases h10 : (c.toNat : Int) = 10
  · refine bwp_seq fun K hK => bwp_region rfl ?_
    simp -implicitDefEqProofs only [go_sem, ↓reduceIte, Nat.reduceEqDiff, Nat.reduceAdd, Nat.reduceLeDiff, Nat.reduceMul, Nat.reduceSub, Int.reduceLE, Int.reduceLT, Int.reduceEq, Int.reduceToNat, Int.reducePow, Int.reduceNeg, h32, h9, h10]
    refine hK _ ?_; clear hK
    refine bwp_cond true (by simp [ev, fget]) (fun _ => ?_) (fun h => nomatch h)
    refine bwp_seq fun K hK => bwp_region rfl ?_
    simp -implicitDefEqProofs only [go_sem, ↓reduceIte, Nat.reduceEqDiff, Nat.reduceAdd, Nat.reduceLeDiff, Nat.reduceMul, Nat.reduceSub, Int.reduceLE, Int.reduceLT, Int.reduceEq, Int.reduceToNat, Int.reducePow, Int.reduceNeg]
    refine hK _ ?_; clear hK
    refine bwp_ret ?_
    simp only [go_sem]
    refine aend_ret _ rfl rfl ⟨?_, rfl⟩
    simp [fget, hb (k := 10) h10 rfl]
  have hbl : blankB c = false := by
    simp only [blankB, Bool.or_eq_false_iff, beq_eq_false_iff_ne]
    exact ⟨⟨u8ne (k := 32) h32, u8ne (k := 9) h9⟩, u8ne (k := 10) h10⟩
  refine bwp_seq fun K hK => bwp_region rfl ?_
  simp -implicitDefEqProofs only [go_sem, ↓reduceIte, Nat.reduceEqDiff, Nat.reduceAdd, Nat.reduceLeDiff, Nat.reduceMul, Nat.reduceSub, Int.reduceLE, Int.reduceLT, Int.reduceEq, Int.reduceToNat, Int.reducePow, Int.reduceNeg, h32, h9, h10]
  refine hK _ ?_; clear hK
  refine bwp_cond false (by simp [ev, fget]) (fun h => nomatch h) (fun _ => ?_)
  by_cases h97 : (97 : Int) ≤ c.toNat
  · by_cases h122 : (c.toNat : Int) ≤ 122
    · refine bwp_seq fun K hK => bwp_region rfl ?_
      simp -implicitDefEqProofs only [go_sem, ↓reduceIte, Nat.reduceEqDiff, Nat.reduceAdd, Nat.reduceLeDiff, Nat.reduceMul, Nat.reduceSub, Int.reduceLE, Int.reduceLT, Int.reduceEq, Int.reduceToNat, Int.reducePow, Int.reduceNeg, h97, h122]
      refine hK _ ?_; clear hK
      refine bwp_cond true (by simp [ev, fget]) (fun _ => ?_) (fun h => nomatch h)
      refine bwp_seq fun K hK => bwp_region rfl ?_
      simp -implicitDefEqProofs only [go_sem, ↓reduceIte, Nat.reduceEqDiff, Nat.reduceAdd, Nat.reduceLeDiff, Nat.reduceMul, Nat.reduceSub, Int.reduceLE, Int.reduceLT, Int.reduceEq, Int.reduceToNat, Int.reducePow, Int.reduceNeg]
      refine hK _ ?_; clear hK
      refine bwp_ret ?_
      simp only [go_sem]
      refine aend_ret _ rfl rfl ⟨?_, rfl⟩
      have e1 : 97 ≤ c.toNat := by omega
      have e2 : c.toNat ≤ 122 := by omega
      simp [fget, kindW, hbl, letB, e1, e2]
    · have e2 : ¬ c.toNat ≤ 122 := by omega
      have h48 : (48 : Int) ≤ c.toNat := by omega
      have h57 : ¬ (c.toNat : Int) ≤ 57 := by omega
      have e3 : ¬ c.toNat ≤ 57 := by omega
      refine bwp_seq fun K hK => bwp_region rfl ?_
      simp -implicitDefEqProofs only [go_sem, ↓reduceIte, Nat.reduceEqDiff, Nat.reduceAdd, Nat.reduceLeDiff, Nat.reduceMul, Nat.reduceSub, Int.reduceLE, Int.reduceLT, Int.reduceEq, Int.reduceToNat, Int.reducePow, Int.reduceNeg, h97, h122]
      refine hK _ ?_; clear hK
      refine bwp_cond false (by simp [ev, fget]) (fun h => nomatch h) (fun _ => ?_)
      refine bwp_seq fun K hK => bwp_region rfl ?_
      simp -implicitDefEqProofs only [go_sem, ↓reduceIte, Nat.reduceEqDiff, Nat.reduceAdd, Nat.reduceLeDiff, Nat.reduceMul, Nat.reduceSub, Int.reduceLE, Int.reduceLT, Int.reduceEq, Int.reduceToNat, Int.reducePow, Int.reduceNeg, h48, h57]
      refine hK _ ?_; clear hK
      refine bwp_cond false (by simp [ev, fget]) (fun h => nomatch h) (fun _ => ?_)
      refine bwp_skip ?_
      refine hK1 _ ?_; clear hK1
      refine bwp_seq fun K hK => bwp_region rfl ?_
      simp -implicitDefEqProofs only [go_sem, ↓reduceIte, Nat.reduceEqDiff, Nat.reduceAdd, Nat.reduceLeDiff, Nat.reduceMul, Nat.reduceSub, Int.reduceLE, Int.reduceLT, Int.reduceEq, Int.reduceToNat, Int.reducePow, Int.reduceNeg]
      refine hK _ ?_; clear hK
      refine bwp_ret ?_
      simp only [go_sem]
      refine aend_ret _ rfl rfl ⟨?_, rfl⟩
      simp [fget, kindW, hbl, letB, digB, e2, e3]
  · have e1 : ¬ 97 ≤ c.toNat := by omega
    refine bwp_seq fun K hK => bwp_region rfl ?_
    simp -implicitDefEqProofs only [go_sem, ↓reduceIte, Nat.reduceEqDiff, Nat.reduceAdd, Nat.reduceLeDiff, Nat.reduceMul, Nat.reduceSub, Int.reduceLE, Int.reduceLT, Int.reduceEq, Int.reduceToNat, Int.reducePow, Int.reduceNeg, h97]
    refine hK _ ?_; clear hK
    refine bwp_cond false (by simp [ev, fget]) (fun h => nomatch h) (fun _ => ?_)
    by_cases h48 : (48 : Int) ≤ c.toNat
    · by_cases h57 : (c.toNat : Int) ≤ 57
      · refine bwp_seq fun K hK => bwp_region rfl ?_
        simp -implicitDefEqProofs only [go_sem, ↓reduceIte, Nat.reduceEqDiff, Nat.reduceAdd, Nat.reduceLeDiff, Nat.reduceMul, Nat.reduceSub, Int.reduceLE, Int.reduceLT, Int.reduceEq, Int.reduceToNat, Int.reducePow, Int.reduceNeg, h48, h57]
        refine hK _ ?_; clear hK
        refine bwp_cond true (by simp [ev, fget]) (fun _ => ?_) (fun h => nomatch h)
        refine bwp_seq fun K hK => bwp_region rfl ?_
        simp -implicitDefEqProofs only [go_sem, ↓reduceIte, Nat.reduceEqDiff, Nat.reduceAdd, Nat.reduceLeDiff, Nat.reduceMul, Nat.reduceSub, Int.reduceLE, Int.reduceLT, Int.reduceEq, Int.reduceToNat, Int.reducePow, Int.reduceNeg]
        refine hK _ ?_; clear hK
        refine bwp_ret ?_
        simp only [go_sem]
        refine aend_ret _ rfl rfl ⟨?_, rfl⟩
        have e2 : 48 ≤ c.toNat := by omega
        have e3 : c.toNat ≤ 57 := by omega
        simp [fget, kindW, hbl, letB, digB, e1, e2, e3]
      · refine bwp_seq fun K hK => bwp_region rfl ?_
        simp -implicitDefEqProofs only [go_sem, ↓reduceIte, Nat.reduceEqDiff, Nat.reduceAdd, Nat.reduceLeDiff, Nat.reduceMul, Nat.reduceSub, Int.reduceLE, Int.reduceLT, Int.reduceEq, Int.reduceToNat, Int.reducePow, Int.reduceNeg, h48, h57]
        refine hK _ ?_; clear hK
        refine bwp_cond false (by simp [ev, fget]) (fun h => nomatch h) (fun _ => ?_)
        refine bwp_skip ?_
        refine hK1 _ ?_; clear hK1
        refine bwp_seq fun K hK => bwp_region rfl ?_
        simp -implicitDefEqProofs only [go_sem, ↓reduceIte, Nat.reduceEqDiff, Nat.reduceAdd, Nat.reduceLeDiff, Nat.reduceMul, Nat.reduceSub, Int.reduceLE, Int.reduceLT, Int.reduceEq, Int.reduceToNat, Int.reducePow, Int.reduceNeg]
        refine hK _ ?_; clear hK
        refine bwp_ret ?_
        simp only [go_sem]
        refine aend_ret _ rfl rfl ⟨?_, rfl⟩
        have e3 : ¬ c.toNat ≤ 57 := by omega
        simp [fget, kindW, hbl, letB, digB, e1, e3]
    · refine bwp_seq fun K hK => bwp_region rfl ?_
      simp -implicitDefEqProofs only [go_sem, ↓reduceIte, Nat.reduceEqDiff, Nat.reduceAdd, Nat.reduceLeDiff, Nat.reduceMul, Nat.reduceSub, Int.reduceLE, Int.reduceLT, Int.reduceEq, Int.reduceToNat, Int.reducePow, Int.reduceNeg, h48]
      refine hK _ ?_; clear hK
      refine bwp_cond false (by simp [ev, fget]) (fun h => nomatch h) (fun _ => ?_)
      refine bwp_skip ?_
      refine hK1 _ ?_; clear hK1
      refine bwp_seq fun K hK => bwp_region rfl ?_
      simp -implicitDefEqProofs only [go_sem, ↓reduceIte, Nat.reduceEqDiff, Nat.reduceAdd, Nat.reduceLeDiff, Nat.reduceMul, Nat.reduceSub, Int.reduceLE, Int.reduceLT, Int.reduceEq, Int.reduceToNat, Int.reducePow, Int.reduceNeg]
      refine hK _ ?_; clear hK
      refine bwp_ret ?_
      simp only [go_sem]
      refine aend_ret _ rfl rfl ⟨?_, rfl⟩
      have e2 : ¬ 48 ≤ c.toNat := by omega
      simp [fget, kindW, hbl, letB, digB, e1, e2]

theorem kind_aln (c : UInt8) : (2 ≤ kindW c) ↔ alnB c = true := by
  unfold kindW alnB
  cases h1 : blankB c with
  | true =>
    simp only [blankB, Bool.or_eq_true, beq_iff_eq] at h1
    rcases h1 with (rfl | rfl) | rfl <;> decide
  | false =>
    cases letB c <;> cases digB c <;> decide
theorem kind_blank (c : UInt8) : kindW c = 1 ↔ blankB c = true := by
  unfold kindW
  cases blankB c <;> cases letB c <;> cases digB c <;> decide

end Go.Proofs.YtpfbljkfbjjlkaaDoor
