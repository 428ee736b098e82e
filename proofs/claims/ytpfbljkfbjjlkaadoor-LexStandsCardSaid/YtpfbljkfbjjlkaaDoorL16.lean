/- The lexer: made, read, all tokens. -/
import Derived.Test.YtpfbljkfbjjlkaaDoorL15
import Derived.Test.YtpfbljkfbjjlkaaDoorL6
namespace Go.Proofs.YtpfbljkfbjjlkaaDoor
open Go Go.Jq
set_option maxRecDepth 100000
set_option linter.unusedSimpArgs false

theorem next_callK {s : List UInt8} (hs : s.length ≤ 140737488351232) {a rd : Nat} (ha : a ≤ s.length) (hr : a ≤ rd ∧ rd ≤ s.length) {j : Nat} {dst : Option Nat} {r : List AOper} {K : St → Prop} {t : Fr} {m : Mem} {n : Nat} (hm : mget m j = some (lexC s a rd 0 0))
    (hk : ∀ rd', (rd ≤ rd' ∧ rd' ≤ s.length ∧ (nextW s a).2.1 ≤ rd' ∧ ((nextW s a).2.2 = 0 → rd' ≤ max rd ((nextW s a).2.1 + 1))) →
      runOps Tryd.prog r ⟨putF t dst (nxR s a), mset m j (lexC s (nextW s a).2.1 rd' (nextW s a).2.2 (errAt s a)), n + 1⟩ K) : callK Tryd.prog 22 [.ptr j 0] dst r K t m n := by
  refine meth_callK (rest := []) (Q := nxQ s a rd) (next_calls hs ha hr) rfl rfl ?_ hm ?_
  · rintro _ _ ⟨rfl, rd', _, rfl⟩; exact ⟨nxR_in s a, rfl⟩
  · rintro _ _ ⟨rfl, rd', h, rfl⟩; exact hk rd' h

theorem nextE_calls (s : List UInt8) (a rd : Nat) {code : Int} (hc : code ≠ 0) (eat : Int) : ACalls Tryd.prog 22 [.ptr 0 0] [(0, lexC s a rd code eat)] fun r m' => r = .tup [.agg [.d (.int .i64 0), .d (.str []), .d (.int .i64 0)], .agg [.d (.int .i64 code), .d (.int .i64 eat)]] ∧ m' = [(0, lexC s a rd code eat)] := by
  have h34 : ldk Tryd.prog 34 = some (some 3) := by kernel_rfl
  have h26 : ldk Tryd.prog 26 = some (some 2) := by kernel_rfl
  refine acalls_of Tryd.func22 ac22_ok Tryd.ntmps22 Tryd.results22 rfl ?_
  unfold ac22
  refine bwp_seq fun K hK => bwp_region rfl ?_
  simp -implicitDefEqProofs only [go_sem, ↓reduceIte, Nat.reduceEqDiff, Nat.reduceAdd, Nat.reduceLeDiff, Nat.reduceMul, Nat.reduceSub, Int.reduceLE, Int.reduceLT, Int.reduceEq, Int.reduceToNat, Int.reducePow, Int.reduceNeg]
  refine hK _ ?_; clear hK
  refine bwp_seq fun K1 hK1 => ?_
  refine bwp_seq fun K hK => bwp_region rfl ?_
  simp -implicitDefEqProofs only [go_sem, ↓reduceIte, Nat.reduceEqDiff, Nat.reduceAdd, Nat.reduceLeDiff, Nat.reduceMul, Nat.reduceSub, Int.reduceLE, Int.reduceLT, Int.reduceEq, Int.reduceToNat, Int.reducePow, Int.reduceNeg, lexC, hc]
  refine hK _ ?_; clear hK
  refine bwp_cond true (by simp [ev, fget]) (fun _ => ?_) (fun h => nomatch h)
  refine bwp_seq fun K hK => bwp_region_draw rfl rfl ?_
  simp -implicitDefEqProofs only [go_sem, ↓reduceIte, Nat.reduceEqDiff, Nat.reduceAdd, Nat.reduceLeDiff, Nat.reduceMul, Nat.reduceSub, Int.reduceLE, Int.reduceLT, Int.reduceEq, Int.reduceToNat, Int.reducePow, Int.reduceNeg]
  refine ⟨rfl, hK _ ?_⟩; clear hK
  refine bwp_ret ?_
  simp only [go_sem]
  refine aend_mem (.tup [.agg [.d (.int .i64 0), .d (.str []), .d (.int .i64 0)], .agg [.d (.int .i64 code), .d (.int .i64 eat)]]) [(0, 0)] [(0, lexC s a rd code eat)] ?_ rfl rfl ?_ ⟨rfl, rfl⟩
  · simp [resA, resVs, resV, fget, mget, mset, loadA, h34, h26]
  · simp [entM, pinv, mget, mset, renL, AV.ren, lexC]

theorem nextE_callK (s : List UInt8) (a rd : Nat) {code : Int} (hc : code ≠ 0) (eat : Int) {j : Nat} {dst : Option Nat} {r : List AOper} {K : St → Prop} {t : Fr} {m : Mem} {n : Nat} (hm : mget m j = some (lexC s a rd code eat))
    (hk : runOps Tryd.prog r ⟨putF t dst (.tup [.agg [.d (.int .i64 0), .d (.str []), .d (.int .i64 0)], .agg [.d (.int .i64 code), .d (.int .i64 eat)]]), mset m j (lexC s a rd code eat), n + 1⟩ K) : callK Tryd.prog 22 [.ptr j 0] dst r K t m n := by
  refine meth_callK (rest := []) (Q := fun r c' => r = .tup [.agg [.d (.int .i64 0), .d (.str []), .d (.int .i64 0)], .agg [.d (.int .i64 code), .d (.int .i64 eat)]] ∧ c' = lexC s a rd code eat) ((nextE_calls s a rd hc eat).mono fun r m' h => ⟨_, h.2, h.1, rfl⟩) rfl rfl ?_ hm ?_
  · rintro _ _ ⟨rfl, rfl⟩; exact ⟨rfl, rfl⟩
  · rintro _ _ ⟨rfl, rfl⟩; exact hk

theorem read_calls (s : List UInt8) (a rd : Nat) (code eat : Int) : ACalls Tryd.prog 21 [.ptr 0 0] [(0, lexC s a rd code eat)] fun r m' => r = .d (.int .i64 rd) ∧ m' = [(0, lexC s a rd code eat)] := by
  refine acalls_of Tryd.func21 ac21_ok Tryd.ntmps21 Tryd.results21 rfl ?_
  unfold ac21
  refine bwp_seq fun K hK => bwp_region rfl ?_
  simp -implicitDefEqProofs only [go_sem, ↓reduceIte, Nat.reduceEqDiff, Nat.reduceAdd, Nat.reduceLeDiff, Nat.reduceMul, Nat.reduceSub, Int.reduceLE, Int.reduceLT, Int.reduceEq, Int.reduceToNat, Int.reducePow, Int.reduceNeg]
  refine hK _ ?_; clear hK
  refine bwp_seq fun K hK => bwp_region rfl ?_
  simp -implicitDefEqProofs only [go_sem, ↓reduceIte, Nat.reduceEqDiff, Nat.reduceAdd, Nat.reduceLeDiff, Nat.reduceMul, Nat.reduceSub, Int.reduceLE, Int.reduceLT, Int.reduceEq, Int.reduceToNat, Int.reducePow, Int.reduceNeg, lexC]
  refine hK _ ?_; clear hK
  refine bwp_ret ?_
  simp only [go_sem]
  refine aend_mem (.d (.int .i64 rd)) [(0, 0)] [(0, lexC s a rd code eat)] ?_ rfl rfl ?_ ⟨rfl, rfl⟩
  · simp [resA, resVs, resV, fget]
  · simp [entM, pinv, mget, mset, renL, AV.ren, lexC]

theorem read_callK (s : List UInt8) (a rd : Nat) (code eat : Int) {j : Nat} {dst : Option Nat} {r : List AOper} {K : St → Prop} {t : Fr} {m : Mem} {n : Nat} (hm : mget m j = some (lexC s a rd code eat))
    (hk : runOps Tryd.prog r ⟨putF t dst (.d (.int .i64 rd)), mset m j (lexC s a rd code eat), n + 1⟩ K) : callK Tryd.prog 21 [.ptr j 0] dst r K t m n := by
  refine meth_callK (rest := []) (Q := fun r c' => r = .d (.int .i64 rd) ∧ c' = lexC s a rd code eat) ((read_calls s a rd code eat).mono fun r m' h => ⟨_, h.2, h.1, rfl⟩) rfl rfl ?_ hm ?_
  · rintro _ _ ⟨rfl, rfl⟩; exact ⟨rfl, rfl⟩
  · rintro _ _ ⟨rfl, rfl⟩; exact hk

theorem new_calls (s : List UInt8) : ACalls Tryd.prog 20 [.d (.str s)] [] fun r m' => r = .ptr 0 0 ∧ m' = [(0, lexC s 0 0 0 0)] := by
  refine acalls_of Tryd.func20 ac20_ok Tryd.ntmps20 Tryd.results20 rfl ?_
  unfold ac20
  refine bwp_seq fun K hK => bwp_region rfl ?_
  simp -implicitDefEqProofs only [go_sem, ↓reduceIte, Nat.reduceEqDiff, Nat.reduceAdd, Nat.reduceLeDiff, Nat.reduceMul, Nat.reduceSub, Int.reduceLE, Int.reduceLT, Int.reduceEq, Int.reduceToNat, Int.reducePow, Int.reduceNeg]
  refine hK _ ?_; clear hK
  refine bwp_seq fun K hK => bwp_region rfl ?_
  simp -implicitDefEqProofs only [go_sem, ↓reduceIte, Nat.reduceEqDiff, Nat.reduceAdd, Nat.reduceLeDiff, Nat.reduceMul, Nat.reduceSub, Int.reduceLE, Int.reduceLT, Int.reduceEq, Int.reduceToNat, Int.reducePow, Int.reduceNeg]
  refine hK _ ?_; clear hK
  refine bwp_ret ?_
  simp only [go_sem]
  refine aend_mem (.ptr 0 0) [(0, 0)] [(0, lexC s 0 0 0 0)] ?_ rfl rfl ?_ ⟨rfl, rfl⟩
  · simp [resA, resVs, resV, fget]
  · simp [entM, pinv, mget, mset, renL, AV.ren, lexC]

theorem new_callK (s : List UInt8) {dst : Option Nat} {r : List AOper} {K : St → Prop} {t : Fr} {m : Mem} {n : Nat}
    (hk : runOps Tryd.prog r ⟨putF t dst (.ptr n 0), mset m n (lexC s 0 0 0 0), n + 1⟩ K) : callK Tryd.prog 20 [.d (.str s)] dst r K t m n := by
  refine callK_gen [] [.d (.str s)] [] (nb := 0) (new_calls s) rfl rfl rfl trivial rfl ?_
  rintro r0 m' ⟨rfl, rfl⟩
  have e1 : callMem [] [] [(0, lexC s 0 0 0 0)] n m = mset m n (lexC s 0 0 0 0) := by
    simp [callMem, updNew, updOld, mget, renL_noId _ (lexC_in s 0 0 0 0)]
  rw [e1]
  exact hk

def longV (s : List UInt8) : AV := if 4000 < s.length then .agg [.d (.int .i64 2), .d (.int .i64 4000)] else .agg [.d (.int .i64 0), .d (.int .i64 0)]

theorem long_pure (s : List UInt8) : Pure Tryd.prog 31 [.d (.str s)] (longV s) := by
  have h26 : ldk Tryd.prog 26 = some (some 2) := by kernel_rfl
  refine acalls_of Tryd.func31 ac31_ok Tryd.ntmps31 Tryd.results31 rfl ?_
  unfold ac31
  refine bwp_seq fun K hK => bwp_region rfl ?_
  simp -implicitDefEqProofs only [go_sem, ↓reduceIte, Nat.reduceEqDiff, Nat.reduceAdd, Nat.reduceLeDiff, Nat.reduceMul, Nat.reduceSub, Int.reduceLE, Int.reduceLT, Int.reduceEq, Int.reduceToNat, Int.reducePow, Int.reduceNeg]
  refine hK _ ?_; clear hK
  refine bwp_seq fun K1 hK1 => ?_
  by_cases hl : 4000 < s.length
  · have hl' : (4000 : Int) < s.length := by omega
    refine bwp_seq fun K hK => bwp_region rfl ?_
    simp -implicitDefEqProofs only [go_sem, ↓reduceIte, Nat.reduceEqDiff, Nat.reduceAdd, Nat.reduceLeDiff, Nat.reduceMul, Nat.reduceSub, Int.reduceLE, Int.reduceLT, Int.reduceEq, Int.reduceToNat, Int.reducePow, Int.reduceNeg, hl']
    refine hK _ ?_; clear hK
    refine bwp_cond true (by simp [ev, fget]) (fun _ => ?_) (fun h => nomatch h)
    refine bwp_seq fun K hK => bwp_region rfl ?_
    simp -implicitDefEqProofs only [go_sem, ↓reduceIte, Nat.reduceEqDiff, Nat.reduceAdd, Nat.reduceLeDiff, Nat.reduceMul, Nat.reduceSub, Int.reduceLE, Int.reduceLT, Int.reduceEq, Int.reduceToNat, Int.reducePow, Int.reduceNeg]
    refine hK _ ?_; clear hK
    refine bwp_ret ?_
    simp -implicitDefEqProofs only [go_sem, ↓reduceIte, Nat.reduceEqDiff, Nat.reduceAdd, Nat.reduceLeDiff, Nat.reduceMul, Nat.reduceSub, Int.reduceLE, Int.reduceLT, Int.reduceEq, Int.reduceToNat, Int.reducePow, Int.reduceNeg]
    refine aend_ret (longV s) ?_ (by unfold longV; rw [if_pos hl]; rfl) ⟨rfl, rfl⟩
    unfold longV
    rw [if_pos hl]
    simp [resA, resVs, resV, fget, mget, mset, loadA, h26]
  · have hl' : ¬ (4000 : Int) < s.length := by omega
    refine bwp_seq fun K hK => bwp_region rfl ?_
    simp -implicitDefEqProofs only [go_sem, ↓reduceIte, Nat.reduceEqDiff, Nat.reduceAdd, Nat.reduceLeDiff, Nat.reduceMul, Nat.reduceSub, Int.reduceLE, Int.reduceLT, Int.reduceEq, Int.reduceToNat, Int.reducePow, Int.reduceNeg, hl']
    refine hK _ ?_; clear hK
    refine bwp_cond false (by simp [ev, fget]) (fun h => nomatch h) (fun _ => ?_)
    refine bwp_skip ?_
    refine hK1 _ ?_; clear hK1
    refine bwp_seq fun K hK => bwp_region rfl ?_
    simp -implicitDefEqProofs only [go_sem, ↓reduceIte, Nat.reduceEqDiff, Nat.reduceAdd, Nat.reduceLeDiff, Nat.reduceMul, Nat.reduceSub, Int.reduceLE, Int.reduceLT, Int.reduceEq, Int.reduceToNat, Int.reducePow, Int.reduceNeg]
    refine hK _ ?_; clear hK
    refine bwp_ret ?_
    simp -implicitDefEqProofs only [go_sem, ↓reduceIte, Nat.reduceEqDiff, Nat.reduceAdd, Nat.reduceLeDiff, Nat.reduceMul, Nat.reduceSub, Int.reduceLE, Int.reduceLT, Int.reduceEq, Int.reduceToNat, Int.reducePow, Int.reduceNeg]
    refine aend_ret (longV s) ?_ (by unfold longV; rw [if_neg hl]; rfl) ⟨rfl, rfl⟩
    unfold longV
    rw [if_neg hl]
    simp [resA, resVs, resV, fget, mget, mset, loadA, h26]

def laS (s : List UInt8) (acc : List Tok) (a rd : Nat) : St := ⟨[(6, .sl 2 3 0 acc.length), (5, .ptr 1 0), (3, .ptr 0 0)], [(0, [.d (.int .i64 0), .d (.int .i64 0)]), (1, lexC s a rd 0 0), (2, (acc.flatMap Tok.cells).map .d)], 3⟩

set_option maxHeartbeats 8000000 in
theorem all_pure {s : List UInt8} (hs : s.length ≤ maxLen) : Pure Tryd.prog 16 [.d (.str s)] (allV (allW s)) := by
  have h26 : ldk Tryd.prog 26 = some (some 2) := by kernel_rfl
  have hren : (allV (allW s)).ren (fun _ => none) = allV (allW s) := by simp [allV, AV.ren, renL]
  have kl := long_pure s
  refine acalls_of Tryd.func16 ac16_ok Tryd.ntmps16 Tryd.results16 rfl ?_
  unfold ac16
  refine bwp_seq fun K hK => bwp_region rfl ?_
  simp -implicitDefEqProofs only [go_sem, ↓reduceIte, Nat.reduceEqDiff, Nat.reduceAdd, Nat.reduceLeDiff, Nat.reduceMul, Nat.reduceSub, Int.reduceLE, Int.reduceLT, Int.reduceEq, Int.reduceToNat, Int.reducePow, Int.reduceNeg]
  refine hK _ ?_; clear hK
  refine bwp_seq fun K1 hK1 => ?_
  by_cases hl : 4000 < s.length
  · unfold longV at kl
    rw [if_pos hl] at kl
    refine bwp_seq fun K hK => bwp_region rfl ?_
    simp -implicitDefEqProofs only [go_sem, ↓reduceIte, Nat.reduceEqDiff, Nat.reduceAdd, Nat.reduceLeDiff, Nat.reduceMul, Nat.reduceSub, Int.reduceLE, Int.reduceLT, Int.reduceEq, Int.reduceToNat, Int.reducePow, Int.reduceNeg]
    repeat' (first
      | (refine gateK_split (fun hb => ?_) (fun hb => ?_) <;> simp -implicitDefEqProofs only [go_sem, ↓reduceIte, Nat.reduceEqDiff, Nat.reduceAdd, Nat.reduceLeDiff, Nat.reduceMul, Nat.reduceSub, Int.reduceLE, Int.reduceLT, Int.reduceEq, Int.reduceToNat, Int.reducePow, Int.reduceNeg, hb])
      | (refine dGateK_split (fun hb => ?_) (fun hb => ?_) <;> simp -implicitDefEqProofs only [go_sem, ↓reduceIte, Nat.reduceEqDiff, Nat.reduceAdd, Nat.reduceLeDiff, Nat.reduceMul, Nat.reduceSub, Int.reduceLE, Int.reduceLT, Int.reduceEq, Int.reduceToNat, Int.reducePow, Int.reduceNeg, hb])
      | (refine callK_pure (kl) rfl rfl ?_; simp -implicitDefEqProofs only [go_sem, ↓reduceIte, Nat.reduceEqDiff, Nat.reduceAdd, Nat.reduceLeDiff, Nat.reduceMul, Nat.reduceSub, Int.reduceLE, Int.reduceLT, Int.reduceEq, Int.reduceToNat, Int.reducePow, Int.reduceNeg])
      | (refine dCallK_pure (kl) rfl rfl ?_; simp -implicitDefEqProofs only [go_sem, ↓reduceIte, Nat.reduceEqDiff, Nat.reduceAdd, Nat.reduceLeDiff, Nat.reduceMul, Nat.reduceSub, Int.reduceLE, Int.reduceLT, Int.reduceEq, Int.reduceToNat, Int.reducePow, Int.reduceNeg])
      | (rw [if_pos (by (try simp only [List.length_append, List.length_cons, List.length_nil, List.length_map]); omega)]; simp -implicitDefEqProofs only [go_sem, ↓reduceIte, Nat.reduceEqDiff, Nat.reduceAdd, Nat.reduceLeDiff, Nat.reduceMul, Nat.reduceSub, Int.reduceLE, Int.reduceLT, Int.reduceEq, Int.reduceToNat, Int.reducePow, Int.reduceNeg]))
    refine hK _ ?_; clear hK
    refine bwp_seq fun K hK => bwp_region rfl ?_
    simp -implicitDefEqProofs only [go_sem, ↓reduceIte, Nat.reduceEqDiff, Nat.reduceAdd, Nat.reduceLeDiff, Nat.reduceMul, Nat.reduceSub, Int.reduceLE, Int.reduceLT, Int.reduceEq, Int.reduceToNat, Int.reducePow, Int.reduceNeg]
    refine hK _ ?_; clear hK
    refine bwp_cond true (by simp [ev, fget]) (fun _ => ?_) (fun h => nomatch h)
    refine bwp_seq fun K hK => bwp_region_draw rfl rfl ?_
    simp -implicitDefEqProofs only [go_sem, ↓reduceIte, Nat.reduceEqDiff, Nat.reduceAdd, Nat.reduceLeDiff, Nat.reduceMul, Nat.reduceSub, Int.reduceLE, Int.reduceLT, Int.reduceEq, Int.reduceToNat, Int.reducePow, Int.reduceNeg]
    refine ⟨rfl, hK _ ?_⟩; clear hK
    refine bwp_ret ?_
    simp -implicitDefEqProofs only [go_sem, ↓reduceIte, Nat.reduceEqDiff, Nat.reduceAdd, Nat.reduceLeDiff, Nat.reduceMul, Nat.reduceSub, Int.reduceLE, Int.reduceLT, Int.reduceEq, Int.reduceToNat, Int.reducePow, Int.reduceNeg]
    refine aend_ret (allV (allW s)) ?_ hren ⟨rfl, rfl⟩
    have : allW s = ([], 2, 4000) := by unfold allW; rw [if_pos hl]
    rw [this]
    simp [resA, resVs, resV, fget, mget, mset, loadA, h26, allV, tokD]
  unfold longV at kl
  rw [if_neg hl] at kl
  refine bwp_seq fun K hK => bwp_region rfl ?_
  simp -implicitDefEqProofs only [go_sem, ↓reduceIte, Nat.reduceEqDiff, Nat.reduceAdd, Nat.reduceLeDiff, Nat.reduceMul, Nat.reduceSub, Int.reduceLE, Int.reduceLT, Int.reduceEq, Int.reduceToNat, Int.reducePow, Int.reduceNeg]
  repeat' (first
    | (refine gateK_split (fun hb => ?_) (fun hb => ?_) <;> simp -implicitDefEqProofs only [go_sem, ↓reduceIte, Nat.reduceEqDiff, Nat.reduceAdd, Nat.reduceLeDiff, Nat.reduceMul, Nat.reduceSub, Int.reduceLE, Int.reduceLT, Int.reduceEq, Int.reduceToNat, Int.reducePow, Int.reduceNeg, hb])
    | (refine dGateK_split (fun hb => ?_) (fun hb => ?_) <;> simp -implicitDefEqProofs only [go_sem, ↓reduceIte, Nat.reduceEqDiff, Nat.reduceAdd, Nat.reduceLeDiff, Nat.reduceMul, Nat.reduceSub, Int.reduceLE, Int.reduceLT, Int.reduceEq, Int.reduceToNat, Int.reducePow, Int.reduceNeg, hb])
    | (refine callK_pure (kl) rfl rfl ?_; simp -implicitDefEqProofs only [go_sem, ↓reduceIte, Nat.reduceEqDiff, Nat.reduceAdd, Nat.reduceLeDiff, Nat.reduceMul, Nat.reduceSub, Int.reduceLE, Int.reduceLT, Int.reduceEq, Int.reduceToNat, Int.reducePow, Int.reduceNeg])
    | (refine dCallK_pure (kl) rfl rfl ?_; simp -implicitDefEqProofs only [go_sem, ↓reduceIte, Nat.reduceEqDiff, Nat.reduceAdd, Nat.reduceLeDiff, Nat.reduceMul, Nat.reduceSub, Int.reduceLE, Int.reduceLT, Int.reduceEq, Int.reduceToNat, Int.reducePow, Int.reduceNeg])
    | (rw [if_pos (by (try simp only [List.length_append, List.length_cons, List.length_nil, List.length_map]); omega)]; simp -implicitDefEqProofs only [go_sem, ↓reduceIte, Nat.reduceEqDiff, Nat.reduceAdd, Nat.reduceLeDiff, Nat.reduceMul, Nat.reduceSub, Int.reduceLE, Int.reduceLT, Int.reduceEq, Int.reduceToNat, Int.reducePow, Int.reduceNeg]))
  refine hK _ ?_; clear hK
  refine bwp_seq fun K hK => bwp_region rfl ?_
  simp -implicitDefEqProofs only [go_sem, ↓reduceIte, Nat.reduceEqDiff, Nat.reduceAdd, Nat.reduceLeDiff, Nat.reduceMul, Nat.reduceSub, Int.reduceLE, Int.reduceLT, Int.reduceEq, Int.reduceToNat, Int.reducePow, Int.reduceNeg]
  refine hK _ ?_; clear hK
  refine bwp_cond false (by simp [ev, fget]) (fun h => nomatch h) (fun _ => ?_)
  refine bwp_skip ?_
  refine hK1 _ ?_; clear hK1
  refine bwp_seq fun K hK => bwp_region rfl ?_
  simp -implicitDefEqProofs only [go_sem, ↓reduceIte, Nat.reduceEqDiff, Nat.reduceAdd, Nat.reduceLeDiff, Nat.reduceMul, Nat.reduceSub, Int.reduceLE, Int.reduceLT, Int.reduceEq, Int.reduceToNat, Int.reducePow, Int.reduceNeg]
  refine new_callK s ?_
  simp -implicitDefEqProofs only [go_sem, ↓reduceIte, Nat.reduceEqDiff, Nat.reduceAdd, Nat.reduceLeDiff, Nat.reduceMul, Nat.reduceSub, Int.reduceLE, Int.reduceLT, Int.reduceEq, Int.reduceToNat, Int.reducePow, Int.reduceNeg, mset]
  refine hK _ ?_; clear hK
  refine bwp_seq fun K hK => bwp_region rfl ?_
  simp -implicitDefEqProofs only [go_sem, ↓reduceIte, Nat.reduceEqDiff, Nat.reduceAdd, Nat.reduceLeDiff, Nat.reduceMul, Nat.reduceSub, Int.reduceLE, Int.reduceLT, Int.reduceEq, Int.reduceToNat, Int.reducePow, Int.reduceNeg]
  refine hK _ ?_; clear hK
  refine bwp_block ?_
  refine bwp_leads (S' := ⟨[(6, .d .nsl), (5, .ptr 1 0), (3, .ptr 0 0)], [(0, [.d (.int .i64 0), .d (.int .i64 0)]), (1, lexC s 0 0 0 0)], 2⟩) (Leads.ent [(0, 0), (2, 1)] ⟨by simp [entT, fget, AV.ren, renL, pget], by simp [entM, pinv, mget, renL, AV.ren, lexC], rfl, rfl⟩) ?_
  refine bwp_leads (Leads.nil 6 3 rfl rfl) ?_
  refine bwp_leads (S' := laS s [] 0 0) (Leads.ent [(0, 0), (1, 1), (2, 2)] ⟨by simp [entT, fget, AV.ren, renL, pget, laS, lexC], by simp [entM, pinv, mget, mset, renL, AV.ren, pget, renL_append, -List.map_map, laS, lexC], rfl, rfl⟩) ?_
  have hF : allW s = joinR [] (toksW s (s.length + 1) 0) := by
    unfold allW joinR
    rw [if_neg hl]
    split
    · rename_i h
      have := toks_of_tl (tl_of_toks (Nat.zero_le _) (by omega) h) (Nat.zero_le _) (by omega : s.length - 0 < s.length + 1)
      rw [this]
      rfl
    · rename_i h
      rw [← toks_bad h]
  refine bwp_fam (ι := { p : List Tok × Nat × Nat // p.1.length ≤ p.2.1 ∧ p.2.1 ≤ s.length ∧ (p.2.1 ≤ p.2.2 ∧ p.2.2 ≤ s.length) ∧ allW s = joinR p.1 (toksW s (s.length + 1) p.2.1) }) (fun p => laS s p.1.1 p.1.2.1 p.1.2.2) (fun p => s.length - p.1.2.1) ⟨([], 0, 0), Nat.zero_le _, Nat.zero_le _, ⟨Nat.le_refl _, Nat.zero_le _⟩, hF⟩ ?_
  rintro ⟨⟨acc, a, rd⟩, hle, ha, hrd, hA⟩
  simp only at hle ha hrd hA ⊢
  unfold ac16L0 laS
  refine bwp_block ?_
  have htk : ((acc.flatMap Tok.cells).map AV.d).length = acc.length * 3 := by rw [List.length_map, toks_cell]
  refine bwp_seq fun K hK => bwp_region rfl ?_
  simp -implicitDefEqProofs only [go_sem, ↓reduceIte, Nat.reduceEqDiff, Nat.reduceAdd, Nat.reduceLeDiff, Nat.reduceMul, Nat.reduceSub, Int.reduceLE, Int.reduceLT, Int.reduceEq, Int.reduceToNat, Int.reducePow, Int.reduceNeg]
  refine next_callK (by omega) ha hrd rfl ?_
  intro rd' hrd'
  by_cases h0 : (nextW s a).2.2 = 0
  · have he : nextW s a = ((nextW s a).1, (nextW s a).2.1, 0) := by rw [← h0]
    have hee : errAt s a = 0 := by unfold errAt; rw [if_pos h0]
    rw [nxR_ok he, hee, h0]
    have hto := nextW_to ha
    generalize (nextW s a).1 = t at he hto ⊢
    generalize (nextW s a).2.1 = e at he hto hrd' ⊢
    have b1 : (acc.length + 1) * 32 ≤ 140737488351232 := by omega
    simp -implicitDefEqProofs only [go_sem, ↓reduceIte, Nat.reduceEqDiff, Nat.reduceAdd, Nat.reduceLeDiff, Nat.reduceMul, Nat.reduceSub, Int.reduceLE, Int.reduceLT, Int.reduceEq, Int.reduceToNat, Int.reducePow, Int.reduceNeg, mset, lexC]
    refine hK _ ?_; clear hK
    refine bwp_seq fun K1 hK1 => ?_
    refine bwp_seq fun K hK => bwp_region rfl ?_
    simp -implicitDefEqProofs only [go_sem, ↓reduceIte, Nat.reduceEqDiff, Nat.reduceAdd, Nat.reduceLeDiff, Nat.reduceMul, Nat.reduceSub, Int.reduceLE, Int.reduceLT, Int.reduceEq, Int.reduceToNat, Int.reducePow, Int.reduceNeg]
    refine hK _ ?_; clear hK
    refine bwp_cond false (by simp [ev, fget]) (fun h => nomatch h) (fun _ => ?_)
    refine bwp_skip ?_
    refine hK1 _ ?_; clear hK1
    refine bwp_seq fun K hK => bwp_region rfl ?_
    simp -implicitDefEqProofs only [go_sem, ↓reduceIte, Nat.reduceEqDiff, Nat.reduceAdd, Nat.reduceLeDiff, Nat.reduceMul, Nat.reduceSub, Int.reduceLE, Int.reduceLT, Int.reduceEq, Int.reduceToNat, Int.reducePow, Int.reduceNeg, htk, List.length_append, List.length_map, List.length_cons, List.length_nil, b1, toks_cell]
    refine hK _ ?_; clear hK
    by_cases h4 : t.kd = 4
    · have hF1 : allW s = (acc ++ [t], 0, 0) := by
        rw [hA, toksW, he, if_pos rfl, if_pos h4]; rfl
      refine bwp_seq fun K hK => bwp_region rfl ?_
      simp -implicitDefEqProofs only [go_sem, ↓reduceIte, Nat.reduceEqDiff, Nat.reduceAdd, Nat.reduceLeDiff, Nat.reduceMul, Nat.reduceSub, Int.reduceLE, Int.reduceLT, Int.reduceEq, Int.reduceToNat, Int.reducePow, Int.reduceNeg, h4]
      refine hK _ ?_; clear hK
      refine bwp_cond true (by simp [ev, fget]) (fun _ => ?_) (fun h => nomatch h)
      refine bwp_seq fun K hK => bwp_region rfl ?_
      simp -implicitDefEqProofs only [go_sem, ↓reduceIte, Nat.reduceEqDiff, Nat.reduceAdd, Nat.reduceLeDiff, Nat.reduceMul, Nat.reduceSub, Int.reduceLE, Int.reduceLT, Int.reduceEq, Int.reduceToNat, Int.reducePow, Int.reduceNeg]
      refine hK _ ?_; clear hK
      refine bwp_leads (S' := ⟨[(2, .sl 1 3 0 (acc ++ [t]).length), (3, .ptr 0 0)], [(0, [.d (.int .i64 0), .d (.int .i64 0)]), (1, ((acc ++ [t]).flatMap Tok.cells).map .d)], 2⟩) (Leads.ent [(0, 0), (7, 1)] ⟨by simp [entT, fget, AV.ren, renL, pget], by simp [entM, pinv, mget, mset, renL, AV.ren, pget, renL_append, -List.map_map, Tok.cells, h4], rfl, rfl⟩) ?_
      have htk2 := toks_cell (acc ++ [t])
      have hne : acc ++ [t] ≠ [] := by simp
      have htd := tokD_ne hne
      generalize hds : (acc ++ [t]).flatMap Tok.cells = ds at htk2 htd
      have htk3 : ds.take ((acc ++ [t]).length * 3) = ds := List.take_of_length_le (by omega)
      refine bwp_leads (Leads.frz (S' := ⟨[(2, .d (.sl (acc ++ [t]).length ds)), (3, .ptr 0 0)], [(0, [.d (.int .i64 0), .d (.int .i64 0)])], 1⟩) [(0, 0)] [(1, ds)] ⟨?_, ?_, rfl, rfl, ?_⟩) ?_
      · simp only [List.length_append, List.length_cons, List.length_nil, Nat.zero_add] at htk3 ⊢
        simp [frzT, fget, AV.cv, cvL, zget, pget, htk3]
      · simp [frzM, pinv, zget, mget, cvL, AV.cv]
      · simp [zokFrom, mget, cvL_d]
      refine bwp_ret ?_
      simp -implicitDefEqProofs only [go_sem, ↓reduceIte, Nat.reduceEqDiff, Nat.reduceAdd, Nat.reduceLeDiff, Nat.reduceMul, Nat.reduceSub, Int.reduceLE, Int.reduceLT, Int.reduceEq, Int.reduceToNat, Int.reducePow, Int.reduceNeg]
      refine aend_ret (allV (allW s)) ?_ hren ⟨rfl, rfl⟩
      rw [hF1]
      simp only [allV, htd]
      simp [resA, resVs, resV, fget, mget, mset, loadA, h26]
    · have hst := toks_step ha he h4 acc
      have hto2 : a < e := hto.2.2 (by rw [he]) h4
      have hto1 : e ≤ s.length := hto.2.1
      refine bwp_seq fun K hK => bwp_region rfl ?_
      simp -implicitDefEqProofs only [go_sem, ↓reduceIte, Nat.reduceEqDiff, Nat.reduceAdd, Nat.reduceLeDiff, Nat.reduceMul, Nat.reduceSub, Int.reduceLE, Int.reduceLT, Int.reduceEq, Int.reduceToNat, Int.reducePow, Int.reduceNeg, h4]
      refine hK _ ?_; clear hK
      refine bwp_cond false (by simp [ev, fget]) (fun h => nomatch h) (fun _ => ?_)
      refine bwp_skip ?_
      simp -implicitDefEqProofs only [go_sem, ↓reduceIte, Nat.reduceEqDiff, Nat.reduceAdd, Nat.reduceLeDiff, Nat.reduceMul, Nat.reduceSub, Int.reduceLE, Int.reduceLT, Int.reduceEq, Int.reduceToNat, Int.reducePow, Int.reduceNeg]
      refine ⟨⟨(acc ++ [t], e, rd'), by simp only [List.length_append, List.length_cons, List.length_nil]; omega, hto1, by simp only; omega, by rw [hA, hst]⟩, by simp only; omega, ?_⟩
      exact Leads.ent [(0, 0), (1, 1), (7, 2)] ⟨by simp [laS, entT, fget, AV.ren, renL, pget], by simp [laS, lexC, entM, pinv, mget, mset, renL, AV.ren, pget, renL_append, -List.map_map, Tok.cells], rfl, rfl⟩
  · have hF1 : allW s = ([], (nextW s a).2.2, skipA s a) := by
      rw [hA, toks_err h0]
      unfold joinR
      rw [if_neg h0]
    have hbad : nextW s a = (noTok, (nextW s a).2.1, (nextW s a).2.2) := by
      have := tokAt_bad (a := skipA s a) (l := s.drop (skipA s a)) h0
      unfold nextW
      rw [← this]
    rw [nxR_bad h0 hbad]
    generalize (nextW s a).2.1 = e at hrd' ⊢
    generalize (nextW s a).2.2 = code at hF1 h0 ⊢
    simp -implicitDefEqProofs only [go_sem, ↓reduceIte, Nat.reduceEqDiff, Nat.reduceAdd, Nat.reduceLeDiff, Nat.reduceMul, Nat.reduceSub, Int.reduceLE, Int.reduceLT, Int.reduceEq, Int.reduceToNat, Int.reducePow, Int.reduceNeg, mset, lexC]
    refine hK _ ?_; clear hK
    refine bwp_seq fun K1 hK1 => ?_
    refine bwp_seq fun K hK => bwp_region rfl ?_
    simp -implicitDefEqProofs only [go_sem, ↓reduceIte, Nat.reduceEqDiff, Nat.reduceAdd, Nat.reduceLeDiff, Nat.reduceMul, Nat.reduceSub, Int.reduceLE, Int.reduceLT, Int.reduceEq, Int.reduceToNat, Int.reducePow, Int.reduceNeg, h0]
    refine hK _ ?_; clear hK
    refine bwp_cond true (by simp [ev, fget]) (fun _ => ?_) (fun h => nomatch h)
    refine bwp_seq fun K hK => bwp_region_draw rfl rfl ?_
    simp -implicitDefEqProofs only [go_sem, ↓reduceIte, Nat.reduceEqDiff, Nat.reduceAdd, Nat.reduceLeDiff, Nat.reduceMul, Nat.reduceSub, Int.reduceLE, Int.reduceLT, Int.reduceEq, Int.reduceToNat, Int.reducePow, Int.reduceNeg]
    refine ⟨rfl, hK _ ?_⟩; clear hK
    refine bwp_ret ?_
    simp -implicitDefEqProofs only [go_sem, ↓reduceIte, Nat.reduceEqDiff, Nat.reduceAdd, Nat.reduceLeDiff, Nat.reduceMul, Nat.reduceSub, Int.reduceLE, Int.reduceLT, Int.reduceEq, Int.reduceToNat, Int.reducePow, Int.reduceNeg]
    refine aend_ret (allV (allW s)) ?_ hren ⟨rfl, rfl⟩
    rw [hF1]
    simp [resA, resVs, resV, fget, mget, mset, loadA, h26, allV, tokD]

/-! ### What the document fixes -/

theorem awake_text : allW [120, 60, 60, 45, 51] = ([⟨1, [120], 0⟩, ⟨3, [60, 60], 1⟩, ⟨2, [45, 51], 3⟩, ⟨4, [], 5⟩], 0, 0) := by
  have hp : (parseW [45, 51]).2 = true := by
    have : Lib.itoa (-3) = [45, 51] := by
      unfold Lib.itoa
      rw [if_pos (by decide)]
      show 45 :: Lib.decDigits 3 = _
      rw [Lib.decDigits_one (by decide)]
      rfl
    rw [← this, parseW_itoa (by unfold I64; omega)]
  refine allW_tl (by decide) ⟨1, rfl, ?_⟩
  rw [if_neg (by decide)]
  refine ⟨3, rfl, ?_⟩
  rw [if_neg (by decide)]
  refine ⟨5, ?_, ?_⟩
  · have : nextW [120, 60, 60, 45, 51] 3 = tokAt 3 [45, 51] := rfl
    rw [this, tokAt, if_neg (by decide), if_pos (by decide)]
    have : runL [51] = 1 := rfl
    rw [this]
    show (if (parseW [45, 51]).2 = true then _ else _) = _
    rw [if_pos hp]
    rfl
  rw [if_neg (by decide)]
  exact ⟨5, rfl, by rw [if_pos rfl]⟩

set_option maxHeartbeats 4000000 in
theorem awake2_pure : Pure Tryd.prog 18 [] (.d (.bool true)) := by
  have k := all_pure (s := [120, 60, 60, 45, 51]) (by decide)
  rw [awake_text] at k
  simp only [allV, tokD, List.length_cons, List.length_nil, List.flatMap_cons, List.flatMap_nil, Tok.cells, List.cons_append, List.nil_append, Nat.zero_add, Nat.reduceAdd] at k
  refine acalls_of Tryd.func18 ac18_ok Tryd.ntmps18 Tryd.results18 rfl ?_
  unfold ac18
  refine bwp_seq fun K hK => bwp_region rfl ?_
  simp -implicitDefEqProofs only [go_sem, ↓reduceIte, Nat.reduceEqDiff, Nat.reduceAdd, Nat.reduceLeDiff, Nat.reduceMul, Nat.reduceSub, Int.reduceLE, Int.reduceLT, Int.reduceEq, Int.reduceToNat, Int.reducePow, Int.reduceNeg]
  refine hK _ ?_; clear hK
  refine bwp_seq fun K hK => bwp_region rfl ?_
  simp -implicitDefEqProofs only [go_sem, ↓reduceIte, Nat.reduceEqDiff, Nat.reduceAdd, Nat.reduceLeDiff, Nat.reduceMul, Nat.reduceSub, Int.reduceLE, Int.reduceLT, Int.reduceEq, Int.reduceToNat, Int.reducePow, Int.reduceNeg]
  repeat' (first
    | (refine gateK_split (fun hb => ?_) (fun hb => ?_) <;> simp -implicitDefEqProofs only [go_sem, ↓reduceIte, Nat.reduceEqDiff, Nat.reduceAdd, Nat.reduceLeDiff, Nat.reduceMul, Nat.reduceSub, Int.reduceLE, Int.reduceLT, Int.reduceEq, Int.reduceToNat, Int.reducePow, Int.reduceNeg, hb])
    | (refine dGateK_split (fun hb => ?_) (fun hb => ?_) <;> simp -implicitDefEqProofs only [go_sem, ↓reduceIte, Nat.reduceEqDiff, Nat.reduceAdd, Nat.reduceLeDiff, Nat.reduceMul, Nat.reduceSub, Int.reduceLE, Int.reduceLT, Int.reduceEq, Int.reduceToNat, Int.reducePow, Int.reduceNeg, hb])
    | (refine callK_pure (k) rfl rfl ?_; simp -implicitDefEqProofs only [go_sem, ↓reduceIte, Nat.reduceEqDiff, Nat.reduceAdd, Nat.reduceLeDiff, Nat.reduceMul, Nat.reduceSub, Int.reduceLE, Int.reduceLT, Int.reduceEq, Int.reduceToNat, Int.reducePow, Int.reduceNeg])
    | (refine dCallK_pure (k) rfl rfl ?_; simp -implicitDefEqProofs only [go_sem, ↓reduceIte, Nat.reduceEqDiff, Nat.reduceAdd, Nat.reduceLeDiff, Nat.reduceMul, Nat.reduceSub, Int.reduceLE, Int.reduceLT, Int.reduceEq, Int.reduceToNat, Int.reducePow, Int.reduceNeg])
    | (rw [if_pos (by (try simp only [List.length_append, List.length_cons, List.length_nil, List.length_map]); omega)]; simp -implicitDefEqProofs only [go_sem, ↓reduceIte, Nat.reduceEqDiff, Nat.reduceAdd, Nat.reduceLeDiff, Nat.reduceMul, Nat.reduceSub, Int.reduceLE, Int.reduceLT, Int.reduceEq, Int.reduceToNat, Int.reducePow, Int.reduceNeg]))
  refine hK _ ?_; clear hK
  refine bwp_seq fun K hK => bwp_region rfl ?_
  simp -implicitDefEqProofs only [go_sem, ↓reduceIte, Nat.reduceEqDiff, Nat.reduceAdd, Nat.reduceLeDiff, Nat.reduceMul, Nat.reduceSub, Int.reduceLE, Int.reduceLT, Int.reduceEq, Int.reduceToNat, Int.reducePow, Int.reduceNeg]
  refine hK _ ?_; clear hK
  refine bwp_ret ?_
  simp only [go_sem]
  refine aend_ret _ rfl rfl ⟨?_, rfl⟩
  trace_state
  simp [fget]

end Go.Proofs.YtpfbljkfbjjlkaaDoor
