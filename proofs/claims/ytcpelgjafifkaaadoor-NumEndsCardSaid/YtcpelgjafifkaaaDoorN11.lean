/- NumEnds comes to true. -/
import Derived.Test.YtcpelgjafifkaaaDoorN10
namespace Go.Proofs.YtcpelgjafifkaaaDoor
open Go Go.Jq
set_option maxRecDepth 100000
set_option linter.unusedSimpArgs false

set_option maxHeartbeats 16000000 in
theorem numEnds_pure {d : Int} (_ : I64 d) (neg : Bool) : Pure Tryd.prog 8 [.d (.int .i64 d), .d (.bool neg)] (.d (.bool true)) := by
  obtain ⟨m1, m2⟩ := and_mask d 255 (by decide)
  have e255 : ((255 : Nat) : Int) = 255 := rfl
  rw [e255] at m1 m2
  obtain ⟨q, hq, hqd⟩ : ∃ q : Nat, q < 10 ∧ (bits .and .i64 d 255).tmod 10 = (q : Int) := by
    generalize bits .and .i64 d 255 = x at m1 m2
    obtain ⟨y, rfl⟩ : ∃ y : Nat, x = y := ⟨x.toNat, by omega⟩
    exact ⟨y % 10, Nat.mod_lt _ (by decide), rfl⟩
  have hw0 : IntKind.i64.wrap (q : Int) = (q : Int) := wrap_id (by unfold I64; omega)
  have hw1 : IntKind.i64.wrap ((q : Int) + 1) = ((q + 1 : Nat) : Int) := by rw [wrap_id (by unfold I64; omega)]; rfl
  have hdg := digits_at ⟨q, hq⟩
  simp only at hdg
  have q1 : (0 : Int) ≤ (q : Int) := Int.natCast_nonneg _
  have q3 : (0 : Int) ≤ ((q + 1 : Nat) : Int) := Int.natCast_nonneg _
  have q4 : q ≤ q + 1 := by omega
  have q5 : q + 1 ≤ 10 := by omega
  have q2 : q ≤ q + 1 ∧ q + 1 ≤ 10 := ⟨q4, q5⟩
  have hp := endS_parse neg q hq
  have hl := endS_len neg q
  have k1 := parse_pure (s := endS neg q) (by omega)
  have k2 := parse_pure (s := endS neg q ++ [48]) (by simp only [List.length_append, List.length_cons, List.length_nil]; omega)
  have k3 := parse_pure (s := 48 :: endS neg q) (by simp only [List.length_cons]; omega)
  have k4 := parse_pure (s := [45, 48]) (by decide)
  rw [endS_more] at k2
  rw [endS_ahead] at k3
  rw [minus_nought] at k4
  have k5 := text_pure (parseW_I64 (endS neg q))
  have ht : (parseW (endS neg q)).2 = true → Lib.itoa (parseW (endS neg q)).1 = endS neg q := fun h => (parseW_text h).1
  have h0 : (parseW (endS neg q)).2 = false → (parseW (endS neg q)).1 = 0 := fun h => by rw [parseW_no h]
  generalize parseW (endS neg q) = r at *
  obtain ⟨a, b⟩ := r
  simp only at k1 k2 k3 k4 k5 ht h0 hp
  have fin : ∀ t : Fr, fget t 5 = .d (.str (endS neg q)) → fget t 0 = .d (.int .i64 q) → fget t 6 = .d (.int .i64 (if neg then 8 else 7)) →
      BWP Tryd.prog (mbound []) 84 (dropSeq 5 ac8) ⟨t, [], 0⟩ (AEnd Tryd.prog #[.tmp 4] (mbound []) fun r m' => r = .d (.bool true) ∧ m' = []) := by
    intro t t5 t0 t6
    generalize endS neg q = s at *
    generalize (if neg = true then (8 : Int) else 7) = w at *
    unfold ac8
    simp only [dropSeq]
    have b1 : s.length + 1 ≤ 9223372036854775807 := by omega
    have b2 : 1 + s.length ≤ 9223372036854775807 := by omega
    refine bwp_seq fun K hK => bwp_region rfl ?_
    simp -implicitDefEqProofs only [go_sem, ↓reduceIte, Nat.reduceEqDiff, Nat.reduceAdd, Nat.reduceLeDiff, Nat.reduceMul, Nat.reduceSub, Int.reduceLE, Int.reduceLT, Int.reduceEq, Int.reduceToNat, Int.reducePow, Int.reduceNeg, t5]
    repeat' (first
      | (refine gateK_split (fun hb => ?_) (fun hb => ?_) <;> simp -implicitDefEqProofs only [go_sem, ↓reduceIte, Nat.reduceEqDiff, Nat.reduceAdd, Nat.reduceLeDiff, Nat.reduceMul, Nat.reduceSub, Int.reduceLE, Int.reduceLT, Int.reduceEq, Int.reduceToNat, Int.reducePow, Int.reduceNeg, hb, t5])
      | (refine dGateK_split (fun hb => ?_) (fun hb => ?_) <;> simp -implicitDefEqProofs only [go_sem, ↓reduceIte, Nat.reduceEqDiff, Nat.reduceAdd, Nat.reduceLeDiff, Nat.reduceMul, Nat.reduceSub, Int.reduceLE, Int.reduceLT, Int.reduceEq, Int.reduceToNat, Int.reducePow, Int.reduceNeg, hb, t5])
      | (refine callK_pure (k1) rfl rfl ?_; simp -implicitDefEqProofs only [go_sem, ↓reduceIte, Nat.reduceEqDiff, Nat.reduceAdd, Nat.reduceLeDiff, Nat.reduceMul, Nat.reduceSub, Int.reduceLE, Int.reduceLT, Int.reduceEq, Int.reduceToNat, Int.reducePow, Int.reduceNeg, t5])
      | (refine dCallK_pure (k1) rfl rfl ?_; simp -implicitDefEqProofs only [go_sem, ↓reduceIte, Nat.reduceEqDiff, Nat.reduceAdd, Nat.reduceLeDiff, Nat.reduceMul, Nat.reduceSub, Int.reduceLE, Int.reduceLT, Int.reduceEq, Int.reduceToNat, Int.reducePow, Int.reduceNeg, t5])
      | (rw [if_pos (by (try simp only [List.length_append, List.length_cons, List.length_nil, List.length_map]); omega)]; simp -implicitDefEqProofs only [go_sem, ↓reduceIte, Nat.reduceEqDiff, Nat.reduceAdd, Nat.reduceLeDiff, Nat.reduceMul, Nat.reduceSub, Int.reduceLE, Int.reduceLT, Int.reduceEq, Int.reduceToNat, Int.reducePow, Int.reduceNeg, t5]))
    refine hK _ ?_; clear hK
    refine bwp_seq fun K hK => bwp_region rfl ?_
    simp -implicitDefEqProofs only [go_sem, ↓reduceIte, Nat.reduceEqDiff, Nat.reduceAdd, Nat.reduceLeDiff, Nat.reduceMul, Nat.reduceSub, Int.reduceLE, Int.reduceLT, Int.reduceEq, Int.reduceToNat, Int.reducePow, Int.reduceNeg, t5, b1, List.length_cons, List.length_nil, Nat.zero_add]
    repeat' (first
      | (refine gateK_split (fun hb => ?_) (fun hb => ?_) <;> simp -implicitDefEqProofs only [go_sem, ↓reduceIte, Nat.reduceEqDiff, Nat.reduceAdd, Nat.reduceLeDiff, Nat.reduceMul, Nat.reduceSub, Int.reduceLE, Int.reduceLT, Int.reduceEq, Int.reduceToNat, Int.reducePow, Int.reduceNeg, hb, t5, b1])
      | (refine dGateK_split (fun hb => ?_) (fun hb => ?_) <;> simp -implicitDefEqProofs only [go_sem, ↓reduceIte, Nat.reduceEqDiff, Nat.reduceAdd, Nat.reduceLeDiff, Nat.reduceMul, Nat.reduceSub, Int.reduceLE, Int.reduceLT, Int.reduceEq, Int.reduceToNat, Int.reducePow, Int.reduceNeg, hb, t5, b1])
      | (refine callK_pure (k2) rfl rfl ?_; simp -implicitDefEqProofs only [go_sem, ↓reduceIte, Nat.reduceEqDiff, Nat.reduceAdd, Nat.reduceLeDiff, Nat.reduceMul, Nat.reduceSub, Int.reduceLE, Int.reduceLT, Int.reduceEq, Int.reduceToNat, Int.reducePow, Int.reduceNeg, t5, b1])
      | (refine dCallK_pure (k2) rfl rfl ?_; simp -implicitDefEqProofs only [go_sem, ↓reduceIte, Nat.reduceEqDiff, Nat.reduceAdd, Nat.reduceLeDiff, Nat.reduceMul, Nat.reduceSub, Int.reduceLE, Int.reduceLT, Int.reduceEq, Int.reduceToNat, Int.reducePow, Int.reduceNeg, t5, b1])
      | (rw [if_pos (by (try simp only [List.length_append, List.length_cons, List.length_nil, List.length_map]); omega)]; simp -implicitDefEqProofs only [go_sem, ↓reduceIte, Nat.reduceEqDiff, Nat.reduceAdd, Nat.reduceLeDiff, Nat.reduceMul, Nat.reduceSub, Int.reduceLE, Int.reduceLT, Int.reduceEq, Int.reduceToNat, Int.reducePow, Int.reduceNeg, t5, b1]))
    refine hK _ ?_; clear hK
    refine bwp_seq fun K hK => bwp_region rfl ?_
    simp -implicitDefEqProofs only [go_sem, ↓reduceIte, Nat.reduceEqDiff, Nat.reduceAdd, Nat.reduceLeDiff, Nat.reduceMul, Nat.reduceSub, Int.reduceLE, Int.reduceLT, Int.reduceEq, Int.reduceToNat, Int.reducePow, Int.reduceNeg, t5, b2, List.length_cons, List.length_nil, Nat.zero_add, List.cons_append, List.nil_append]
    repeat' (first
      | (refine gateK_split (fun hb => ?_) (fun hb => ?_) <;> simp -implicitDefEqProofs only [go_sem, ↓reduceIte, Nat.reduceEqDiff, Nat.reduceAdd, Nat.reduceLeDiff, Nat.reduceMul, Nat.reduceSub, Int.reduceLE, Int.reduceLT, Int.reduceEq, Int.reduceToNat, Int.reducePow, Int.reduceNeg, hb, t5, b2])
      | (refine dGateK_split (fun hb => ?_) (fun hb => ?_) <;> simp -implicitDefEqProofs only [go_sem, ↓reduceIte, Nat.reduceEqDiff, Nat.reduceAdd, Nat.reduceLeDiff, Nat.reduceMul, Nat.reduceSub, Int.reduceLE, Int.reduceLT, Int.reduceEq, Int.reduceToNat, Int.reducePow, Int.reduceNeg, hb, t5, b2])
      | (refine callK_pure (k3) rfl rfl ?_; simp -implicitDefEqProofs only [go_sem, ↓reduceIte, Nat.reduceEqDiff, Nat.reduceAdd, Nat.reduceLeDiff, Nat.reduceMul, Nat.reduceSub, Int.reduceLE, Int.reduceLT, Int.reduceEq, Int.reduceToNat, Int.reducePow, Int.reduceNeg, t5, b2])
      | (refine dCallK_pure (k3) rfl rfl ?_; simp -implicitDefEqProofs only [go_sem, ↓reduceIte, Nat.reduceEqDiff, Nat.reduceAdd, Nat.reduceLeDiff, Nat.reduceMul, Nat.reduceSub, Int.reduceLE, Int.reduceLT, Int.reduceEq, Int.reduceToNat, Int.reducePow, Int.reduceNeg, t5, b2])
      | (rw [if_pos (by (try simp only [List.length_append, List.length_cons, List.length_nil, List.length_map]); omega)]; simp -implicitDefEqProofs only [go_sem, ↓reduceIte, Nat.reduceEqDiff, Nat.reduceAdd, Nat.reduceLeDiff, Nat.reduceMul, Nat.reduceSub, Int.reduceLE, Int.reduceLT, Int.reduceEq, Int.reduceToNat, Int.reducePow, Int.reduceNeg, t5, b2]))
    refine hK _ ?_; clear hK
    refine bwp_seq fun K hK => bwp_region rfl ?_
    simp -implicitDefEqProofs only [go_sem, ↓reduceIte, Nat.reduceEqDiff, Nat.reduceAdd, Nat.reduceLeDiff, Nat.reduceMul, Nat.reduceSub, Int.reduceLE, Int.reduceLT, Int.reduceEq, Int.reduceToNat, Int.reducePow, Int.reduceNeg]
    repeat' (first
      | (refine gateK_split (fun hb => ?_) (fun hb => ?_) <;> simp -implicitDefEqProofs only [go_sem, ↓reduceIte, Nat.reduceEqDiff, Nat.reduceAdd, Nat.reduceLeDiff, Nat.reduceMul, Nat.reduceSub, Int.reduceLE, Int.reduceLT, Int.reduceEq, Int.reduceToNat, Int.reducePow, Int.reduceNeg, hb])
      | (refine dGateK_split (fun hb => ?_) (fun hb => ?_) <;> simp -implicitDefEqProofs only [go_sem, ↓reduceIte, Nat.reduceEqDiff, Nat.reduceAdd, Nat.reduceLeDiff, Nat.reduceMul, Nat.reduceSub, Int.reduceLE, Int.reduceLT, Int.reduceEq, Int.reduceToNat, Int.reducePow, Int.reduceNeg, hb])
      | (refine callK_pure (k4) rfl rfl ?_; simp -implicitDefEqProofs only [go_sem, ↓reduceIte, Nat.reduceEqDiff, Nat.reduceAdd, Nat.reduceLeDiff, Nat.reduceMul, Nat.reduceSub, Int.reduceLE, Int.reduceLT, Int.reduceEq, Int.reduceToNat, Int.reducePow, Int.reduceNeg])
      | (refine dCallK_pure (k4) rfl rfl ?_; simp -implicitDefEqProofs only [go_sem, ↓reduceIte, Nat.reduceEqDiff, Nat.reduceAdd, Nat.reduceLeDiff, Nat.reduceMul, Nat.reduceSub, Int.reduceLE, Int.reduceLT, Int.reduceEq, Int.reduceToNat, Int.reducePow, Int.reduceNeg])
      | (rw [if_pos (by (try simp only [List.length_append, List.length_cons, List.length_nil, List.length_map]); omega)]; simp -implicitDefEqProofs only [go_sem, ↓reduceIte, Nat.reduceEqDiff, Nat.reduceAdd, Nat.reduceLeDiff, Nat.reduceMul, Nat.reduceSub, Int.reduceLE, Int.reduceLT, Int.reduceEq, Int.reduceToNat, Int.reducePow, Int.reduceNeg]))
    refine hK _ ?_; clear hK
    cases b with
    | true =>
      have ht := ht rfl
      have hp' : (q : Int) ≤ w := by simpa using hp
      refine bwp_seq fun K hK => bwp_region rfl ?_
      simp -implicitDefEqProofs only [go_sem, ↓reduceIte, Nat.reduceEqDiff, Nat.reduceAdd, Nat.reduceLeDiff, Nat.reduceMul, Nat.reduceSub, Int.reduceLE, Int.reduceLT, Int.reduceEq, Int.reduceToNat, Int.reducePow, Int.reduceNeg, t5, t0, t6, hp', decide_true, beq_self_eq_true, ht]
      repeat' (first
        | (refine gateK_split (fun hb => ?_) (fun hb => ?_) <;> simp -implicitDefEqProofs only [go_sem, ↓reduceIte, Nat.reduceEqDiff, Nat.reduceAdd, Nat.reduceLeDiff, Nat.reduceMul, Nat.reduceSub, Int.reduceLE, Int.reduceLT, Int.reduceEq, Int.reduceToNat, Int.reducePow, Int.reduceNeg, hb, t5, t0, t6, hp', decide_true, beq_self_eq_true, ht])
        | (refine dGateK_split (fun hb => ?_) (fun hb => ?_) <;> simp -implicitDefEqProofs only [go_sem, ↓reduceIte, Nat.reduceEqDiff, Nat.reduceAdd, Nat.reduceLeDiff, Nat.reduceMul, Nat.reduceSub, Int.reduceLE, Int.reduceLT, Int.reduceEq, Int.reduceToNat, Int.reducePow, Int.reduceNeg, hb, t5, t0, t6, hp', decide_true, beq_self_eq_true, ht])
        | (refine callK_pure (k5) rfl rfl ?_; simp -implicitDefEqProofs only [go_sem, ↓reduceIte, Nat.reduceEqDiff, Nat.reduceAdd, Nat.reduceLeDiff, Nat.reduceMul, Nat.reduceSub, Int.reduceLE, Int.reduceLT, Int.reduceEq, Int.reduceToNat, Int.reducePow, Int.reduceNeg, t5, t0, t6, hp', decide_true, beq_self_eq_true, ht])
        | (refine dCallK_pure (k5) rfl rfl ?_; simp -implicitDefEqProofs only [go_sem, ↓reduceIte, Nat.reduceEqDiff, Nat.reduceAdd, Nat.reduceLeDiff, Nat.reduceMul, Nat.reduceSub, Int.reduceLE, Int.reduceLT, Int.reduceEq, Int.reduceToNat, Int.reducePow, Int.reduceNeg, t5, t0, t6, hp', decide_true, beq_self_eq_true, ht])
        | (refine callK_pure (awake_pure) rfl rfl ?_; simp -implicitDefEqProofs only [go_sem, ↓reduceIte, Nat.reduceEqDiff, Nat.reduceAdd, Nat.reduceLeDiff, Nat.reduceMul, Nat.reduceSub, Int.reduceLE, Int.reduceLT, Int.reduceEq, Int.reduceToNat, Int.reducePow, Int.reduceNeg, t5, t0, t6, hp', decide_true, beq_self_eq_true, ht])
        | (refine dCallK_pure (awake_pure) rfl rfl ?_; simp -implicitDefEqProofs only [go_sem, ↓reduceIte, Nat.reduceEqDiff, Nat.reduceAdd, Nat.reduceLeDiff, Nat.reduceMul, Nat.reduceSub, Int.reduceLE, Int.reduceLT, Int.reduceEq, Int.reduceToNat, Int.reducePow, Int.reduceNeg, t5, t0, t6, hp', decide_true, beq_self_eq_true, ht])
        | (rw [if_pos (by (try simp only [List.length_append, List.length_cons, List.length_nil, List.length_map]); omega)]; simp -implicitDefEqProofs only [go_sem, ↓reduceIte, Nat.reduceEqDiff, Nat.reduceAdd, Nat.reduceLeDiff, Nat.reduceMul, Nat.reduceSub, Int.reduceLE, Int.reduceLT, Int.reduceEq, Int.reduceToNat, Int.reducePow, Int.reduceNeg, t5, t0, t6, hp', decide_true, beq_self_eq_true, ht]))
      refine hK _ ?_; clear hK
      refine bwp_ret ?_
      simp only [go_sem]
      refine aend_ret _ rfl rfl ⟨?_, rfl⟩
      simp [fget]
    | false =>
      have h0 := h0 rfl
      have hp' : ¬ (q : Int) ≤ w := by simpa using hp
      subst h0
      refine bwp_seq fun K hK => bwp_region rfl ?_
      simp -implicitDefEqProofs only [go_sem, ↓reduceIte, Nat.reduceEqDiff, Nat.reduceAdd, Nat.reduceLeDiff, Nat.reduceMul, Nat.reduceSub, Int.reduceLE, Int.reduceLT, Int.reduceEq, Int.reduceToNat, Int.reducePow, Int.reduceNeg, t5, t0, t6, hp', decide_false, beq_self_eq_true]
      repeat' (first
        | (refine gateK_split (fun hb => ?_) (fun hb => ?_) <;> simp -implicitDefEqProofs only [go_sem, ↓reduceIte, Nat.reduceEqDiff, Nat.reduceAdd, Nat.reduceLeDiff, Nat.reduceMul, Nat.reduceSub, Int.reduceLE, Int.reduceLT, Int.reduceEq, Int.reduceToNat, Int.reducePow, Int.reduceNeg, hb, t5, t0, t6, hp', decide_false, beq_self_eq_true])
        | (refine dGateK_split (fun hb => ?_) (fun hb => ?_) <;> simp -implicitDefEqProofs only [go_sem, ↓reduceIte, Nat.reduceEqDiff, Nat.reduceAdd, Nat.reduceLeDiff, Nat.reduceMul, Nat.reduceSub, Int.reduceLE, Int.reduceLT, Int.reduceEq, Int.reduceToNat, Int.reducePow, Int.reduceNeg, hb, t5, t0, t6, hp', decide_false, beq_self_eq_true])
        | (refine callK_pure (k5) rfl rfl ?_; simp -implicitDefEqProofs only [go_sem, ↓reduceIte, Nat.reduceEqDiff, Nat.reduceAdd, Nat.reduceLeDiff, Nat.reduceMul, Nat.reduceSub, Int.reduceLE, Int.reduceLT, Int.reduceEq, Int.reduceToNat, Int.reducePow, Int.reduceNeg, t5, t0, t6, hp', decide_false, beq_self_eq_true])
        | (refine dCallK_pure (k5) rfl rfl ?_; simp -implicitDefEqProofs only [go_sem, ↓reduceIte, Nat.reduceEqDiff, Nat.reduceAdd, Nat.reduceLeDiff, Nat.reduceMul, Nat.reduceSub, Int.reduceLE, Int.reduceLT, Int.reduceEq, Int.reduceToNat, Int.reducePow, Int.reduceNeg, t5, t0, t6, hp', decide_false, beq_self_eq_true])
        | (refine callK_pure (awake_pure) rfl rfl ?_; simp -implicitDefEqProofs only [go_sem, ↓reduceIte, Nat.reduceEqDiff, Nat.reduceAdd, Nat.reduceLeDiff, Nat.reduceMul, Nat.reduceSub, Int.reduceLE, Int.reduceLT, Int.reduceEq, Int.reduceToNat, Int.reducePow, Int.reduceNeg, t5, t0, t6, hp', decide_false, beq_self_eq_true])
        | (refine dCallK_pure (awake_pure) rfl rfl ?_; simp -implicitDefEqProofs only [go_sem, ↓reduceIte, Nat.reduceEqDiff, Nat.reduceAdd, Nat.reduceLeDiff, Nat.reduceMul, Nat.reduceSub, Int.reduceLE, Int.reduceLT, Int.reduceEq, Int.reduceToNat, Int.reducePow, Int.reduceNeg, t5, t0, t6, hp', decide_false, beq_self_eq_true])
        | (rw [if_pos (by (try simp only [List.length_append, List.length_cons, List.length_nil, List.length_map]); omega)]; simp -implicitDefEqProofs only [go_sem, ↓reduceIte, Nat.reduceEqDiff, Nat.reduceAdd, Nat.reduceLeDiff, Nat.reduceMul, Nat.reduceSub, Int.reduceLE, Int.reduceLT, Int.reduceEq, Int.reduceToNat, Int.reducePow, Int.reduceNeg, t5, t0, t6, hp', decide_false, beq_self_eq_true]))
      refine hK _ ?_; clear hK
      refine bwp_ret ?_
      simp only [go_sem]
      refine aend_ret _ rfl rfl ⟨?_, rfl⟩
      simp [fget]
  unfold ac8 at fin
  simp only [dropSeq] at fin
  refine acalls_of Tryd.func8 ac8_ok Tryd.ntmps8 Tryd.results8 rfl ?_
  unfold ac8
  refine bwp_seq fun K hK => bwp_region rfl ?_
  simp -implicitDefEqProofs only [go_sem, ↓reduceIte, Nat.reduceEqDiff, Nat.reduceAdd, Nat.reduceLeDiff, Nat.reduceMul, Nat.reduceSub, Int.reduceLE, Int.reduceLT, Int.reduceEq, Int.reduceToNat, Int.reducePow, Int.reduceNeg]
  refine hK _ ?_; clear hK
  refine bwp_seq fun K hK => bwp_region rfl ?_
  simp -implicitDefEqProofs only [go_sem, ↓reduceIte, Nat.reduceEqDiff, Nat.reduceAdd, Nat.reduceLeDiff, Nat.reduceMul, Nat.reduceSub, Int.reduceLE, Int.reduceLT, Int.reduceEq, Int.reduceToNat, Int.reducePow, Int.reduceNeg, hqd, hw0]
  refine hK _ ?_; clear hK
  refine bwp_seq fun K hK => bwp_region rfl ?_
  simp -implicitDefEqProofs only [go_sem, ↓reduceIte, Nat.reduceEqDiff, Nat.reduceAdd, Nat.reduceLeDiff, Nat.reduceMul, Nat.reduceSub, Int.reduceLE, Int.reduceLT, Int.reduceEq, Int.reduceToNat, Int.reducePow, Int.reduceNeg, hw1, q1, q3, Int.toNat_natCast, List.length_cons, List.length_nil, Nat.zero_add, q2, q4, q5, hdg, Option.map_some]
  refine hK _ ?_; clear hK
  refine bwp_seq fun K hK => bwp_region rfl ?_
  simp -implicitDefEqProofs only [go_sem, ↓reduceIte, Nat.reduceEqDiff, Nat.reduceAdd, Nat.reduceLeDiff, Nat.reduceMul, Nat.reduceSub, Int.reduceLE, Int.reduceLT, Int.reduceEq, Int.reduceToNat, Int.reducePow, Int.reduceNeg]
  refine hK _ ?_; clear hK
  refine bwp_seq fun K1 hK1 => ?_
  cases neg with
  | true =>
    refine bwp_seq fun K hK => bwp_region rfl ?_
    simp -implicitDefEqProofs only [go_sem, ↓reduceIte, Nat.reduceEqDiff, Nat.reduceAdd, Nat.reduceLeDiff, Nat.reduceMul, Nat.reduceSub, Int.reduceLE, Int.reduceLT, Int.reduceEq, Int.reduceToNat, Int.reducePow, Int.reduceNeg]
    refine hK _ ?_; clear hK
    refine bwp_cond true (by simp [ev, fget]) (fun _ => ?_) (fun h => nomatch h)
    refine bwp_seq fun K hK => bwp_region rfl ?_
    simp -implicitDefEqProofs only [go_sem, ↓reduceIte, Nat.reduceEqDiff, Nat.reduceAdd, Nat.reduceLeDiff, Nat.reduceMul, Nat.reduceSub, Int.reduceLE, Int.reduceLT, Int.reduceEq, Int.reduceToNat, Int.reducePow, Int.reduceNeg, List.length_cons, List.length_nil, Nat.zero_add]
    refine hK _ ?_; clear hK
    refine bwp_region rfl ?_
    simp -implicitDefEqProofs only [go_sem, ↓reduceIte, Nat.reduceEqDiff, Nat.reduceAdd, Nat.reduceLeDiff, Nat.reduceMul, Nat.reduceSub, Int.reduceLE, Int.reduceLT, Int.reduceEq, Int.reduceToNat, Int.reducePow, Int.reduceNeg]
    refine hK1 _ ?_; clear hK1
    exact fin _ rfl rfl rfl
  | false =>
    refine bwp_seq fun K hK => bwp_region rfl ?_
    simp -implicitDefEqProofs only [go_sem, ↓reduceIte, Nat.reduceEqDiff, Nat.reduceAdd, Nat.reduceLeDiff, Nat.reduceMul, Nat.reduceSub, Int.reduceLE, Int.reduceLT, Int.reduceEq, Int.reduceToNat, Int.reducePow, Int.reduceNeg]
    refine hK _ ?_; clear hK
    refine bwp_cond false (by simp [ev, fget]) (fun h => nomatch h) (fun _ => ?_)
    refine bwp_skip ?_
    refine hK1 _ ?_; clear hK1
    exact fin _ rfl rfl rfl

end Go.Proofs.YtcpelgjafifkaaaDoor
