/- The document's numbers' texts. -/
import Derived.Test.YtpfbljkfbjjlkaaDoorP0
import Derived.Test.YtpfbljkfbjjlkaaDoorXI
namespace Go.Proofs.YtpfbljkfbjjlkaaDoor
open Go Go.Jq
set_option maxRecDepth 100000
set_option linter.unusedSimpArgs false

def dropSeq : Nat → ACode → ACode
  | 0, c => c
  | n + 1, .seq _ b => dropSeq n b
  | _, c => c

theorem digits_at : ∀ k : Fin 10, List.drop k.1 ((48 : UInt8) :: List.take k.1 [49, 50, 51, 52, 53, 54, 55, 56, 57]) = [UInt8.ofNat (48 + k.1)] := by decide

theorem wrap_u64_neg {n : Int} (h0 : -9223372036854775808 ≤ n) (h1 : n < 0) : IntKind.u64.wrap n = n + 18446744073709551616 := by
  unfold IntKind.wrap
  simp only [IntKind.signed, IntKind.bits, Bool.false_and, Bool.false_eq_true, if_false]
  omega

/-- The state in Text. -/
def rtS (u : Nat) (s sg : List UInt8) : St := ⟨[(3, .d (.int .u64 u)), (5, .d (.str s)), (4, .d (.str sg))], [], 0⟩

set_option maxHeartbeats 2000000 in
theorem rt_loop {u0 : Nat} (hu : u0 < 18446744073709551616) {sg : List UInt8} {Q : Exit → St → Prop}
    (hQ : ∀ u s, u < 10 → Lib.decDigits u0 = UInt8.ofNat (48 + u) :: s → Q (.exit 0) (rtS u s sg)) :
    BWP Tryd.prog (mbound []) 37 (.loop ac19L0) (rtS u0 [] sg) Q := by
  refine bwp_fam (ι := { p : Nat × List UInt8 // p.1 ≤ u0 ∧ Lib.decDigits u0 = Lib.decDigits p.1 ++ p.2 ∧ p.2.length + Lib.nDigits p.1 = Lib.nDigits u0 }) (fun p => rtS p.1.1 p.1.2 sg) (fun p => p.1.1) ⟨(u0, []), Nat.le_refl _, by simp, by simp⟩ ?_
  rintro ⟨⟨u, s⟩, hle, he, hln⟩
  simp only at hle he hln ⊢
  have hn0 := nDigits_le 19 u0 (by simp; omega)
  unfold ac19L0 rtS
  by_cases hb : 9 < u
  · have hb' : (9 : Int) < (u : Int) := by omega
    have hr : u % 10 < 10 := Nat.mod_lt _ (by omega)
    have hw : IntKind.i64.wrap ((u % 10 : Nat) : Int) = ((u % 10 : Nat) : Int) := wrap_i64 (by omega) (by omega)
    have hw1 : IntKind.i64.wrap (((u % 10 : Nat) : Int) + 1) = ((u % 10 + 1 : Nat) : Int) := by rw [wrap_i64 (by omega) (by omega)]; rfl
    have hw2 : IntKind.u64.wrap ((u / 10 : Nat) : Int) = ((u / 10 : Nat) : Int) := wrap_u64 (by omega) (by omega)
    have hdg := digits_at ⟨u % 10, hr⟩
    have e1 : (u : Int).tmod 10 = ((u % 10 : Nat) : Int) := rfl
    have e2 : (u : Int).tdiv 10 = ((u / 10 : Nat) : Int) := rfl
    have hd : Lib.decDigits u = Lib.decDigits (u / 10) ++ [UInt8.ofNat (48 + u % 10)] := by rw [Lib.decDigits, dif_neg (by omega)]
    have hnd : Lib.nDigits u = Lib.nDigits (u / 10) + 1 := Lib.nDigits_big (by omega)
    have b1 : 1 + s.length ≤ 9223372036854775807 := by have := Lib.nDigits_pos u; omega
    simp only at hdg
    refine bwp_seq fun K1 hK1 => ?_
    refine bwp_seq fun K hK => bwp_region rfl ?_
    simp -implicitDefEqProofs only [go_sem, ↓reduceIte, Nat.reduceEqDiff, Nat.reduceAdd, Nat.reduceLeDiff, Nat.reduceMul, Nat.reduceSub, Int.reduceLE, Int.reduceLT, Int.reduceEq, Int.reduceToNat, Int.reducePow, Int.reduceNeg, hb']
    refine hK _ ?_; clear hK
    refine bwp_cond true (by simp [ev, fget, hb']) (fun _ => ?_) (fun h => nomatch h)
    refine bwp_skip ?_
    refine hK1 _ ?_; clear hK1
    refine bwp_block ?_
    generalize hq : u % 10 = q at *
    have q1 : (0 : Int) ≤ (q : Int) := Int.natCast_nonneg _
    have q2 : q ≤ q + 1 ∧ q + 1 ≤ 10 := by omega
    have q3 : (0 : Int) ≤ ((q + 1 : Nat) : Int) := Int.natCast_nonneg _
    have q4 : q ≤ q + 1 := by omega
    have q5 : q + 1 ≤ 10 := by omega
    refine bwp_seq fun K hK => bwp_region rfl ?_
    simp -implicitDefEqProofs only [go_sem, ↓reduceIte, Nat.reduceEqDiff, Nat.reduceAdd, Nat.reduceLeDiff, Nat.reduceMul, Nat.reduceSub, Int.reduceLE, Int.reduceLT, Int.reduceEq, Int.reduceToNat, Int.reducePow, Int.reduceNeg, e1, hw]
    refine hK _ ?_; clear hK
    refine bwp_seq fun K hK => bwp_region rfl ?_
    simp -implicitDefEqProofs only [go_sem, ↓reduceIte, Nat.reduceEqDiff, Nat.reduceAdd, Nat.reduceLeDiff, Nat.reduceMul, Nat.reduceSub, Int.reduceLE, Int.reduceLT, Int.reduceEq, Int.reduceToNat, Int.reducePow, Int.reduceNeg, hw1, q1, q3, Int.toNat_natCast, List.length_cons, List.length_nil, Nat.zero_add, q2, q4, q5, hdg, b1, Option.map_some]
    refine hK _ ?_; clear hK
    refine bwp_region rfl ?_
    simp -implicitDefEqProofs only [go_sem, ↓reduceIte, Nat.reduceEqDiff, Nat.reduceAdd, Nat.reduceLeDiff, Nat.reduceMul, Nat.reduceSub, Int.reduceLE, Int.reduceLT, Int.reduceEq, Int.reduceToNat, Int.reducePow, Int.reduceNeg, e2, hw2]
    refine ⟨⟨(u / 10, UInt8.ofNat (48 + q) :: s), by simp only; omega, by simp only; rw [he, hd]; simp, by simp only [List.length_cons]; omega⟩, by simp only; omega, ?_⟩
    exact Leads.ent [] ⟨by simp [entT, fget, AV.ren, renL, pget, rtS], by simp [entM, rtS], rfl, rfl⟩
  · have hb' : ¬ (9 : Int) < (u : Int) := by omega
    refine bwp_seq fun K1 hK1 => ?_
    refine bwp_seq fun K hK => bwp_region rfl ?_
    simp -implicitDefEqProofs only [go_sem, ↓reduceIte, Nat.reduceEqDiff, Nat.reduceAdd, Nat.reduceLeDiff, Nat.reduceMul, Nat.reduceSub, Int.reduceLE, Int.reduceLT, Int.reduceEq, Int.reduceToNat, Int.reducePow, Int.reduceNeg, hb']
    refine hK _ ?_; clear hK
    refine bwp_cond false (by simp [ev, fget, hb']) (fun h => nomatch h) (fun _ => ?_)
    refine bwp_leads (S' := rtS u s sg) (Leads.ent [] ⟨by simp [entT, fget, AV.ren, renL, pget, rtS], by simp [entM, pinv, mget, mset, renL, AV.ren, pget, renL_append, -List.map_map, rtS], rfl, rfl⟩) ?_
    refine bwp_exit (hQ u s (by omega) ?_)
    rw [he, Lib.decDigits, dif_pos (by omega)]
    rfl

set_option maxHeartbeats 2000000 in
theorem refText_pure {n : Int} (h : I64 n) : Pure Tryd.prog 19 [.d (.int .i64 n)] (.d (.str (Lib.itoa n))) := by
  obtain ⟨h0, h1⟩ := h
  have hfin : ∀ (S : St) (sg : List UInt8) (K : St → Prop), sg.length ≤ 1 → Lib.itoa n = sg ++ Lib.decDigits n.natAbs → Leads (mbound []) 37 S ⟨[(3, .d (.int .u64 n.natAbs)), (4, .d (.str sg))], [], 0⟩ →
      (∀ S', BWP Tryd.prog (mbound []) 37 (dropSeq 4 ac19) S' (AEnd Tryd.prog #[.tmp 2] (mbound []) fun r m' => r = .d (.str (Lib.itoa n)) ∧ m' = []) → K S') → K S := by
    intro S sg K hsg hit hS hK
    refine hK _ ?_; clear hK
    refine bwp_leads hS ?_
    unfold ac19
    simp only [dropSeq]
    refine bwp_seq fun K hK => bwp_region rfl ?_
    simp -implicitDefEqProofs only [go_sem, ↓reduceIte, Nat.reduceEqDiff, Nat.reduceAdd, Nat.reduceLeDiff, Nat.reduceMul, Nat.reduceSub, Int.reduceLE, Int.reduceLT, Int.reduceEq, Int.reduceToNat, Int.reducePow, Int.reduceNeg]
    refine hK _ ?_; clear hK
    refine bwp_seq fun K1 hK1 => ?_
    refine bwp_block ?_
    refine bwp_leads (S' := rtS n.natAbs [] sg) (Leads.ent [] ⟨by simp [entT, fget, AV.ren, renL, pget, rtS], by simp [entM, pinv, mget, mset, renL, AV.ren, pget, renL_append, -List.map_map, rtS], rfl, rfl⟩) ?_
    refine rt_loop (by omega) ?_
    intro u s hu hd
    have hl := itoa_len (n := n) ⟨h0, h1⟩
    rw [hit, hd] at hl
    simp only [List.length_append, List.length_cons] at hl
    unfold rtS
    simp -implicitDefEqProofs only [go_sem, ↓reduceIte, Nat.reduceEqDiff, Nat.reduceAdd, Nat.reduceLeDiff, Nat.reduceMul, Nat.reduceSub, Int.reduceLE, Int.reduceLT, Int.reduceEq, Int.reduceToNat, Int.reducePow, Int.reduceNeg]
    refine hK1 _ ?_; clear hK1
    have hw : IntKind.i64.wrap (u : Int) = (u : Int) := wrap_i64 (by omega) (by omega)
    have hw1 : IntKind.i64.wrap ((u : Int) + 1) = ((u + 1 : Nat) : Int) := by rw [wrap_i64 (by omega) (by omega)]; rfl
    have hdg := digits_at ⟨u, hu⟩
    simp only at hdg
    have q1 : (0 : Int) ≤ (u : Int) := Int.natCast_nonneg _
    have q3 : (0 : Int) ≤ ((u + 1 : Nat) : Int) := Int.natCast_nonneg _
    have q4 : u ≤ u + 1 := by omega
    have q5 : u + 1 ≤ 10 := by omega
    have q2 : u ≤ u + 1 ∧ u + 1 ≤ 10 := ⟨q4, q5⟩
    have b1 : sg.length + 1 ≤ 9223372036854775807 := by omega
    have b2 : sg.length + 1 + s.length ≤ 9223372036854775807 := by omega
    refine bwp_seq fun K hK => bwp_region rfl ?_
    simp -implicitDefEqProofs only [go_sem, ↓reduceIte, Nat.reduceEqDiff, Nat.reduceAdd, Nat.reduceLeDiff, Nat.reduceMul, Nat.reduceSub, Int.reduceLE, Int.reduceLT, Int.reduceEq, Int.reduceToNat, Int.reducePow, Int.reduceNeg, hw]
    refine hK _ ?_; clear hK
    refine bwp_seq fun K hK => bwp_region rfl ?_
    simp -implicitDefEqProofs only [go_sem, ↓reduceIte, Nat.reduceEqDiff, Nat.reduceAdd, Nat.reduceLeDiff, Nat.reduceMul, Nat.reduceSub, Int.reduceLE, Int.reduceLT, Int.reduceEq, Int.reduceToNat, Int.reducePow, Int.reduceNeg, hw1, q1, q3, Int.toNat_natCast, List.length_cons, List.length_nil, List.length_append, Nat.zero_add, q2, q4, q5, hdg, b1, b2, Option.map_some]
    refine hK _ ?_; clear hK
    refine bwp_ret ?_
    simp only [go_sem]
    refine aend_ret _ rfl rfl ⟨?_, rfl⟩
    simp [fget, hit, hd]
  refine acalls_of Tryd.func19 ac19_ok Tryd.ntmps19 Tryd.results19 rfl ?_
  unfold ac19
  refine bwp_seq fun K hK => bwp_region rfl ?_
  simp -implicitDefEqProofs only [go_sem, ↓reduceIte, Nat.reduceEqDiff, Nat.reduceAdd, Nat.reduceLeDiff, Nat.reduceMul, Nat.reduceSub, Int.reduceLE, Int.reduceLT, Int.reduceEq, Int.reduceToNat, Int.reducePow, Int.reduceNeg]
  refine hK _ ?_; clear hK
  by_cases hn : n < 0
  · have hw := wrap_u64_neg h0 hn
    have hw2 : IntKind.u64.wrap (0 - (n + 18446744073709551616)) = (n.natAbs : Int) := by
      unfold IntKind.wrap
      simp only [IntKind.signed, IntKind.bits, Bool.false_and, Bool.false_eq_true, if_false]
      omega
    refine bwp_seq fun K hK => bwp_region rfl ?_
    simp -implicitDefEqProofs only [go_sem, ↓reduceIte, Nat.reduceEqDiff, Nat.reduceAdd, Nat.reduceLeDiff, Nat.reduceMul, Nat.reduceSub, Int.reduceLE, Int.reduceLT, Int.reduceEq, Int.reduceToNat, Int.reducePow, Int.reduceNeg, hw]
    refine hK _ ?_; clear hK
    refine bwp_seq fun K hK => bwp_region rfl ?_
    simp -implicitDefEqProofs only [go_sem, ↓reduceIte, Nat.reduceEqDiff, Nat.reduceAdd, Nat.reduceLeDiff, Nat.reduceMul, Nat.reduceSub, Int.reduceLE, Int.reduceLT, Int.reduceEq, Int.reduceToNat, Int.reducePow, Int.reduceNeg]
    refine hK _ ?_; clear hK
    refine bwp_seq fun K0 hK0 => ?_
    refine bwp_seq fun K hK => bwp_region rfl ?_
    simp -implicitDefEqProofs only [go_sem, ↓reduceIte, Nat.reduceEqDiff, Nat.reduceAdd, Nat.reduceLeDiff, Nat.reduceMul, Nat.reduceSub, Int.reduceLE, Int.reduceLT, Int.reduceEq, Int.reduceToNat, Int.reducePow, Int.reduceNeg, hn]
    refine hK _ ?_; clear hK
    refine bwp_cond true (by simp [ev, fget, hn]) (fun _ => ?_) (fun h => nomatch h)
    refine bwp_seq fun K hK => bwp_region rfl ?_
    simp -implicitDefEqProofs only [go_sem, ↓reduceIte, Nat.reduceEqDiff, Nat.reduceAdd, Nat.reduceLeDiff, Nat.reduceMul, Nat.reduceSub, Int.reduceLE, Int.reduceLT, Int.reduceEq, Int.reduceToNat, Int.reducePow, Int.reduceNeg, hw2]
    refine hK _ ?_; clear hK
    refine bwp_region rfl ?_
    simp -implicitDefEqProofs only [go_sem, ↓reduceIte, Nat.reduceEqDiff, Nat.reduceAdd, Nat.reduceLeDiff, Nat.reduceMul, Nat.reduceSub, Int.reduceLE, Int.reduceLT, Int.reduceEq, Int.reduceToNat, Int.reducePow, Int.reduceNeg]
    refine hfin _ [45] K0 (by simp) (by simp [Lib.itoa, hn]) ?_ hK0
    exact Leads.ent [] ⟨by simp [entT, fget, AV.ren, renL, pget], by simp [entM], rfl, rfl⟩
  · have hw : IntKind.u64.wrap n = (n.natAbs : Int) := by rw [wrap_u64 (by omega) (by omega)]; omega
    refine bwp_seq fun K hK => bwp_region rfl ?_
    simp -implicitDefEqProofs only [go_sem, ↓reduceIte, Nat.reduceEqDiff, Nat.reduceAdd, Nat.reduceLeDiff, Nat.reduceMul, Nat.reduceSub, Int.reduceLE, Int.reduceLT, Int.reduceEq, Int.reduceToNat, Int.reducePow, Int.reduceNeg, hw]
    refine hK _ ?_; clear hK
    refine bwp_seq fun K hK => bwp_region rfl ?_
    simp -implicitDefEqProofs only [go_sem, ↓reduceIte, Nat.reduceEqDiff, Nat.reduceAdd, Nat.reduceLeDiff, Nat.reduceMul, Nat.reduceSub, Int.reduceLE, Int.reduceLT, Int.reduceEq, Int.reduceToNat, Int.reducePow, Int.reduceNeg]
    refine hK _ ?_; clear hK
    refine bwp_seq fun K0 hK0 => ?_
    refine bwp_seq fun K hK => bwp_region rfl ?_
    simp -implicitDefEqProofs only [go_sem, ↓reduceIte, Nat.reduceEqDiff, Nat.reduceAdd, Nat.reduceLeDiff, Nat.reduceMul, Nat.reduceSub, Int.reduceLE, Int.reduceLT, Int.reduceEq, Int.reduceToNat, Int.reducePow, Int.reduceNeg, hn]
    refine hK _ ?_; clear hK
    refine bwp_cond false (by simp [ev, fget, hn]) (fun h => nomatch h) (fun _ => ?_)
    refine bwp_skip ?_
    refine hfin _ [] K0 (by simp) (by have : n.toNat = n.natAbs := by omega
                                      simp [Lib.itoa, hn, this]) ?_ hK0
    exact Leads.ent [] ⟨by simp [entT, fget, AV.ren, renL, pget], by simp [entM], rfl, rfl⟩

end Go.Proofs.YtpfbljkfbjjlkaaDoor
