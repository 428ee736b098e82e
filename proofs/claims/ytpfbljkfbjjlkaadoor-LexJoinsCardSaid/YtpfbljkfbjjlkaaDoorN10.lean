/- The document's Parse of a number, gone through. -/
import Derived.Test.YtpfbljkfbjjlkaaDoorN9
namespace Go.Proofs.YtpfbljkfbjjlkaaDoor
open Go Go.Jq
set_option maxRecDepth 100000
set_option linter.unusedSimpArgs false

def rpS (neg : Bool) (d : List UInt8) (i : Nat) : St := ⟨[(7, .d (.int .i64 i)), (6, .d (.int .u64 (valD (d.take i)))), (5, .d (.str d)), (4, .d (.bool neg))], [], 0⟩

theorem all_digB {d : List UInt8} (h : ∀ i, i < d.length → digB (d.getD i 0) = true) : d.all digB = true := by
  rw [List.all_eq_true]
  intro c hc
  obtain ⟨i, hi, rfl⟩ := List.getElem_of_mem hc
  have := h i hi
  rwa [List.getD_eq_getElem?_getD, List.getElem?_eq_getElem hi, Option.getD_some] at this

theorem not_all_digB {d : List UInt8} {i : Nat} (hi : i < d.length) (h : digB (d.getD i 0) = false) : d.all digB = false := by
  rw [List.all_eq_false]
  refine ⟨d.getD i 0, ?_, by rw [h]; decide⟩
  rw [List.getD_eq_getElem?_getD, List.getElem?_eq_getElem hi, Option.getD_some]
  exact List.getElem_mem hi

theorem take_all {d : List UInt8} {i : Nat} (h : ∀ j, j < i → digB (d.getD j 0) = true) (hi : i ≤ d.length) : (d.take i).all digB = true := by
  refine all_digB fun j hj => ?_
  rw [List.length_take] at hj
  have := h j (by omega)
  rw [List.getD_eq_getElem?_getD] at this ⊢
  rw [List.getElem?_take_of_lt (by omega)]
  exact this

set_option maxHeartbeats 4000000 in
theorem rp_loop {neg : Bool} {d : List UInt8} (hl : d.length ≤ 19) {Q : Exit → St → Prop}
    (hbad : d.all digB = false → ∀ t : Fr, fget t 2 = .d (.int .i64 0) → fget t 3 = .d (.bool false) → Q .ret ⟨t, [], 0⟩)
    (hend : d.all digB = true → Q (.exit 0) (rpS neg d d.length)) :
    BWP Tryd.prog (mbound []) 74 (.loop ac43L0) (rpS neg d 0) Q := by
  refine bwp_countI (fun i => rpS neg d i) (fun i => ∀ j, j < i → digB (d.getD j 0) = true) d.length (fun j h => by omega) ?_
  intro i hi hp
  have hv := valD_lt (d.take i) (take_all hp hi)
  rw [List.length_take, Nat.min_eq_left hi] at hv
  unfold ac43L0 rpS
  by_cases hlt : i < d.length
  · have hlt' : (i : Int) < d.length := by omega
    have hi0 : (0 : Int) ≤ (i : Int) := Int.natCast_nonneg _
    have htk : d.take (i + 1) = d.take i ++ [d.getD i 0] := by
      rw [List.take_add_one, List.getD_eq_getElem?_getD, List.getElem?_eq_getElem hlt]; rfl
    have hnx : valD (d.take (i + 1)) = 10 * valD (d.take i) + ((d.getD i 0).toNat - 48) := by rw [htk, valD_snoc]
    have hp18 : 10 ^ i ≤ 10 ^ 18 := Nat.pow_le_pow_right (by decide) (by omega)
    generalize hw : valD (d.take i) = v at *
    refine bwp_seq fun K1 hK1 => ?_
    refine bwp_seq fun K hK => bwp_region rfl ?_
    simp -implicitDefEqProofs only [go_sem, ↓reduceIte, Nat.reduceEqDiff, Nat.reduceAdd, Nat.reduceLeDiff, Nat.reduceMul, Nat.reduceSub, Int.reduceLE, Int.reduceLT, Int.reduceEq, Int.reduceToNat, Int.reducePow, Int.reduceNeg, hlt']
    refine hK _ ?_; clear hK
    refine bwp_cond true (by simp [ev, fget]) (fun _ => ?_) (fun h => nomatch h)
    refine bwp_skip ?_
    refine hK1 _ ?_; clear hK1
    refine bwp_seq fun K1 hK1 => ?_
    refine bwp_block ?_
    refine bwp_seq fun K2 hK2 => ?_
    generalize hcd : d.getD i 0 = c at *
    have bad : digB c = false → ∀ t : Fr, fget t 2 = .d (.int .i64 0) → fget t 3 = .d (.bool false) → Q .ret ⟨t, [], 0⟩ := fun h => hbad (not_all_digB hlt (by rw [hcd]; exact h))
    by_cases h1 : (c.toNat : Int) < 48
    · refine bwp_seq fun K hK => bwp_region rfl ?_
      simp -implicitDefEqProofs only [go_sem, ↓reduceIte, Nat.reduceEqDiff, Nat.reduceAdd, Nat.reduceLeDiff, Nat.reduceMul, Nat.reduceSub, Int.reduceLE, Int.reduceLT, Int.reduceEq, Int.reduceToNat, Int.reducePow, Int.reduceNeg, hi0, hlt', Int.toNat_natCast, hcd, h1]
      refine hK _ ?_; clear hK
      refine bwp_cond true (by simp [ev, fget]) (fun _ => ?_) (fun h => nomatch h)
      refine bwp_seq fun K hK => bwp_region rfl ?_
      simp -implicitDefEqProofs only [go_sem, ↓reduceIte, Nat.reduceEqDiff, Nat.reduceAdd, Nat.reduceLeDiff, Nat.reduceMul, Nat.reduceSub, Int.reduceLE, Int.reduceLT, Int.reduceEq, Int.reduceToNat, Int.reducePow, Int.reduceNeg]
      refine hK _ ?_; clear hK
      refine bwp_ret ?_
      simp -implicitDefEqProofs only [go_sem, ↓reduceIte, Nat.reduceEqDiff, Nat.reduceAdd, Nat.reduceLeDiff, Nat.reduceMul, Nat.reduceSub, Int.reduceLE, Int.reduceLT, Int.reduceEq, Int.reduceToNat, Int.reducePow, Int.reduceNeg]
      exact bad (by unfold digB; have : ¬ 48 ≤ c.toNat := by omega
                    simp [this]) _ rfl rfl
    by_cases h2 : (57 : Int) < c.toNat
    · refine bwp_seq fun K hK => bwp_region rfl ?_
      simp -implicitDefEqProofs only [go_sem, ↓reduceIte, Nat.reduceEqDiff, Nat.reduceAdd, Nat.reduceLeDiff, Nat.reduceMul, Nat.reduceSub, Int.reduceLE, Int.reduceLT, Int.reduceEq, Int.reduceToNat, Int.reducePow, Int.reduceNeg, hi0, hlt', Int.toNat_natCast, hcd, h1, h2]
      refine hK _ ?_; clear hK
      refine bwp_cond true (by simp [ev, fget]) (fun _ => ?_) (fun h => nomatch h)
      refine bwp_seq fun K hK => bwp_region rfl ?_
      simp -implicitDefEqProofs only [go_sem, ↓reduceIte, Nat.reduceEqDiff, Nat.reduceAdd, Nat.reduceLeDiff, Nat.reduceMul, Nat.reduceSub, Int.reduceLE, Int.reduceLT, Int.reduceEq, Int.reduceToNat, Int.reducePow, Int.reduceNeg]
      refine hK _ ?_; clear hK
      refine bwp_ret ?_
      simp -implicitDefEqProofs only [go_sem, ↓reduceIte, Nat.reduceEqDiff, Nat.reduceAdd, Nat.reduceLeDiff, Nat.reduceMul, Nat.reduceSub, Int.reduceLE, Int.reduceLT, Int.reduceEq, Int.reduceToNat, Int.reducePow, Int.reduceNeg]
      exact bad (by unfold digB; have : ¬ c.toNat ≤ 57 := by omega
                    simp [this]) _ rfl rfl
    refine bwp_seq fun K hK => bwp_region rfl ?_
    simp -implicitDefEqProofs only [go_sem, ↓reduceIte, Nat.reduceEqDiff, Nat.reduceAdd, Nat.reduceLeDiff, Nat.reduceMul, Nat.reduceSub, Int.reduceLE, Int.reduceLT, Int.reduceEq, Int.reduceToNat, Int.reducePow, Int.reduceNeg, hi0, hlt', Int.toNat_natCast, hcd, h1, h2]
    refine hK _ ?_; clear hK
    refine bwp_cond false (by simp [ev, fget]) (fun h => nomatch h) (fun _ => ?_)
    refine bwp_skip ?_
    refine hK2 _ ?_; clear hK2
    have e1 : IntKind.u64.wrap (10 * (v : Int)) = ((10 * v : Nat) : Int) := by rw [u64_mod]; omega
    have e2 : IntKind.u8.wrap ((c.toNat : Int) - 48) = ((c.toNat - 48 : Nat) : Int) := by
      have e : (2 : Int) ^ 8 = 256 := rfl
      simp only [IntKind.wrap, IntKind.signed, IntKind.bits, Bool.false_and, Bool.false_eq_true, if_false, e]
      omega
    have e3 : IntKind.u64.wrap ((c.toNat - 48 : Nat) : Int) = ((c.toNat - 48 : Nat) : Int) := by rw [u64_mod]; omega
    have e4 : IntKind.u64.wrap (((10 * v : Nat) : Int) + ((c.toNat - 48 : Nat) : Int)) = ((10 * v + (c.toNat - 48) : Nat) : Int) := by
      have : 10 ^ 18 = 1000000000000000000 := rfl
      rw [u64_mod]; omega
    refine bwp_region rfl ?_
    simp -implicitDefEqProofs only [go_sem, ↓reduceIte, Nat.reduceEqDiff, Nat.reduceAdd, Nat.reduceLeDiff, Nat.reduceMul, Nat.reduceSub, Int.reduceLE, Int.reduceLT, Int.reduceEq, Int.reduceToNat, Int.reducePow, Int.reduceNeg, hi0, hlt', Int.toNat_natCast, hcd, e1, e2, e3, e4]
    refine hK1 _ ?_; clear hK1
    have hwi : IntKind.i64.wrap ((i : Int) + 1) = ((i + 1 : Nat) : Int) := by rw [wrap_id (by unfold I64; omega)]; rfl
    refine bwp_region rfl ?_
    simp -implicitDefEqProofs only [go_sem, ↓reduceIte, Nat.reduceEqDiff, Nat.reduceAdd, Nat.reduceLeDiff, Nat.reduceMul, Nat.reduceSub, Int.reduceLE, Int.reduceLT, Int.reduceEq, Int.reduceToNat, Int.reducePow, Int.reduceNeg, hwi]
    refine ⟨hlt, fun j hj => ?_, Leads.ent [] ⟨by simp [entT, fget, AV.ren, pget, hnx], by simp [entM], rfl, rfl⟩⟩
    by_cases hji : j = i
    · subst hji
      rw [hcd]
      unfold digB
      simp
      omega
    · exact hp j (by omega)
  · have hlt' : ¬ (i : Int) < d.length := by omega
    have hin : i = d.length := by omega
    subst hin
    refine bwp_seq fun K1 hK1 => ?_
    refine bwp_seq fun K hK => bwp_region rfl ?_
    simp -implicitDefEqProofs only [go_sem, ↓reduceIte, Nat.reduceEqDiff, Nat.reduceAdd, Nat.reduceLeDiff, Nat.reduceMul, Nat.reduceSub, Int.reduceLE, Int.reduceLT, Int.reduceEq, Int.reduceToNat, Int.reducePow, Int.reduceNeg, hlt']
    refine hK _ ?_; clear hK
    refine bwp_cond false (by simp [ev, fget]) (fun h => nomatch h) (fun _ => ?_)
    refine bwp_leads (S' := rpS neg d d.length) (Leads.ent [] ⟨by simp [entT, fget, AV.ren, renL, pget, rpS], by simp [entM, pinv, mget, mset, renL, AV.ren, pget, renL_append, -List.map_map, rpS], rfl, rfl⟩) ?_
    exact bwp_exit (hend (all_digB hp))

def rpI (neg : Bool) (d : List UInt8) : St := ⟨[(5, .d (.str d)), (4, .d (.bool neg))], [], 0⟩

set_option maxHeartbeats 8000000 in
theorem rp_tail (neg : Bool) (d : List UInt8) (hmax : d.length ≤ maxLen) :
    BWP Tryd.prog (mbound []) 74 (dropSeq 4 ac43) (rpI neg d) (AEnd Tryd.prog #[.tmp 2, .tmp 3] (mbound []) fun r m' => r = .tup [.d (.int .i64 (refD neg d).1), .d (.bool (refD neg d).2)] ∧ m' = []) := by
  unfold ac43 rpI
  simp only [dropSeq]
  refine bwp_seq fun K1 hK1 => ?_
  have no : refD neg d = (0, false) → ∀ t : Fr, BWP Tryd.prog (mbound []) 74 (.seq (.region false [⟨some 2, .mv (.c (.d (.int .i64 0))), none⟩, ⟨some 3, .mv (.c (.d (.bool false))), none⟩] []) .ret) ⟨t, [], 0⟩ (Exit.thenA K1 (AEnd Tryd.prog #[.tmp 2, .tmp 3] (mbound []) fun r m' => r = .tup [.d (.int .i64 (refD neg d).1), .d (.bool (refD neg d).2)] ∧ m' = [])) := by
    intro h t
    refine bwp_seq fun K hK => bwp_region rfl ?_
    simp -implicitDefEqProofs only [go_sem, ↓reduceIte, Nat.reduceEqDiff, Nat.reduceAdd, Nat.reduceLeDiff, Nat.reduceMul, Nat.reduceSub, Int.reduceLE, Int.reduceLT, Int.reduceEq, Int.reduceToNat, Int.reducePow, Int.reduceNeg]
    refine hK _ ?_; clear hK
    refine bwp_ret ?_
    simp -implicitDefEqProofs only [go_sem, ↓reduceIte, Nat.reduceEqDiff, Nat.reduceAdd, Nat.reduceLeDiff, Nat.reduceMul, Nat.reduceSub, Int.reduceLE, Int.reduceLT, Int.reduceEq, Int.reduceToNat, Int.reducePow, Int.reduceNeg]
    refine aend_ret _ rfl rfl ⟨?_, rfl⟩
    simp [fget, h]
  by_cases h1 : d = []
  · refine bwp_seq fun K hK => bwp_region rfl ?_
    simp -implicitDefEqProofs only [go_sem, ↓reduceIte, Nat.reduceEqDiff, Nat.reduceAdd, Nat.reduceLeDiff, Nat.reduceMul, Nat.reduceSub, Int.reduceLE, Int.reduceLT, Int.reduceEq, Int.reduceToNat, Int.reducePow, Int.reduceNeg, h1]
    refine hK _ ?_; clear hK
    refine bwp_cond true (by simp [ev, fget]) (fun _ => ?_) (fun h => nomatch h)
    exact no (by unfold refD; rw [if_pos (.inl h1)]) _
  by_cases h2 : (19 : Int) < d.length
  · refine bwp_seq fun K hK => bwp_region rfl ?_
    simp -implicitDefEqProofs only [go_sem, ↓reduceIte, Nat.reduceEqDiff, Nat.reduceAdd, Nat.reduceLeDiff, Nat.reduceMul, Nat.reduceSub, Int.reduceLE, Int.reduceLT, Int.reduceEq, Int.reduceToNat, Int.reducePow, Int.reduceNeg, h1, h2]
    refine hK _ ?_; clear hK
    refine bwp_cond true (by simp [ev, fget]) (fun _ => ?_) (fun h => nomatch h)
    exact no (by unfold refD; rw [if_pos (.inr (.inl (by omega)))]) _
  have hlen : 0 < d.length := by
    cases d with
    | nil => exact absurd rfl h1
    | cons c r => simp
  have hlen' : (0 : Int) < d.length := by omega
  have yes : ¬ (d.getD 0 0 = 48 ∧ (1 < d.length ∨ neg = true)) → ∀ t : Fr, fget t 5 = .d (.str d) → fget t 4 = .d (.bool neg) → K1 ⟨t, [], 0⟩ := by
    intro h3 t t5 t4
    have hR : refD neg d = if d.all digB = true then
        (if neg = true then (IntKind.i64.wrap (IntKind.u64.wrap (0 - (valD d : Int))), decide ((valD d : Int) ≤ 9223372036854775808)) else (IntKind.i64.wrap (valD d), decide ((valD d : Int) < 9223372036854775808)))
      else (0, false) := by
      unfold refD
      rw [if_neg (by rintro (h | h | h); exact h1 h; omega; exact h3 h)]
    refine hK1 _ ?_; clear hK1
    refine bwp_seq fun K hK => bwp_region rfl ?_
    simp -implicitDefEqProofs only [go_sem, ↓reduceIte, Nat.reduceEqDiff, Nat.reduceAdd, Nat.reduceLeDiff, Nat.reduceMul, Nat.reduceSub, Int.reduceLE, Int.reduceLT, Int.reduceEq, Int.reduceToNat, Int.reducePow, Int.reduceNeg]
    refine hK _ ?_; clear hK
    refine bwp_seq fun K2 hK2 => ?_
    refine bwp_seq fun K3 hK3 => ?_
    refine bwp_region rfl ?_
    simp -implicitDefEqProofs only [go_sem, ↓reduceIte, Nat.reduceEqDiff, Nat.reduceAdd, Nat.reduceLeDiff, Nat.reduceMul, Nat.reduceSub, Int.reduceLE, Int.reduceLT, Int.reduceEq, Int.reduceToNat, Int.reducePow, Int.reduceNeg]
    refine hK3 _ ?_; clear hK3
    refine bwp_block ?_
    refine bwp_leads (S' := rpS neg d 0) (Leads.ent [] ⟨by simp [entT, fget, AV.ren, renL, pget, rpS, t5, t4, valD], by simp [entM, pinv, mget, mset, renL, AV.ren, pget, renL_append, -List.map_map, rpS, t5, t4, valD], rfl, rfl⟩) ?_
    refine rp_loop (by omega) ?_ ?_
    · intro ha t' g2 g3
      simp -implicitDefEqProofs only [go_sem, ↓reduceIte, Nat.reduceEqDiff, Nat.reduceAdd, Nat.reduceLeDiff, Nat.reduceMul, Nat.reduceSub, Int.reduceLE, Int.reduceLT, Int.reduceEq, Int.reduceToNat, Int.reducePow, Int.reduceNeg]
      refine aend_ret (.tup [fget t' 2, fget t' 3]) rfl (by rw [g2, g3]; rfl) ⟨?_, rfl⟩
      rw [g2, g3, hR, ha]
      simp
    · intro ha
      have hk : d.take d.length = d := List.take_length
      unfold rpS
      rw [hk]
      simp -implicitDefEqProofs only [go_sem, ↓reduceIte, Nat.reduceEqDiff, Nat.reduceAdd, Nat.reduceLeDiff, Nat.reduceMul, Nat.reduceSub, Int.reduceLE, Int.reduceLT, Int.reduceEq, Int.reduceToNat, Int.reducePow, Int.reduceNeg]
      refine hK2 _ ?_; clear hK2
      rw [if_pos ha] at hR
      refine bwp_seq fun K2 hK2 => ?_
      cases neg with
      | true =>
        rw [if_pos rfl] at hR
        refine bwp_seq fun K hK => bwp_region rfl ?_
        simp -implicitDefEqProofs only [go_sem, ↓reduceIte, Nat.reduceEqDiff, Nat.reduceAdd, Nat.reduceLeDiff, Nat.reduceMul, Nat.reduceSub, Int.reduceLE, Int.reduceLT, Int.reduceEq, Int.reduceToNat, Int.reducePow, Int.reduceNeg]
        refine hK _ ?_; clear hK
        refine bwp_cond true (by simp [ev, fget]) (fun _ => ?_) (fun h => nomatch h)
        by_cases h5 : (valD d : Int) ≤ 9223372036854775808
        · refine bwp_seq fun K hK => bwp_region rfl ?_
          simp -implicitDefEqProofs only [go_sem, ↓reduceIte, Nat.reduceEqDiff, Nat.reduceAdd, Nat.reduceLeDiff, Nat.reduceMul, Nat.reduceSub, Int.reduceLE, Int.reduceLT, Int.reduceEq, Int.reduceToNat, Int.reducePow, Int.reduceNeg, h5]
          refine hK _ ?_; clear hK
          refine bwp_ret ?_
          simp only [go_sem]
          refine aend_ret _ rfl rfl ⟨?_, rfl⟩
          simp [fget, hR, h5]
        · refine bwp_seq fun K hK => bwp_region rfl ?_
          simp -implicitDefEqProofs only [go_sem, ↓reduceIte, Nat.reduceEqDiff, Nat.reduceAdd, Nat.reduceLeDiff, Nat.reduceMul, Nat.reduceSub, Int.reduceLE, Int.reduceLT, Int.reduceEq, Int.reduceToNat, Int.reducePow, Int.reduceNeg, h5]
          refine hK _ ?_; clear hK
          refine bwp_ret ?_
          simp only [go_sem]
          refine aend_ret _ rfl rfl ⟨?_, rfl⟩
          simp [fget, hR, h5]
      | false =>
        rw [if_neg (by decide)] at hR
        refine bwp_seq fun K hK => bwp_region rfl ?_
        simp -implicitDefEqProofs only [go_sem, ↓reduceIte, Nat.reduceEqDiff, Nat.reduceAdd, Nat.reduceLeDiff, Nat.reduceMul, Nat.reduceSub, Int.reduceLE, Int.reduceLT, Int.reduceEq, Int.reduceToNat, Int.reducePow, Int.reduceNeg]
        refine hK _ ?_; clear hK
        refine bwp_cond false (by simp [ev, fget]) (fun h => nomatch h) (fun _ => ?_)
        refine bwp_skip ?_
        refine hK2 _ ?_; clear hK2
        by_cases h5 : (valD d : Int) < 9223372036854775808
        · refine bwp_seq fun K hK => bwp_region rfl ?_
          simp -implicitDefEqProofs only [go_sem, ↓reduceIte, Nat.reduceEqDiff, Nat.reduceAdd, Nat.reduceLeDiff, Nat.reduceMul, Nat.reduceSub, Int.reduceLE, Int.reduceLT, Int.reduceEq, Int.reduceToNat, Int.reducePow, Int.reduceNeg, h5]
          refine hK _ ?_; clear hK
          refine bwp_ret ?_
          simp only [go_sem]
          refine aend_ret _ rfl rfl ⟨?_, rfl⟩
          simp [fget, hR, h5]
        · refine bwp_seq fun K hK => bwp_region rfl ?_
          simp -implicitDefEqProofs only [go_sem, ↓reduceIte, Nat.reduceEqDiff, Nat.reduceAdd, Nat.reduceLeDiff, Nat.reduceMul, Nat.reduceSub, Int.reduceLE, Int.reduceLT, Int.reduceEq, Int.reduceToNat, Int.reducePow, Int.reduceNeg, h5]
          refine hK _ ?_; clear hK
          refine bwp_ret ?_
          simp only [go_sem]
          refine aend_ret _ rfl rfl ⟨?_, rfl⟩
          simp [fget, hR, h5]
  have hc8 : (((d.getD 0 0).toNat : Int) = 48) ↔ d.getD 0 0 = 48 := by
    constructor
    · intro h; apply UInt8.toNat_inj.1; exact_mod_cast h
    · intro h; rw [h]; rfl
  by_cases h3 : d.getD 0 0 = 48
  · have h3' := hc8.2 h3
    by_cases h4 : (1 : Int) < d.length
    · refine bwp_seq fun K hK => bwp_region rfl ?_
      simp -implicitDefEqProofs only [go_sem, ↓reduceIte, Nat.reduceEqDiff, Nat.reduceAdd, Nat.reduceLeDiff, Nat.reduceMul, Nat.reduceSub, Int.reduceLE, Int.reduceLT, Int.reduceEq, Int.reduceToNat, Int.reducePow, Int.reduceNeg, h1, h2, hlen', h3', h4]
      refine hK _ ?_; clear hK
      refine bwp_cond true (by simp [ev, fget]) (fun _ => ?_) (fun h => nomatch h)
      exact no (by unfold refD; rw [if_pos (.inr (.inr ⟨h3, .inl (by omega)⟩))]) _
    · cases neg with
      | true =>
        refine bwp_seq fun K hK => bwp_region rfl ?_
        simp -implicitDefEqProofs only [go_sem, ↓reduceIte, Nat.reduceEqDiff, Nat.reduceAdd, Nat.reduceLeDiff, Nat.reduceMul, Nat.reduceSub, Int.reduceLE, Int.reduceLT, Int.reduceEq, Int.reduceToNat, Int.reducePow, Int.reduceNeg, h1, h2, hlen', h3', h4]
        refine hK _ ?_; clear hK
        refine bwp_cond true (by simp [ev, fget]) (fun _ => ?_) (fun h => nomatch h)
        exact no (by unfold refD; rw [if_pos (.inr (.inr ⟨h3, .inr rfl⟩))]) _
      | false =>
        refine bwp_seq fun K hK => bwp_region rfl ?_
        simp -implicitDefEqProofs only [go_sem, ↓reduceIte, Nat.reduceEqDiff, Nat.reduceAdd, Nat.reduceLeDiff, Nat.reduceMul, Nat.reduceSub, Int.reduceLE, Int.reduceLT, Int.reduceEq, Int.reduceToNat, Int.reducePow, Int.reduceNeg, h1, h2, hlen', h3', h4]
        refine hK _ ?_; clear hK
        refine bwp_cond false (by simp [ev, fget]) (fun h => nomatch h) (fun _ => ?_)
        refine bwp_skip ?_
        simp -implicitDefEqProofs only [go_sem, ↓reduceIte, Nat.reduceEqDiff, Nat.reduceAdd, Nat.reduceLeDiff, Nat.reduceMul, Nat.reduceSub, Int.reduceLE, Int.reduceLT, Int.reduceEq, Int.reduceToNat, Int.reducePow, Int.reduceNeg]
        exact yes (fun h => by rcases h.2 with h | h; omega; cases h) _ rfl rfl
  · have h3' : ¬ ((d.getD 0 0).toNat : Int) = 48 := fun h => h3 (hc8.1 h)
    refine bwp_seq fun K hK => bwp_region rfl ?_
    simp -implicitDefEqProofs only [go_sem, ↓reduceIte, Nat.reduceEqDiff, Nat.reduceAdd, Nat.reduceLeDiff, Nat.reduceMul, Nat.reduceSub, Int.reduceLE, Int.reduceLT, Int.reduceEq, Int.reduceToNat, Int.reducePow, Int.reduceNeg, h1, h2, hlen', h3']
    refine hK _ ?_; clear hK
    refine bwp_cond false (by simp [ev, fget]) (fun h => nomatch h) (fun _ => ?_)
    refine bwp_skip ?_
    simp -implicitDefEqProofs only [go_sem, ↓reduceIte, Nat.reduceEqDiff, Nat.reduceAdd, Nat.reduceLeDiff, Nat.reduceMul, Nat.reduceSub, Int.reduceLE, Int.reduceLT, Int.reduceEq, Int.reduceToNat, Int.reducePow, Int.reduceNeg]
    exact yes (fun h => h3 h.1) _ rfl rfl

set_option maxHeartbeats 8000000 in
theorem refParse_pure {s : List UInt8} (hmax : s.length ≤ maxLen) : Pure Tryd.prog 43 [.d (.str s)] (.tup [.d (.int .i64 (refW s).1), .d (.bool (refW s).2)]) := by
  have hfin : ∀ (S : St) (neg : Bool) (d : List UInt8) (K : St → Prop), d.length ≤ maxLen → refW s = refD neg d → Leads (mbound []) 74 S (rpI neg d) →
      (∀ S', BWP Tryd.prog (mbound []) 74 (dropSeq 4 ac43) S' (AEnd Tryd.prog #[.tmp 2, .tmp 3] (mbound []) fun r m' => r = .tup [.d (.int .i64 (refW s).1), .d (.bool (refW s).2)] ∧ m' = []) → K S') → K S := by
    intro S neg d K hd he hS hK
    refine hK _ ?_
    refine bwp_leads hS ?_
    rw [he]
    exact rp_tail neg d hd
  unfold ac43 at hfin
  simp only [dropSeq] at hfin
  refine acalls_of Tryd.func43 ac43_ok Tryd.ntmps43 Tryd.results43 rfl ?_
  unfold ac43
  refine bwp_seq fun K hK => bwp_region rfl ?_
  simp -implicitDefEqProofs only [go_sem, ↓reduceIte, Nat.reduceEqDiff, Nat.reduceAdd, Nat.reduceLeDiff, Nat.reduceMul, Nat.reduceSub, Int.reduceLE, Int.reduceLT, Int.reduceEq, Int.reduceToNat, Int.reducePow, Int.reduceNeg]
  refine hK _ ?_; clear hK
  cases s with
  | nil =>
    have hn : ¬ (0 : Int) < ((0 : Nat) : Int) := by decide
    refine bwp_seq fun K hK => bwp_region rfl ?_
    simp -implicitDefEqProofs only [go_sem, ↓reduceIte, Nat.reduceEqDiff, Nat.reduceAdd, Nat.reduceLeDiff, Nat.reduceMul, Nat.reduceSub, Int.reduceLE, Int.reduceLT, Int.reduceEq, Int.reduceToNat, Int.reducePow, Int.reduceNeg, hn]
    refine hK _ ?_; clear hK
    refine bwp_seq fun K hK => bwp_region rfl ?_
    simp -implicitDefEqProofs only [go_sem, ↓reduceIte, Nat.reduceEqDiff, Nat.reduceAdd, Nat.reduceLeDiff, Nat.reduceMul, Nat.reduceSub, Int.reduceLE, Int.reduceLT, Int.reduceEq, Int.reduceToNat, Int.reducePow, Int.reduceNeg]
    refine hK _ ?_; clear hK
    refine bwp_seq fun K1 hK1 => ?_
    refine bwp_seq fun K hK => bwp_region rfl ?_
    simp -implicitDefEqProofs only [go_sem, ↓reduceIte, Nat.reduceEqDiff, Nat.reduceAdd, Nat.reduceLeDiff, Nat.reduceMul, Nat.reduceSub, Int.reduceLE, Int.reduceLT, Int.reduceEq, Int.reduceToNat, Int.reducePow, Int.reduceNeg]
    refine hK _ ?_; clear hK
    refine bwp_cond false (by simp [ev, fget]) (fun h => nomatch h) (fun _ => ?_)
    refine bwp_skip ?_
    refine hfin _ false [] K1 (by simp) rfl (Leads.ent [] ⟨by simp [entT, fget, AV.ren, renL, pget, rpI], by simp [entM, rpI], rfl, rfl⟩) hK1
  | cons c r =>
    have hn : (0 : Int) < ((r.length + 1 : Nat) : Int) := by omega
    have hc8 : ((c.toNat : Int) = 45) ↔ c = 45 := by
      constructor
      · intro h; apply UInt8.toNat_inj.1; exact_mod_cast h
      · rintro rfl; rfl
    have hg : (c :: r).getD 0 0 = c := rfl
    by_cases h : c = 45
    · have h' := hc8.2 h
      have hr : refW (c :: r) = refD true r := by simp [refW, h]
      have hl1 : 1 ≤ r.length + 1 := by omega
      have hd1 : (c :: r).drop 1 = r := rfl
      refine bwp_seq fun K hK => bwp_region rfl ?_
      simp -implicitDefEqProofs only [go_sem, ↓reduceIte, Nat.reduceEqDiff, Nat.reduceAdd, Nat.reduceLeDiff, Nat.reduceMul, Nat.reduceSub, Int.reduceLE, Int.reduceLT, Int.reduceEq, Int.reduceToNat, Int.reducePow, Int.reduceNeg, hn, hg, h']
      refine hK _ ?_; clear hK
      refine bwp_seq fun K hK => bwp_region rfl ?_
      simp -implicitDefEqProofs only [go_sem, ↓reduceIte, Nat.reduceEqDiff, Nat.reduceAdd, Nat.reduceLeDiff, Nat.reduceMul, Nat.reduceSub, Int.reduceLE, Int.reduceLT, Int.reduceEq, Int.reduceToNat, Int.reducePow, Int.reduceNeg]
      refine hK _ ?_; clear hK
      refine bwp_seq fun K1 hK1 => ?_
      refine bwp_seq fun K hK => bwp_region rfl ?_
      simp -implicitDefEqProofs only [go_sem, ↓reduceIte, Nat.reduceEqDiff, Nat.reduceAdd, Nat.reduceLeDiff, Nat.reduceMul, Nat.reduceSub, Int.reduceLE, Int.reduceLT, Int.reduceEq, Int.reduceToNat, Int.reducePow, Int.reduceNeg]
      refine hK _ ?_; clear hK
      refine bwp_cond true (by simp [ev, fget]) (fun _ => ?_) (fun h => nomatch h)
      refine bwp_region rfl ?_
      simp -implicitDefEqProofs only [go_sem, ↓reduceIte, Nat.reduceEqDiff, Nat.reduceAdd, Nat.reduceLeDiff, Nat.reduceMul, Nat.reduceSub, Int.reduceLE, Int.reduceLT, Int.reduceEq, Int.reduceToNat, Int.reducePow, Int.reduceNeg, hl1, hd1]
      refine hfin _ true r K1 (by simp only [List.length_cons] at hmax; omega) hr (Leads.ent [] ⟨by simp [entT, fget, AV.ren, renL, pget, rpI], by simp [entM, rpI], rfl, rfl⟩) hK1
    · have h' : ¬ ((c.toNat : Int) = 45) := fun e => h (hc8.1 e)
      have hr : refW (c :: r) = refD false (c :: r) := by simp [refW, h]
      refine bwp_seq fun K hK => bwp_region rfl ?_
      simp -implicitDefEqProofs only [go_sem, ↓reduceIte, Nat.reduceEqDiff, Nat.reduceAdd, Nat.reduceLeDiff, Nat.reduceMul, Nat.reduceSub, Int.reduceLE, Int.reduceLT, Int.reduceEq, Int.reduceToNat, Int.reducePow, Int.reduceNeg, hn, hg, h']
      refine hK _ ?_; clear hK
      refine bwp_seq fun K hK => bwp_region rfl ?_
      simp -implicitDefEqProofs only [go_sem, ↓reduceIte, Nat.reduceEqDiff, Nat.reduceAdd, Nat.reduceLeDiff, Nat.reduceMul, Nat.reduceSub, Int.reduceLE, Int.reduceLT, Int.reduceEq, Int.reduceToNat, Int.reducePow, Int.reduceNeg]
      refine hK _ ?_; clear hK
      refine bwp_seq fun K1 hK1 => ?_
      refine bwp_seq fun K hK => bwp_region rfl ?_
      simp -implicitDefEqProofs only [go_sem, ↓reduceIte, Nat.reduceEqDiff, Nat.reduceAdd, Nat.reduceLeDiff, Nat.reduceMul, Nat.reduceSub, Int.reduceLE, Int.reduceLT, Int.reduceEq, Int.reduceToNat, Int.reducePow, Int.reduceNeg]
      refine hK _ ?_; clear hK
      refine bwp_cond false (by simp [ev, fget]) (fun h => nomatch h) (fun _ => ?_)
      refine bwp_skip ?_
      refine hfin _ false (c :: r) K1 hmax hr (Leads.ent [] ⟨by simp [entT, fget, AV.ren, renL, pget, rpI], by simp [entM, rpI], rfl, rfl⟩) hK1

end Go.Proofs.YtpfbljkfbjjlkaaDoor
