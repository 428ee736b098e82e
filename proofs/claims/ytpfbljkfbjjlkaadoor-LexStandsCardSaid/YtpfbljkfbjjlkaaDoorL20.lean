/- LexOne and LexBounds come to true. -/
import Derived.Test.YtpfbljkfbjjlkaaDoorL19
namespace Go.Proofs.YtpfbljkfbjjlkaaDoor
open Go Go.Jq
set_option maxRecDepth 100000
set_option linter.unusedSimpArgs false

/-- Bytes as an own block's cells. -/
def byC (s : List UInt8) : List AV := (s.map fun b => DV.int .u8 b.toNat).map .d
@[go_sem, simp] theorem byC_len (s : List UInt8) : (byC s).length = s.length := by simp [byC]
@[go_sem, simp] theorem byC_ren (π : Nat → Option Nat) (s : List UInt8) : renL π (byC s) = byC s := renL_d _ _
theorem byC_set (s : List UInt8) (i : Nat) (c : UInt8) : (byC s).set i (.d (.int .u8 c.toNat)) = byC (s.set i c) := by simp [byC, List.map_set]
theorem byC_bytes : ∀ s : List UInt8, cellBytes (byC s) = some s
  | [] => rfl
  | c :: s => by
    have ih := byC_bytes s
    simp only [byC, List.map_cons] at ih ⊢
    simp only [cellBytes, ih, Option.map_some, Int.toNat_natCast]
    simp
theorem byC_one (s : List UInt8) : (byC s).all oneB = true := by simp [byC, oneB]
theorem byC_take (s : List UInt8) (n : Nat) : (byC s).take n = byC (s.take n) := by simp [byC, List.map_take]

theorem made_bytes (n : Nat) : ((List.range n).map fun i => ([AV.d (.int .u8 0)] : List AV).getD (i % 1) .any) = byC (List.replicate n 0) := by
  have h1 : ∀ i : Nat, ([AV.d (.int .u8 0)] : List AV).getD (i % 1) .any = .d (.int .u8 0) := fun i => by rw [Nat.mod_one]; rfl
  simp only [h1]
  rw [List.map_const', List.length_range]
  simp [byC, List.map_replicate]

def rowB (c : UInt8) (i n : Nat) : List UInt8 := List.replicate i c ++ List.replicate (n - i) 0
theorem rowB_len (c : UInt8) {i n : Nat} (h : i ≤ n) : (rowB c i n).length = n := by simp [rowB]; omega
theorem rowB_set (c : UInt8) {i n : Nat} (h : i < n) : (rowB c i n).set i c = rowB c (i + 1) n := by
  unfold rowB
  obtain ⟨k, hk⟩ : ∃ k, n - i = k + 1 := ⟨n - i - 1, by omega⟩
  rw [hk, show n - (i + 1) = k by omega, List.replicate_succ, List.set_append_right _ _ (by simp)]
  simp [List.replicate_succ', List.append_assoc]

def loS (c : Int) (k : Int) (n i : Nat) (ex : Fr) : St := ⟨ex ++ [(21, .d (.int .i64 i)), (20, .d (.int .i64 n)), (5, .sl 0 1 0 n), (0, .d (.int .u8 c)), (1, .d (.int .i64 k))], [(0, byC (rowB 32 i n))], 1⟩

set_option maxHeartbeats 4000000 in
theorem lo_loop0 {c k : Int} {n : Nat} (hn : n ≤ 8) {Q : Exit → St → Prop} (hQ : Q (.exit 0) (loS c k n n [])) : BWP Tryd.prog 0 124 (.loop ac3L0) (loS c k n 0 []) Q := by
  refine bwp_count (fun i => loS c k n i []) n ?_
  intro i hi
  unfold ac3L0 loS
  have hl := rowB_len 32 hi
  by_cases hlt : i < n
  · have hlt' : (i : Int) < n := by omega
    have hw : IntKind.i64.wrap ((i : Int) + 1) = ((i + 1 : Nat) : Int) := by rw [wrap_i64 (by omega) (by omega)]; rfl
    have hst := rowB_set 32 hlt
    have hs : (byC (rowB 32 i n)).set i (.d (.int .u8 32)) = byC (rowB 32 (i + 1) n) := by rw [← hst, ← byC_set]; rfl
    have b0 : (0 : Int) ≤ (i : Int) := Int.natCast_nonneg _
    have b1 : i + 1 ≤ n := hlt
    refine bwp_seq fun K hK => bwp_region rfl ?_
    simp -implicitDefEqProofs only [go_sem, ↓reduceIte, Nat.reduceEqDiff, Nat.reduceAdd, Nat.reduceLeDiff, Nat.reduceMul, Nat.reduceSub, Int.reduceLE, Int.reduceLT, Int.reduceEq, Int.reduceToNat, Int.reducePow, Int.reduceNeg, hlt']
    refine hK _ ?_; clear hK
    refine bwp_seq fun K1 hK1 => ?_
    refine bwp_cond true (by simp [ev, fget]) (fun _ => ?_) (fun h => nomatch h)
    refine bwp_skip ?_
    refine hK1 _ ?_; clear hK1
    refine bwp_seq fun K1 hK1 => ?_
    refine bwp_block ?_
    refine bwp_seq fun K hK => bwp_region rfl ?_
    simp -implicitDefEqProofs only [go_sem, ↓reduceIte, Nat.reduceEqDiff, Nat.reduceAdd, Nat.reduceLeDiff, Nat.reduceMul, Nat.reduceSub, Int.reduceLE, Int.reduceLT, Int.reduceEq, Int.reduceToNat, Int.reducePow, Int.reduceNeg]
    refine hK _ ?_; clear hK
    refine bwp_region rfl ?_
    simp -implicitDefEqProofs only [go_sem, ↓reduceIte, Nat.reduceEqDiff, Nat.reduceAdd, Nat.reduceLeDiff, Nat.reduceMul, Nat.reduceSub, Int.reduceLE, Int.reduceLT, Int.reduceEq, Int.reduceToNat, Int.reducePow, Int.reduceNeg, hlt', b0, Int.toNat_natCast, hl, hs, Nat.mul_one, b1]
    refine hK1 _ ?_; clear hK1
    refine bwp_region rfl ?_
    simp -implicitDefEqProofs only [go_sem, ↓reduceIte, Nat.reduceEqDiff, Nat.reduceAdd, Nat.reduceLeDiff, Nat.reduceMul, Nat.reduceSub, Int.reduceLE, Int.reduceLT, Int.reduceEq, Int.reduceToNat, Int.reducePow, Int.reduceNeg, hw]
    exact ⟨hlt, (Leads.ent [(0, 0)] ⟨by simp [entT, fget, AV.ren, renL, pget, loS], by simp [entM, pinv, mget, mset, renL, AV.ren, pget, renL_append, -List.map_map, loS], rfl, rfl⟩)⟩
  · have hlt' : ¬ (i : Int) < n := by omega
    have he : i = n := by omega
    subst he
    refine bwp_seq fun K hK => bwp_region rfl ?_
    simp -implicitDefEqProofs only [go_sem, ↓reduceIte, Nat.reduceEqDiff, Nat.reduceAdd, Nat.reduceLeDiff, Nat.reduceMul, Nat.reduceSub, Int.reduceLE, Int.reduceLT, Int.reduceEq, Int.reduceToNat, Int.reducePow, Int.reduceNeg, hlt']
    refine hK _ ?_; clear hK
    refine bwp_seq fun K1 hK1 => ?_
    refine bwp_cond false (by simp [ev, fget]) (fun h => nomatch h) (fun _ => ?_)
    refine bwp_leads (S' := loS c k i i []) (Leads.ent [(0, 0)] ⟨by simp [entT, fget, AV.ren, renL, pget, loS], by simp [entM, pinv, mget, mset, renL, AV.ren, pget, renL_append, -List.map_map, loS], rfl, rfl⟩) ?_
    exact bwp_exit hQ

def spB (c : UInt8) : Bool := blankB c || c == 35

def beS (c : UInt8) (k : Int) (b bl : Bool) (i : Nat) (L : DV) (code pl : Int) : St :=
  ⟨[(13, .d (.int .i64 i)), (12, .d (.bool b)), (11, .d (.bool bl)), (0, .d (.int .u8 c.toNat)), (1, .d (.int .i64 k)), (7, .d L), (8, .ptr 0 0)], [(0, [.d (.int .i64 code), .d (.int .i64 pl)])], 1⟩

theorem ones_any (i : Nat) (h : i < 12) (c : UInt8) : (ones.take (i + 1)).any (· == c) = ((ones.take i).any (· == c) || ones.getD i 0 == c) := by
  have hl : i < ones.length := h
  rw [take_snoc ones i hl, List.any_append]
  simp [List.getD_eq_getElem?_getD, hl]

set_option maxHeartbeats 4000000 in
theorem lo_loop1 {c : UInt8} {k : Int} {b0 bl : Bool} {L : DV} {code pl : Int} {Q : Exit → St → Prop} (hQ : Q (.exit 2) (beS c k (b0 || ones.any (· == c)) bl 12 L code pl)) :
    BWP Tryd.prog 0 124 (.loop ac3L1) (beS c k b0 bl 0 L code pl) Q := by
  have h0 : beS c k b0 bl 0 L code pl = beS c k (b0 || (ones.take 0).any (· == c)) bl 0 L code pl := by simp
  rw [h0]
  refine bwp_count (fun i => beS c k (b0 || (ones.take i).any (· == c)) bl i L code pl) 12 ?_
  intro i hi
  unfold ac3L1 beS
  by_cases hlt : i < 12
  · have hlt' : (i : Int) < 12 := by omega
    have hw : IntKind.i64.wrap ((i : Int) + 1) = ((i + 1 : Nat) : Int) := by rw [wrap_i64 (by omega) (by omega)]; rfl
    have ho := ones_any i hlt c
    have hi0 : (0 : Int) ≤ (i : Int) := Int.natCast_nonneg _
    have hol : ([123, 125, 59, 58, 61, 43, 45, 42, 38, 124, 94, 60] : List UInt8).length = 12 := rfl
    refine bwp_seq fun K1 hK1 => ?_
    refine bwp_seq fun K hK => bwp_region rfl ?_
    simp -implicitDefEqProofs only [go_sem, ↓reduceIte, Nat.reduceEqDiff, Nat.reduceAdd, Nat.reduceLeDiff, Nat.reduceMul, Nat.reduceSub, Int.reduceLE, Int.reduceLT, Int.reduceEq, Int.reduceToNat, Int.reducePow, Int.reduceNeg, hlt']
    refine hK _ ?_; clear hK
    refine bwp_cond true (by simp [ev, fget]) (fun _ => ?_) (fun h => nomatch h)
    refine bwp_skip ?_
    refine hK1 _ ?_; clear hK1
    refine bwp_seq fun K1 hK1 => ?_
    refine bwp_block ?_
    have ho2 : (b0 || (ones.take (i + 1)).any (· == c)) = ((b0 || (ones.take i).any (· == c)) || ones.getD i 0 == c) := by rw [ho, Bool.or_assoc]
    generalize (b0 || (ones.take i).any (· == c)) = b at ho2 ⊢
    cases b with
    | true =>
      refine bwp_region rfl ?_
      simp -implicitDefEqProofs only [go_sem, ↓reduceIte, Nat.reduceEqDiff, Nat.reduceAdd, Nat.reduceLeDiff, Nat.reduceMul, Nat.reduceSub, Int.reduceLE, Int.reduceLT, Int.reduceEq, Int.reduceToNat, Int.reducePow, Int.reduceNeg]
      refine hK1 _ ?_; clear hK1
      refine bwp_region rfl ?_
      simp -implicitDefEqProofs only [go_sem, ↓reduceIte, Nat.reduceEqDiff, Nat.reduceAdd, Nat.reduceLeDiff, Nat.reduceMul, Nat.reduceSub, Int.reduceLE, Int.reduceLT, Int.reduceEq, Int.reduceToNat, Int.reducePow, Int.reduceNeg, hw]
      exact ⟨hlt, (Leads.ent [(0, 0)] ⟨by simp [entT, fget, AV.ren, renL, pget, beS, ho2], by simp [entM, pinv, mget, mset, renL, AV.ren, pget, renL_append, -List.map_map, beS, ho2], rfl, rfl⟩)⟩
    | false =>
      have he : decide (((ones.getD i 0).toNat : Int) = (c.toNat : Int)) = (ones.getD i 0 == c) := by
        rw [Bool.eq_iff_iff, decide_eq_true_eq, beq_iff_eq]
        exact ⟨fun h => u8eq h.symm |>.symm, fun h => by rw [h]⟩
      refine bwp_region rfl ?_
      simp -implicitDefEqProofs only [go_sem, ↓reduceIte, Nat.reduceEqDiff, Nat.reduceAdd, Nat.reduceLeDiff, Nat.reduceMul, Nat.reduceSub, Int.reduceLE, Int.reduceLT, Int.reduceEq, Int.reduceToNat, Int.reducePow, Int.reduceNeg, hi0, hlt', hol, Int.toNat_natCast]
      have hos : ([123, 125, 59, 58, 61, 43, 45, 42, 38, 124, 94, 60] : List UInt8) = ones := rfl
      rw [hos, he]
      generalize (ones.getD i 0 == c) = z at ho2
      refine hK1 _ ?_; clear hK1
      refine bwp_region rfl ?_
      simp -implicitDefEqProofs only [go_sem, ↓reduceIte, Nat.reduceEqDiff, Nat.reduceAdd, Nat.reduceLeDiff, Nat.reduceMul, Nat.reduceSub, Int.reduceLE, Int.reduceLT, Int.reduceEq, Int.reduceToNat, Int.reducePow, Int.reduceNeg, hw]
      exact ⟨hlt, (Leads.ent [(0, 0)] ⟨by simp [entT, fget, AV.ren, renL, pget, beS, ho2], by simp [entM, pinv, mget, mset, renL, AV.ren, pget, renL_append, -List.map_map, beS, ho2], rfl, rfl⟩)⟩
  · have hlt' : ¬ (i : Int) < 12 := by omega
    have he : i = 12 := by omega
    subst he
    refine bwp_seq fun K1 hK1 => ?_
    refine bwp_seq fun K hK => bwp_region rfl ?_
    simp -implicitDefEqProofs only [go_sem, ↓reduceIte, Nat.reduceEqDiff, Nat.reduceAdd, Nat.reduceLeDiff, Nat.reduceMul, Nat.reduceSub, Int.reduceLE, Int.reduceLT, Int.reduceEq, Int.reduceToNat, Int.reducePow, Int.reduceNeg, hlt']
    refine hK _ ?_; clear hK
    refine bwp_cond false (by simp [ev, fget]) (fun h => nomatch h) (fun _ => ?_)
    have e : ones.take 12 = ones := rfl
    refine bwp_leads (S' := beS c k (b0 || ones.any (· == c)) bl 12 L code pl) (Leads.ent [(0, 0)] ⟨by simp [entT, fget, AV.ren, renL, pget, beS, e], by simp [entM, pinv, mget, mset, renL, AV.ren, pget, renL_append, -List.map_map, beS, e], rfl, rfl⟩) ?_
    exact bwp_exit hQ

theorem sp_cases (c : UInt8) : spB c = true ↔ ((c.toNat : Int) = 32 ∨ (c.toNat : Int) = 9 ∨ (c.toNat : Int) = 10 ∨ (c.toNat : Int) = 35) := by
  have key : ∀ k : UInt8, ((c.toNat : Int) = (k.toNat : Int)) ↔ c = k := fun k => ⟨u8eq, fun h => by rw [h]⟩
  have k1 := key 32
  have k2 := key 9
  have k3 := key 10
  have k4 := key 35
  simp only [UInt8.reduceToNat, Int.cast_ofNat_Int] at k1 k2 k3 k4
  rw [k1, k2, k3, k4]
  simp [spB, blankB, or_assoc]

/-- Behind the two readings. -/
def lpS (c : UInt8) (k : Int) (L : DV) (code pl : Int) (ex : Fr) : St :=
  ⟨ex ++ [(0, .d (.int .u8 c.toNat)), (1, .d (.int .i64 k)), (7, .d L), (8, .ptr 0 0)], [(0, [.d (.int .i64 code), .d (.int .i64 pl)])], 1⟩

theorem be_lets (c : UInt8) : (letB c || digB c) = true ↔ ((97 ≤ (c.toNat : Int) ∧ (c.toNat : Int) ≤ 122) ∨ (48 ≤ (c.toNat : Int) ∧ (c.toNat : Int) ≤ 57)) := by
  simp only [letB, digB, Bool.or_eq_true, Bool.and_eq_true, decide_eq_true_eq]
  omega

theorem begins_eq (c : UInt8) : beginsB c = ((letB c || digB c) || ones.any (· == c)) := by
  unfold beginsB
  congr 1
  rw [Bool.eq_iff_iff]
  simp

set_option maxHeartbeats 16000000 in
theorem lexOne_u8 {c : UInt8} {n : Int} : Pure Tryd.prog 3 [.d (.int .u8 c.toNat), .d (.int .i64 n)] (.d (.bool true)) := by
  obtain ⟨q1, q2⟩ := and_mask n 7 (by decide)
  have e7 : ((7 : Nat) : Int) = 7 := rfl
  rw [e7] at q1 q2
  obtain ⟨k, hk, hk7⟩ : ∃ k : Nat, bits .and .i64 n 7 = (k : Int) ∧ k ≤ 7 := ⟨(bits .and .i64 n 7).toNat, by omega, by omega⟩
  obtain ⟨N, hN⟩ : ∃ N, k + 1 = N := ⟨_, rfl⟩
  have hw : IntKind.i64.wrap ((k : Int) + 1) = (N : Int) := by rw [wrap_i64 (by omega) (by omega)]; omega
  have g1 : (0 : Int) ≤ (N : Int) := Int.natCast_nonneg _
  have g2 : 1 * (N : Int) ≤ 140737488351232 := by omega
  have g3 : (N : Int) ≤ 9223372036854775807 := by omega
  have g4 : (0 : Int) ≤ (k : Int) := Int.natCast_nonneg _
  have g5 : (k : Int) < (N : Int) := by omega
  have hmk := made_bytes N
  have hlone : (byC (rowB 32 N N)).set k (.d (.int .u8 c.toNat)) = byC (loneS k c) := by
    rw [byC_set]
    simp only [← hN, rowB, Nat.sub_self, List.replicate_zero, List.append_nil, loneS]
    rw [List.replicate_succ', List.set_append_right _ _ (by simp)]
    simp
  have hrl := rowB_len 32 (Nat.le_refl N)
  have hll := lone_len k c
  have htk : (byC (loneS k c)).take N = byC (loneS k c) := List.take_of_length_le (by rw [byC_len, hll, hN]; exact Nat.le_refl _)
  have hon := byC_one (loneS k c)
  have hby := byC_bytes (loneS k c)
  have k1 := all_pure (s := loneS k c) (by rw [hll]; exact Nat.le_trans (by omega : _ ≤ 8) (by decide))
  have k2 := refAll_pure (s := loneS k c) (by rw [hll]; exact Nat.le_trans (by omega : _ ≤ 8) (by decide))
  have hall : (spB c = true → ∃ t, allW (loneS k c) = ([t], 0, 0)) ∧ (spB c = false → (beginsB c = true → ∃ t u, allW (loneS k c) = ([t, u], 0, 0)) ∧ (beginsB c = false → allW (loneS k c) = ([], 4, k))) := by
    have hsp : spB c = true ↔ (blankB c = true ∨ c = 35) := by simp [spB]
    refine ⟨fun h => ⟨_, lone_blank k hk7 c (hsp.1 h)⟩, fun h => ?_⟩
    obtain ⟨h1, h2⟩ := lone_tok k hk7 c (fun h' => by rw [hsp.2 h'] at h; cases h)
    exact ⟨fun hb => by obtain ⟨kd, h3⟩ := h1 hb; exact ⟨_, _, h3⟩, h2⟩
  have hexcl : spB c = true → beginsB c = false := by
    intro h
    rcases (sp_cases c).1 h with h | h | h | h
    · rw [u8eq (k := 32) h]; decide
    · rw [u8eq (k := 9) h]; decide
    · rw [u8eq (k := 10) h]; decide
    · rw [u8eq (k := 35) h]; decide
  unfold allV at k1 k2
  generalize hcode : (allW (loneS k c)).2.1 = code at *
  generalize hpl : (allW (loneS k c)).2.2 = pl at *
  have hcnt := allW_count (loneS k c)
  have hX := tokD_sl hcnt
  generalize hl : (allW (loneS k c)).1 = l at *
  generalize tokD l = L at *
  have hlen := hX.len
  refine acalls_of Tryd.func3 ac3_ok Tryd.ntmps3 Tryd.results3 rfl ?_
  unfold ac3
  refine bwp_seq fun K hK => bwp_region rfl ?_
  simp -implicitDefEqProofs only [go_sem, ↓reduceIte, Nat.reduceEqDiff, Nat.reduceAdd, Nat.reduceLeDiff, Nat.reduceMul, Nat.reduceSub, Int.reduceLE, Int.reduceLT, Int.reduceEq, Int.reduceToNat, Int.reducePow, Int.reduceNeg]
  refine hK _ ?_; clear hK
  refine bwp_seq fun K hK => bwp_region rfl ?_
  simp -implicitDefEqProofs only [go_sem, ↓reduceIte, Nat.reduceEqDiff, Nat.reduceAdd, Nat.reduceLeDiff, Nat.reduceMul, Nat.reduceSub, Int.reduceLE, Int.reduceLT, Int.reduceEq, Int.reduceToNat, Int.reducePow, Int.reduceNeg, hk]
  refine hK _ ?_; clear hK
  refine bwp_seq fun K hK => bwp_region rfl ?_
  simp -implicitDefEqProofs only [go_sem, ↓reduceIte, Nat.reduceEqDiff, Nat.reduceAdd, Nat.reduceLeDiff, Nat.reduceMul, Nat.reduceSub, Int.reduceLE, Int.reduceLT, Int.reduceEq, Int.reduceToNat, Int.reducePow, Int.reduceNeg, hw, g1, g2, g3, Int.toNat_natCast, Nat.mul_one, hmk, Int.le_refl]
  refine hK _ ?_; clear hK
  refine bwp_seq fun K1 hK1 => ?_
  refine bwp_seq fun K hK => bwp_region rfl ?_
  simp -implicitDefEqProofs only [go_sem, ↓reduceIte, Nat.reduceEqDiff, Nat.reduceAdd, Nat.reduceLeDiff, Nat.reduceMul, Nat.reduceSub, Int.reduceLE, Int.reduceLT, Int.reduceEq, Int.reduceToNat, Int.reducePow, Int.reduceNeg]
  refine hK _ ?_; clear hK
  refine bwp_block ?_
  have h0 : rowB 32 0 N = List.replicate N 0 := by simp [rowB]
  refine bwp_leads (S' := loS c.toNat k N 0 []) (Leads.ent [(0, 0)] ⟨by simp [entT, fget, AV.ren, renL, pget, loS, h0], by simp [entM, pinv, mget, mset, renL, AV.ren, pget, renL_append, -List.map_map, loS, h0], rfl, rfl⟩) ?_
  refine lo_loop0 (n := N) (by omega) ?_
  unfold loS
  simp -implicitDefEqProofs only [go_sem, ↓reduceIte, Nat.reduceEqDiff, Nat.reduceAdd, Nat.reduceLeDiff, Nat.reduceMul, Nat.reduceSub, Int.reduceLE, Int.reduceLT, Int.reduceEq, Int.reduceToNat, Int.reducePow, Int.reduceNeg]
  refine hK1 _ ?_; clear hK1
  have g6 : k + 1 ≤ N := by omega
  refine bwp_seq fun K hK => bwp_region rfl ?_
  simp -implicitDefEqProofs only [go_sem, ↓reduceIte, Nat.reduceEqDiff, Nat.reduceAdd, Nat.reduceLeDiff, Nat.reduceMul, Nat.reduceSub, Int.reduceLE, Int.reduceLT, Int.reduceEq, Int.reduceToNat, Int.reducePow, Int.reduceNeg, g4, g5, g6, Int.toNat_natCast, Nat.mul_one, hrl, hlone]
  refine hK _ ?_; clear hK
  generalize hcs : byC (loneS k c) = cs at *
  have hcl : cs.length = N := by rw [← hcs, byC_len, hll, hN]
  refine bwp_seq fun K hK => bwp_region rfl ?_
  simp -implicitDefEqProofs only [go_sem, ↓reduceIte, Nat.reduceEqDiff, Nat.reduceAdd, Nat.reduceLeDiff, Nat.reduceMul, Nat.reduceSub, Int.reduceLE, Int.reduceLT, Int.reduceEq, Int.reduceToNat, Int.reducePow, Int.reduceNeg, htk, hon, hby, hcl, Nat.mul_one]
  repeat' (first
    | (refine gateK_split (fun hb => ?_) (fun hb => ?_) <;> simp -implicitDefEqProofs only [go_sem, ↓reduceIte, Nat.reduceEqDiff, Nat.reduceAdd, Nat.reduceLeDiff, Nat.reduceMul, Nat.reduceSub, Int.reduceLE, Int.reduceLT, Int.reduceEq, Int.reduceToNat, Int.reducePow, Int.reduceNeg, hb, htk, hon, hby, hcl, Nat.mul_one])
    | (refine dGateK_split (fun hb => ?_) (fun hb => ?_) <;> simp -implicitDefEqProofs only [go_sem, ↓reduceIte, Nat.reduceEqDiff, Nat.reduceAdd, Nat.reduceLeDiff, Nat.reduceMul, Nat.reduceSub, Int.reduceLE, Int.reduceLT, Int.reduceEq, Int.reduceToNat, Int.reducePow, Int.reduceNeg, hb, htk, hon, hby, hcl, Nat.mul_one])
    | (refine callK_pure (k1) rfl rfl ?_; simp -implicitDefEqProofs only [go_sem, ↓reduceIte, Nat.reduceEqDiff, Nat.reduceAdd, Nat.reduceLeDiff, Nat.reduceMul, Nat.reduceSub, Int.reduceLE, Int.reduceLT, Int.reduceEq, Int.reduceToNat, Int.reducePow, Int.reduceNeg, htk, hon, hby, hcl, Nat.mul_one])
    | (refine dCallK_pure (k1) rfl rfl ?_; simp -implicitDefEqProofs only [go_sem, ↓reduceIte, Nat.reduceEqDiff, Nat.reduceAdd, Nat.reduceLeDiff, Nat.reduceMul, Nat.reduceSub, Int.reduceLE, Int.reduceLT, Int.reduceEq, Int.reduceToNat, Int.reducePow, Int.reduceNeg, htk, hon, hby, hcl, Nat.mul_one])
    | (rw [if_pos (by (try simp only [List.length_append, List.length_cons, List.length_nil, List.length_map]); omega)]; simp -implicitDefEqProofs only [go_sem, ↓reduceIte, Nat.reduceEqDiff, Nat.reduceAdd, Nat.reduceLeDiff, Nat.reduceMul, Nat.reduceSub, Int.reduceLE, Int.reduceLT, Int.reduceEq, Int.reduceToNat, Int.reducePow, Int.reduceNeg, htk, hon, hby, hcl, Nat.mul_one]))
  refine hK _ ?_; clear hK
  refine bwp_seq fun K hK => bwp_region rfl ?_
  simp -implicitDefEqProofs only [go_sem, ↓reduceIte, Nat.reduceEqDiff, Nat.reduceAdd, Nat.reduceLeDiff, Nat.reduceMul, Nat.reduceSub, Int.reduceLE, Int.reduceLT, Int.reduceEq, Int.reduceToNat, Int.reducePow, Int.reduceNeg, htk, hon, hby, hcl, Nat.mul_one]
  repeat' (first
    | (refine gateK_split (fun hb => ?_) (fun hb => ?_) <;> simp -implicitDefEqProofs only [go_sem, ↓reduceIte, Nat.reduceEqDiff, Nat.reduceAdd, Nat.reduceLeDiff, Nat.reduceMul, Nat.reduceSub, Int.reduceLE, Int.reduceLT, Int.reduceEq, Int.reduceToNat, Int.reducePow, Int.reduceNeg, hb, htk, hon, hby, hcl, Nat.mul_one])
    | (refine dGateK_split (fun hb => ?_) (fun hb => ?_) <;> simp -implicitDefEqProofs only [go_sem, ↓reduceIte, Nat.reduceEqDiff, Nat.reduceAdd, Nat.reduceLeDiff, Nat.reduceMul, Nat.reduceSub, Int.reduceLE, Int.reduceLT, Int.reduceEq, Int.reduceToNat, Int.reducePow, Int.reduceNeg, hb, htk, hon, hby, hcl, Nat.mul_one])
    | (refine callK_pure (k2) rfl rfl ?_; simp -implicitDefEqProofs only [go_sem, ↓reduceIte, Nat.reduceEqDiff, Nat.reduceAdd, Nat.reduceLeDiff, Nat.reduceMul, Nat.reduceSub, Int.reduceLE, Int.reduceLT, Int.reduceEq, Int.reduceToNat, Int.reducePow, Int.reduceNeg, htk, hon, hby, hcl, Nat.mul_one])
    | (refine dCallK_pure (k2) rfl rfl ?_; simp -implicitDefEqProofs only [go_sem, ↓reduceIte, Nat.reduceEqDiff, Nat.reduceAdd, Nat.reduceLeDiff, Nat.reduceMul, Nat.reduceSub, Int.reduceLE, Int.reduceLT, Int.reduceEq, Int.reduceToNat, Int.reducePow, Int.reduceNeg, htk, hon, hby, hcl, Nat.mul_one])
    | (rw [if_pos (by (try simp only [List.length_append, List.length_cons, List.length_nil, List.length_map]); omega)]; simp -implicitDefEqProofs only [go_sem, ↓reduceIte, Nat.reduceEqDiff, Nat.reduceAdd, Nat.reduceLeDiff, Nat.reduceMul, Nat.reduceSub, Int.reduceLE, Int.reduceLT, Int.reduceEq, Int.reduceToNat, Int.reducePow, Int.reduceNeg, htk, hon, hby, hcl, Nat.mul_one]))
  refine hK _ ?_; clear hK
  refine bwp_seq fun K1 hK1 => ?_
  refine bwp_seq fun K hK => bwp_region rfl ?_
  simp -implicitDefEqProofs only [go_sem, ↓reduceIte, Nat.reduceEqDiff, Nat.reduceAdd, Nat.reduceLeDiff, Nat.reduceMul, Nat.reduceSub, Int.reduceLE, Int.reduceLT, Int.reduceEq, Int.reduceToNat, Int.reducePow, Int.reduceNeg, hlen, decide_true, Bool.not_true, bne_self_eq_false]
  refine hK _ ?_; clear hK
  refine bwp_cond false (by simp [ev, fget]) (fun h => nomatch h) (fun _ => ?_)
  refine bwp_skip ?_
  refine hK1 _ ?_; clear hK1
  refine bwp_leads (S' := lpS c k L code pl []) (Leads.ent [(1, 0)] ⟨by simp [entT, fget, AV.ren, renL, pget, lpS], by simp [entM, pinv, mget, mset, renL, AV.ren, pget, renL_append, -List.map_map, lpS], rfl, rfl⟩) ?_
  unfold lpS
  refine bwp_seq fun K1 hK1 => ?_
  have fin1 : ∀ (S : St), Leads (mbound []) 124 S (lpS c k L code pl [(11, .d (.bool (spB c)))]) → K1 S := by
    intro S hS
    refine hK1 _ ?_; clear hK1
    refine bwp_leads hS ?_
    unfold lpS
    refine bwp_seq fun K1 hK1 => ?_
    have fin2 : ∀ (S : St), Leads (mbound []) 124 S (lpS c k L code pl [(12, .d (.bool (letB c || digB c))), (11, .d (.bool (spB c)))]) → K1 S := by
      intro S hS
      refine hK1 _ ?_; clear hK1
      refine bwp_leads hS ?_
      unfold lpS
      refine bwp_seq fun K1 hK1 => ?_
      refine bwp_seq fun K2 hK2 => ?_
      refine bwp_region rfl ?_
      simp -implicitDefEqProofs only [go_sem, ↓reduceIte, Nat.reduceEqDiff, Nat.reduceAdd, Nat.reduceLeDiff, Nat.reduceMul, Nat.reduceSub, Int.reduceLE, Int.reduceLT, Int.reduceEq, Int.reduceToNat, Int.reducePow, Int.reduceNeg]
      refine hK2 _ ?_; clear hK2
      refine bwp_block ?_
      refine bwp_leads (S' := beS c k (letB c || digB c) (spB c) 0 L code pl) (Leads.ent [(0, 0)] ⟨by simp [entT, fget, AV.ren, renL, pget, beS], by simp [entM, pinv, mget, mset, renL, AV.ren, pget, renL_append, -List.map_map, beS], rfl, rfl⟩) ?_
      refine lo_loop1 ?_
      unfold beS
      simp -implicitDefEqProofs only [go_sem, ↓reduceIte, Nat.reduceEqDiff, Nat.reduceAdd, Nat.reduceLeDiff, Nat.reduceMul, Nat.reduceSub, Int.reduceLE, Int.reduceLT, Int.reduceEq, Int.reduceToNat, Int.reducePow, Int.reduceNeg]
      refine hK1 _ ?_; clear hK1
      rw [← begins_eq]
      have hk' : (k : Int) = (k : Int) := rfl
      obtain ⟨ha, hb⟩ := hall
      cases hsp : spB c with
      | true =>
        obtain ⟨t, ht⟩ := ha hsp
        rw [hexcl hsp]
        rw [ht] at hcode hpl hl
        subst hcode
        subst hl
        refine bwp_seq fun K hK => bwp_region rfl ?_
        simp -implicitDefEqProofs only [go_sem, ↓reduceIte, Nat.reduceEqDiff, Nat.reduceAdd, Nat.reduceLeDiff, Nat.reduceMul, Nat.reduceSub, Int.reduceLE, Int.reduceLT, Int.reduceEq, Int.reduceToNat, Int.reducePow, Int.reduceNeg, hlen]
        repeat' (first
          | (refine gateK_split (fun hb => ?_) (fun hb => ?_) <;> simp -implicitDefEqProofs only [go_sem, ↓reduceIte, Nat.reduceEqDiff, Nat.reduceAdd, Nat.reduceLeDiff, Nat.reduceMul, Nat.reduceSub, Int.reduceLE, Int.reduceLT, Int.reduceEq, Int.reduceToNat, Int.reducePow, Int.reduceNeg, hb, hlen])
          | (refine dGateK_split (fun hb => ?_) (fun hb => ?_) <;> simp -implicitDefEqProofs only [go_sem, ↓reduceIte, Nat.reduceEqDiff, Nat.reduceAdd, Nat.reduceLeDiff, Nat.reduceMul, Nat.reduceSub, Int.reduceLE, Int.reduceLT, Int.reduceEq, Int.reduceToNat, Int.reducePow, Int.reduceNeg, hb, hlen])
          | (refine callK_pure (awake2_pure) rfl rfl ?_; simp -implicitDefEqProofs only [go_sem, ↓reduceIte, Nat.reduceEqDiff, Nat.reduceAdd, Nat.reduceLeDiff, Nat.reduceMul, Nat.reduceSub, Int.reduceLE, Int.reduceLT, Int.reduceEq, Int.reduceToNat, Int.reducePow, Int.reduceNeg, hlen])
          | (refine dCallK_pure (awake2_pure) rfl rfl ?_; simp -implicitDefEqProofs only [go_sem, ↓reduceIte, Nat.reduceEqDiff, Nat.reduceAdd, Nat.reduceLeDiff, Nat.reduceMul, Nat.reduceSub, Int.reduceLE, Int.reduceLT, Int.reduceEq, Int.reduceToNat, Int.reducePow, Int.reduceNeg, hlen])
          | (rw [if_pos (by (try simp only [List.length_append, List.length_cons, List.length_nil, List.length_map]); omega)]; simp -implicitDefEqProofs only [go_sem, ↓reduceIte, Nat.reduceEqDiff, Nat.reduceAdd, Nat.reduceLeDiff, Nat.reduceMul, Nat.reduceSub, Int.reduceLE, Int.reduceLT, Int.reduceEq, Int.reduceToNat, Int.reducePow, Int.reduceNeg, hlen]))
        refine hK _ ?_; clear hK
        refine bwp_ret ?_
        simp only [go_sem]
        refine aend_ret _ rfl rfl ⟨?_, rfl⟩
        simp [fget]
      | false =>
        obtain ⟨hb1, hb2⟩ := hb hsp
        cases hbe : beginsB c with
        | true =>
          obtain ⟨t, u, ht⟩ := hb1 hbe
          rw [ht] at hcode hpl hl
          subst hcode
          refine bwp_seq fun K hK => bwp_region rfl ?_
          simp -implicitDefEqProofs only [go_sem, ↓reduceIte, Nat.reduceEqDiff, Nat.reduceAdd, Nat.reduceLeDiff, Nat.reduceMul, Nat.reduceSub, Int.reduceLE, Int.reduceLT, Int.reduceEq, Int.reduceToNat, Int.reducePow, Int.reduceNeg, hlen]
          repeat' (first
            | (refine gateK_split (fun hb => ?_) (fun hb => ?_) <;> simp -implicitDefEqProofs only [go_sem, ↓reduceIte, Nat.reduceEqDiff, Nat.reduceAdd, Nat.reduceLeDiff, Nat.reduceMul, Nat.reduceSub, Int.reduceLE, Int.reduceLT, Int.reduceEq, Int.reduceToNat, Int.reducePow, Int.reduceNeg, hb, hlen])
            | (refine dGateK_split (fun hb => ?_) (fun hb => ?_) <;> simp -implicitDefEqProofs only [go_sem, ↓reduceIte, Nat.reduceEqDiff, Nat.reduceAdd, Nat.reduceLeDiff, Nat.reduceMul, Nat.reduceSub, Int.reduceLE, Int.reduceLT, Int.reduceEq, Int.reduceToNat, Int.reducePow, Int.reduceNeg, hb, hlen])
            | (refine callK_pure (awake2_pure) rfl rfl ?_; simp -implicitDefEqProofs only [go_sem, ↓reduceIte, Nat.reduceEqDiff, Nat.reduceAdd, Nat.reduceLeDiff, Nat.reduceMul, Nat.reduceSub, Int.reduceLE, Int.reduceLT, Int.reduceEq, Int.reduceToNat, Int.reducePow, Int.reduceNeg, hlen])
            | (refine dCallK_pure (awake2_pure) rfl rfl ?_; simp -implicitDefEqProofs only [go_sem, ↓reduceIte, Nat.reduceEqDiff, Nat.reduceAdd, Nat.reduceLeDiff, Nat.reduceMul, Nat.reduceSub, Int.reduceLE, Int.reduceLT, Int.reduceEq, Int.reduceToNat, Int.reducePow, Int.reduceNeg, hlen])
            | (rw [if_pos (by (try simp only [List.length_append, List.length_cons, List.length_nil, List.length_map]); omega)]; simp -implicitDefEqProofs only [go_sem, ↓reduceIte, Nat.reduceEqDiff, Nat.reduceAdd, Nat.reduceLeDiff, Nat.reduceMul, Nat.reduceSub, Int.reduceLE, Int.reduceLT, Int.reduceEq, Int.reduceToNat, Int.reducePow, Int.reduceNeg, hlen]))
          refine hK _ ?_; clear hK
          refine bwp_ret ?_
          simp only [go_sem]
          refine aend_ret _ rfl rfl ⟨?_, rfl⟩
          simp [fget]
        | false =>
          have ht := hb2 hbe
          rw [ht] at hcode hpl hl
          subst hcode
          have hp : (pl : Int) = (k : Int) := by rw [← hpl]
          refine bwp_seq fun K hK => bwp_region rfl ?_
          simp -implicitDefEqProofs only [go_sem, ↓reduceIte, Nat.reduceEqDiff, Nat.reduceAdd, Nat.reduceLeDiff, Nat.reduceMul, Nat.reduceSub, Int.reduceLE, Int.reduceLT, Int.reduceEq, Int.reduceToNat, Int.reducePow, Int.reduceNeg, hlen, hp, decide_true]
          repeat' (first
            | (refine gateK_split (fun hb => ?_) (fun hb => ?_) <;> simp -implicitDefEqProofs only [go_sem, ↓reduceIte, Nat.reduceEqDiff, Nat.reduceAdd, Nat.reduceLeDiff, Nat.reduceMul, Nat.reduceSub, Int.reduceLE, Int.reduceLT, Int.reduceEq, Int.reduceToNat, Int.reducePow, Int.reduceNeg, hb, hlen, hp, decide_true])
            | (refine dGateK_split (fun hb => ?_) (fun hb => ?_) <;> simp -implicitDefEqProofs only [go_sem, ↓reduceIte, Nat.reduceEqDiff, Nat.reduceAdd, Nat.reduceLeDiff, Nat.reduceMul, Nat.reduceSub, Int.reduceLE, Int.reduceLT, Int.reduceEq, Int.reduceToNat, Int.reducePow, Int.reduceNeg, hb, hlen, hp, decide_true])
            | (refine callK_pure (awake2_pure) rfl rfl ?_; simp -implicitDefEqProofs only [go_sem, ↓reduceIte, Nat.reduceEqDiff, Nat.reduceAdd, Nat.reduceLeDiff, Nat.reduceMul, Nat.reduceSub, Int.reduceLE, Int.reduceLT, Int.reduceEq, Int.reduceToNat, Int.reducePow, Int.reduceNeg, hlen, hp, decide_true])
            | (refine dCallK_pure (awake2_pure) rfl rfl ?_; simp -implicitDefEqProofs only [go_sem, ↓reduceIte, Nat.reduceEqDiff, Nat.reduceAdd, Nat.reduceLeDiff, Nat.reduceMul, Nat.reduceSub, Int.reduceLE, Int.reduceLT, Int.reduceEq, Int.reduceToNat, Int.reducePow, Int.reduceNeg, hlen, hp, decide_true])
            | (rw [if_pos (by (try simp only [List.length_append, List.length_cons, List.length_nil, List.length_map]); omega)]; simp -implicitDefEqProofs only [go_sem, ↓reduceIte, Nat.reduceEqDiff, Nat.reduceAdd, Nat.reduceLeDiff, Nat.reduceMul, Nat.reduceSub, Int.reduceLE, Int.reduceLT, Int.reduceEq, Int.reduceToNat, Int.reducePow, Int.reduceNeg, hlen, hp, decide_true]))
          refine hK _ ?_; clear hK
          refine bwp_ret ?_
          simp only [go_sem]
          refine aend_ret _ rfl rfl ⟨?_, rfl⟩
          simp [fget]
    have hbe := be_lets c
    by_cases h1 : (97 : Int) ≤ c.toNat
    · by_cases h2 : (c.toNat : Int) ≤ 122
      · have hz : (letB c || digB c) = true := hbe.2 (.inl ⟨h1, h2⟩)
        refine bwp_region rfl ?_
        simp -implicitDefEqProofs only [go_sem, ↓reduceIte, Nat.reduceEqDiff, Nat.reduceAdd, Nat.reduceLeDiff, Nat.reduceMul, Nat.reduceSub, Int.reduceLE, Int.reduceLT, Int.reduceEq, Int.reduceToNat, Int.reducePow, Int.reduceNeg, h1, h2]
        exact fin2 _ (Leads.ent [(0, 0)] ⟨by simp [entT, fget, AV.ren, renL, pget, lpS, hz], by simp [entM, pinv, mget, mset, mdel, renL, AV.ren, pget, renL_append, -List.map_map, lpS, hz], rfl, rfl⟩)
      · have h3 : (48 : Int) ≤ c.toNat := by omega
        have h4 : ¬ (c.toNat : Int) ≤ 57 := by omega
        have hz : (letB c || digB c) = false := by rw [← Bool.not_eq_true, hbe]; omega
        refine bwp_region rfl ?_
        simp -implicitDefEqProofs only [go_sem, ↓reduceIte, Nat.reduceEqDiff, Nat.reduceAdd, Nat.reduceLeDiff, Nat.reduceMul, Nat.reduceSub, Int.reduceLE, Int.reduceLT, Int.reduceEq, Int.reduceToNat, Int.reducePow, Int.reduceNeg, h1, h2, h3, h4]
        exact fin2 _ (Leads.ent [(0, 0)] ⟨by simp [entT, fget, AV.ren, renL, pget, lpS, hz], by simp [entM, pinv, mget, mset, mdel, renL, AV.ren, pget, renL_append, -List.map_map, lpS, hz], rfl, rfl⟩)
    · by_cases h3 : (48 : Int) ≤ c.toNat
      · by_cases h4 : (c.toNat : Int) ≤ 57
        · have hz : (letB c || digB c) = true := hbe.2 (.inr ⟨h3, h4⟩)
          refine bwp_region rfl ?_
          simp -implicitDefEqProofs only [go_sem, ↓reduceIte, Nat.reduceEqDiff, Nat.reduceAdd, Nat.reduceLeDiff, Nat.reduceMul, Nat.reduceSub, Int.reduceLE, Int.reduceLT, Int.reduceEq, Int.reduceToNat, Int.reducePow, Int.reduceNeg, h1, h3, h4]
          exact fin2 _ (Leads.ent [(0, 0)] ⟨by simp [entT, fget, AV.ren, renL, pget, lpS, hz], by simp [entM, pinv, mget, mset, mdel, renL, AV.ren, pget, renL_append, -List.map_map, lpS, hz], rfl, rfl⟩)
        · have hz : (letB c || digB c) = false := by rw [← Bool.not_eq_true, hbe]; omega
          refine bwp_region rfl ?_
          simp -implicitDefEqProofs only [go_sem, ↓reduceIte, Nat.reduceEqDiff, Nat.reduceAdd, Nat.reduceLeDiff, Nat.reduceMul, Nat.reduceSub, Int.reduceLE, Int.reduceLT, Int.reduceEq, Int.reduceToNat, Int.reducePow, Int.reduceNeg, h1, h3, h4]
          exact fin2 _ (Leads.ent [(0, 0)] ⟨by simp [entT, fget, AV.ren, renL, pget, lpS, hz], by simp [entM, pinv, mget, mset, mdel, renL, AV.ren, pget, renL_append, -List.map_map, lpS, hz], rfl, rfl⟩)
      · have hz : (letB c || digB c) = false := by rw [← Bool.not_eq_true, hbe]; omega
        refine bwp_region rfl ?_
        simp -implicitDefEqProofs only [go_sem, ↓reduceIte, Nat.reduceEqDiff, Nat.reduceAdd, Nat.reduceLeDiff, Nat.reduceMul, Nat.reduceSub, Int.reduceLE, Int.reduceLT, Int.reduceEq, Int.reduceToNat, Int.reducePow, Int.reduceNeg, h1, h3]
        exact fin2 _ (Leads.ent [(0, 0)] ⟨by simp [entT, fget, AV.ren, renL, pget, lpS, hz], by simp [entM, pinv, mget, mset, mdel, renL, AV.ren, pget, renL_append, -List.map_map, lpS, hz], rfl, rfl⟩)
  have hs := sp_cases c
  by_cases h1 : (c.toNat : Int) = 32
  · have hz : spB c = true := hs.2 (.inl h1)
    refine bwp_region rfl ?_
    simp -implicitDefEqProofs only [go_sem, ↓reduceIte, Nat.reduceEqDiff, Nat.reduceAdd, Nat.reduceLeDiff, Nat.reduceMul, Nat.reduceSub, Int.reduceLE, Int.reduceLT, Int.reduceEq, Int.reduceToNat, Int.reducePow, Int.reduceNeg, h1]
    exact fin1 _ (Leads.ent [(0, 0)] ⟨by simp [entT, fget, AV.ren, renL, pget, lpS, hz, h1], by simp [entM, pinv, mget, mset, mdel, renL, AV.ren, pget, renL_append, -List.map_map, lpS, hz, h1], rfl, rfl⟩)
  · by_cases h2 : (c.toNat : Int) = 9
    · have hz : spB c = true := hs.2 (.inr (.inl h2))
      refine bwp_region rfl ?_
      simp -implicitDefEqProofs only [go_sem, ↓reduceIte, Nat.reduceEqDiff, Nat.reduceAdd, Nat.reduceLeDiff, Nat.reduceMul, Nat.reduceSub, Int.reduceLE, Int.reduceLT, Int.reduceEq, Int.reduceToNat, Int.reducePow, Int.reduceNeg, h1, h2]
      exact fin1 _ (Leads.ent [(0, 0)] ⟨by simp [entT, fget, AV.ren, renL, pget, lpS, hz, h2], by simp [entM, pinv, mget, mset, mdel, renL, AV.ren, pget, renL_append, -List.map_map, lpS, hz, h2], rfl, rfl⟩)
    · by_cases h3 : (c.toNat : Int) = 10
      · have hz : spB c = true := hs.2 (.inr (.inr (.inl h3)))
        refine bwp_region rfl ?_
        simp -implicitDefEqProofs only [go_sem, ↓reduceIte, Nat.reduceEqDiff, Nat.reduceAdd, Nat.reduceLeDiff, Nat.reduceMul, Nat.reduceSub, Int.reduceLE, Int.reduceLT, Int.reduceEq, Int.reduceToNat, Int.reducePow, Int.reduceNeg, h1, h2, h3]
        exact fin1 _ (Leads.ent [(0, 0)] ⟨by simp [entT, fget, AV.ren, renL, pget, lpS, hz, h3], by simp [entM, pinv, mget, mset, mdel, renL, AV.ren, pget, renL_append, -List.map_map, lpS, hz, h3], rfl, rfl⟩)
      · by_cases h4 : (c.toNat : Int) = 35
        · have hz : spB c = true := hs.2 (.inr (.inr (.inr h4)))
          refine bwp_region rfl ?_
          simp -implicitDefEqProofs only [go_sem, ↓reduceIte, Nat.reduceEqDiff, Nat.reduceAdd, Nat.reduceLeDiff, Nat.reduceMul, Nat.reduceSub, Int.reduceLE, Int.reduceLT, Int.reduceEq, Int.reduceToNat, Int.reducePow, Int.reduceNeg, h1, h2, h3, h4]
          exact fin1 _ (Leads.ent [(0, 0)] ⟨by simp [entT, fget, AV.ren, renL, pget, lpS, hz, h4], by simp [entM, pinv, mget, mset, mdel, renL, AV.ren, pget, renL_append, -List.map_map, lpS, hz, h4], rfl, rfl⟩)
        · have hz : spB c = false := by rw [← Bool.not_eq_true, hs]; omega
          refine bwp_region rfl ?_
          simp -implicitDefEqProofs only [go_sem, ↓reduceIte, Nat.reduceEqDiff, Nat.reduceAdd, Nat.reduceLeDiff, Nat.reduceMul, Nat.reduceSub, Int.reduceLE, Int.reduceLT, Int.reduceEq, Int.reduceToNat, Int.reducePow, Int.reduceNeg, h1, h2, h3, h4]
          exact fin1 _ (Leads.ent [(0, 0)] ⟨by simp [entT, fget, AV.ren, renL, pget, lpS, hz], by simp [entM, pinv, mget, mset, mdel, renL, AV.ren, pget, renL_append, -List.map_map, lpS, hz], rfl, rfl⟩)

theorem u8_of {m : Int} (h : 0 ≤ m ∧ m ≤ 255) : ∃ c : UInt8, m = (c.toNat : Int) := ⟨UInt8.ofNat m.toNat, by rw [UInt8.toNat_ofNat']; omega⟩

theorem lexOne_pure {m : Int} (hm : 0 ≤ m ∧ m ≤ 255) {n : Int} (_ : I64 n) : Pure Tryd.prog 3 [.d (.int .u8 m), .d (.int .i64 n)] (.d (.bool true)) := by
  obtain ⟨c, rfl⟩ := u8_of hm
  exact lexOne_u8

/-! ### LexBounds -/

def lbS (c : Int) (n : Nat) (x : UInt8) (i : Nat) (ex : Fr) : St := ⟨ex ++ [(18, .d (.int .i64 i)), (17, .d (.int .i64 n)), (5, .sl 0 1 0 n), (0, .d (.int .i64 n)), (1, .d (.int .u8 c))], [(0, byC (rowB x i n))], 1⟩

def blanks4 : List UInt8 := [32, 9, 10, 35]

set_option maxHeartbeats 4000000 in
theorem lb_loop {c : Int} {n : Nat} (hn : n ≤ 4100) {q : Nat} (hq : bits .and .u8 c 3 = (q : Int)) (hq3 : q < 4) {Q : Exit → St → Prop} (hQ : Q (.exit 0) (lbS c n (blanks4.getD q 0) n [])) :
    BWP Tryd.prog (mbound []) 80 (.loop ac8L0) (lbS c n (blanks4.getD q 0) 0 []) Q := by
  generalize hx : blanks4.getD q 0 = x at *
  refine bwp_count (fun i => lbS c n x i []) n ?_
  intro i hi
  unfold ac8L0 lbS
  have hl := rowB_len x hi
  by_cases hlt : i < n
  · have hlt' : (i : Int) < n := by omega
    have hw : IntKind.i64.wrap ((i : Int) + 1) = ((i + 1 : Nat) : Int) := by rw [wrap_i64 (by omega) (by omega)]; rfl
    have hst := rowB_set x hlt
    have hs : (byC (rowB x i n)).set i (.d (.int .u8 x.toNat)) = byC (rowB x (i + 1) n) := by rw [← hst, ← byC_set]
    have b0 : (0 : Int) ≤ (i : Int) := Int.natCast_nonneg _
    have b1 : i + 1 ≤ n := hlt
    have b2 : (0 : Int) ≤ (q : Int) := Int.natCast_nonneg _
    have b3 : (q : Int) < 4 := by omega
    have b4 : (q : Int) < ((blanks4.length : Nat) : Int) := by show (q : Int) < 4; omega
    have hos : ([32, 9, 10, 35] : List UInt8) = blanks4 := rfl
    refine bwp_seq fun K hK => bwp_region rfl ?_
    simp -implicitDefEqProofs only [go_sem, ↓reduceIte, Nat.reduceEqDiff, Nat.reduceAdd, Nat.reduceLeDiff, Nat.reduceMul, Nat.reduceSub, Int.reduceLE, Int.reduceLT, Int.reduceEq, Int.reduceToNat, Int.reducePow, Int.reduceNeg, hlt']
    refine hK _ ?_; clear hK
    refine bwp_seq fun K1 hK1 => ?_
    refine bwp_cond true (by simp [ev, fget]) (fun _ => ?_) (fun h => nomatch h)
    refine bwp_skip ?_
    refine hK1 _ ?_; clear hK1
    refine bwp_seq fun K1 hK1 => ?_
    refine bwp_block ?_
    refine bwp_seq fun K hK => bwp_region rfl ?_
    simp -implicitDefEqProofs only [go_sem, ↓reduceIte, Nat.reduceEqDiff, Nat.reduceAdd, Nat.reduceLeDiff, Nat.reduceMul, Nat.reduceSub, Int.reduceLE, Int.reduceLT, Int.reduceEq, Int.reduceToNat, Int.reducePow, Int.reduceNeg]
    refine hK _ ?_; clear hK
    refine bwp_region rfl ?_
    simp -implicitDefEqProofs only [go_sem, ↓reduceIte, Nat.reduceEqDiff, Nat.reduceAdd, Nat.reduceLeDiff, Nat.reduceMul, Nat.reduceSub, Int.reduceLE, Int.reduceLT, Int.reduceEq, Int.reduceToNat, Int.reducePow, Int.reduceNeg, hlt', b0, b2, hq, b3, b4, Int.toNat_natCast, hl, Nat.mul_one, b1, hos, hx, hs]
    refine hK1 _ ?_; clear hK1
    refine bwp_region rfl ?_
    simp -implicitDefEqProofs only [go_sem, ↓reduceIte, Nat.reduceEqDiff, Nat.reduceAdd, Nat.reduceLeDiff, Nat.reduceMul, Nat.reduceSub, Int.reduceLE, Int.reduceLT, Int.reduceEq, Int.reduceToNat, Int.reducePow, Int.reduceNeg, hw]
    exact ⟨hlt, (Leads.ent [(0, 0)] ⟨by simp [entT, fget, AV.ren, renL, pget, lbS], by simp [entM, pinv, mget, mset, renL, AV.ren, pget, renL_append, -List.map_map, lbS], rfl, rfl⟩)⟩
  · have hlt' : ¬ (i : Int) < n := by omega
    have he : i = n := by omega
    subst he
    refine bwp_seq fun K hK => bwp_region rfl ?_
    simp -implicitDefEqProofs only [go_sem, ↓reduceIte, Nat.reduceEqDiff, Nat.reduceAdd, Nat.reduceLeDiff, Nat.reduceMul, Nat.reduceSub, Int.reduceLE, Int.reduceLT, Int.reduceEq, Int.reduceToNat, Int.reducePow, Int.reduceNeg, hlt']
    refine hK _ ?_; clear hK
    refine bwp_seq fun K1 hK1 => ?_
    refine bwp_cond false (by simp [ev, fget]) (fun h => nomatch h) (fun _ => ?_)
    refine bwp_leads (S' := lbS c i x i []) (Leads.ent [(0, 0)] ⟨by simp [entT, fget, AV.ren, renL, pget, lbS], by simp [entM, pinv, mget, mset, renL, AV.ren, pget, renL_append, -List.map_map, lbS], rfl, rfl⟩) ?_
    exact bwp_exit hQ

theorem and_u8 (c : Int) (m : Nat) (hm : m < 256) : ∃ q : Nat, q ≤ m ∧ bits .and .u8 c (m : Int) = (q : Int) := by
  refine ⟨(BitVec.ofInt 8 c).toNat &&& m, Nat.and_le_right, ?_⟩
  have h : (BitVec.ofInt 8 (m : Int)).toNat = m := by simp [BitVec.ofInt_natCast]; omega
  have h2 : ((BitVec.ofInt 8 c).toNat &&& m) ≤ m := Nat.and_le_right
  have e : bits .and .u8 c (m : Int) = IntKind.u8.wrap (((BitVec.ofInt 8 c) &&& (BitVec.ofInt 8 (m : Int))).toNat : Nat) := rfl
  rw [e, BitVec.toNat_and, h]
  exact wrap_u8 (by omega) (by omega)

theorem blank_of (q : Nat) (h : q < 4) : blankB (blanks4.getD q 0) = true ∨ blanks4.getD q 0 = 35 := by
  have : ∀ q : Fin 4, blankB (blanks4.getD q.1 0) = true ∨ blanks4.getD q.1 0 = 35 := by decide
  exact this ⟨q, h⟩

theorem allW_nil : allW [] = ([⟨4, [], 0⟩], 0, 0) := by
  have := row_all 0 (by omega) 32 (.inl rfl)
  exact this

set_option maxHeartbeats 16000000 in
theorem lexBounds_pure {n : Int} (_ : I64 n) {c : Int} (_ : 0 ≤ c ∧ c ≤ 255) : Pure Tryd.prog 8 [.d (.int .i64 n), .d (.int .u8 c)] (.d (.bool true)) := by
  obtain ⟨q1, q2⟩ := and_mask n 15 (by decide)
  have e15 : ((15 : Nat) : Int) = 15 := rfl
  rw [e15] at q1 q2
  obtain ⟨q, hq3, hq⟩ := and_u8 c 3 (by decide)
  have e3 : ((3 : Nat) : Int) = 3 := rfl
  rw [e3] at hq
  obtain ⟨N, hN, hN1, hN2⟩ : ∃ N : Nat, IntKind.i64.wrap (bits .and .i64 n 15 + 3992) = (N : Int) ∧ 3992 ≤ N ∧ N ≤ 4007 := ⟨(bits .and .i64 n 15 + 3992).toNat, by rw [wrap_i64 (by omega) (by omega)]; omega, by omega, by omega⟩
  have g1 : (0 : Int) ≤ (N : Int) := Int.natCast_nonneg _
  have g2 : 1 * (N : Int) ≤ 140737488351232 := by omega
  have g3 : (N : Int) ≤ 9223372036854775807 := by omega
  have hmk := made_bytes N
  have hbl := blank_of q (by omega)
  generalize hx : blanks4.getD q 0 = x at hbl
  have hrow : rowB x N N = List.replicate N x := by simp [rowB]
  have hrl : (List.replicate N x).length = N := List.length_replicate
  have htk : (byC (List.replicate N x)).take N = byC (List.replicate N x) := List.take_of_length_le (by rw [byC_len, hrl]; exact Nat.le_refl _)
  have hon := byC_one (List.replicate N x)
  have hby := byC_bytes (List.replicate N x)
  have k1 := all_pure (s := List.replicate N x) (by rw [hrl]; exact Nat.le_trans hN2 (by decide))
  have k2 := all_pure (s := []) (by decide)
  rw [allW_nil] at k2
  simp only [allV, tokD, List.length_cons, List.length_nil, List.flatMap_cons, List.flatMap_nil, Tok.cells, List.cons_append, List.nil_append, Nat.zero_add, Nat.reduceAdd] at k2
  refine acalls_of Tryd.func8 ac8_ok Tryd.ntmps8 Tryd.results8 rfl ?_
  unfold ac8
  refine bwp_seq fun K hK => bwp_region rfl ?_
  simp -implicitDefEqProofs only [go_sem, ↓reduceIte, Nat.reduceEqDiff, Nat.reduceAdd, Nat.reduceLeDiff, Nat.reduceMul, Nat.reduceSub, Int.reduceLE, Int.reduceLT, Int.reduceEq, Int.reduceToNat, Int.reducePow, Int.reduceNeg]
  refine hK _ ?_; clear hK
  refine bwp_seq fun K hK => bwp_region rfl ?_
  simp -implicitDefEqProofs only [go_sem, ↓reduceIte, Nat.reduceEqDiff, Nat.reduceAdd, Nat.reduceLeDiff, Nat.reduceMul, Nat.reduceSub, Int.reduceLE, Int.reduceLT, Int.reduceEq, Int.reduceToNat, Int.reducePow, Int.reduceNeg, hN]
  refine hK _ ?_; clear hK
  refine bwp_seq fun K hK => bwp_region rfl ?_
  simp -implicitDefEqProofs only [go_sem, ↓reduceIte, Nat.reduceEqDiff, Nat.reduceAdd, Nat.reduceLeDiff, Nat.reduceMul, Nat.reduceSub, Int.reduceLE, Int.reduceLT, Int.reduceEq, Int.reduceToNat, Int.reducePow, Int.reduceNeg, g1, g2, g3, Int.toNat_natCast, Nat.mul_one, hmk, Int.le_refl]
  refine hK _ ?_; clear hK
  refine bwp_seq fun K1 hK1 => ?_
  refine bwp_seq fun K hK => bwp_region rfl ?_
  simp -implicitDefEqProofs only [go_sem, ↓reduceIte, Nat.reduceEqDiff, Nat.reduceAdd, Nat.reduceLeDiff, Nat.reduceMul, Nat.reduceSub, Int.reduceLE, Int.reduceLT, Int.reduceEq, Int.reduceToNat, Int.reducePow, Int.reduceNeg]
  refine hK _ ?_; clear hK
  refine bwp_block ?_
  have h0 : rowB x 0 N = List.replicate N 0 := by simp [rowB]
  refine bwp_leads (S' := lbS c N x 0 []) (Leads.ent [(0, 0)] ⟨by simp [entT, fget, AV.ren, renL, pget, lbS, h0], by simp [entM, pinv, mget, mset, renL, AV.ren, pget, renL_append, -List.map_map, lbS, h0], rfl, rfl⟩) ?_
  rw [← hx]
  refine lb_loop (by omega) hq (by omega) ?_
  rw [hx]
  unfold lbS
  rw [hrow]
  simp -implicitDefEqProofs only [go_sem, ↓reduceIte, Nat.reduceEqDiff, Nat.reduceAdd, Nat.reduceLeDiff, Nat.reduceMul, Nat.reduceSub, Int.reduceLE, Int.reduceLT, Int.reduceEq, Int.reduceToNat, Int.reducePow, Int.reduceNeg]
  refine hK1 _ ?_; clear hK1
  generalize hcs : byC (List.replicate N x) = cs at *
  have hcl : cs.length = N := by rw [← hcs, byC_len, hrl]
  by_cases hbig : 4000 < N
  · have hall : allW (List.replicate N x) = ([], 2, 4000) := by unfold allW; rw [if_pos (by rw [hrl]; exact hbig)]
    rw [hall] at k1
    simp only [allV, tokD] at k1
    have hb' : (4000 : Int) < N := by omega
    refine bwp_seq fun K hK => bwp_region rfl ?_
    simp -implicitDefEqProofs only [go_sem, ↓reduceIte, Nat.reduceEqDiff, Nat.reduceAdd, Nat.reduceLeDiff, Nat.reduceMul, Nat.reduceSub, Int.reduceLE, Int.reduceLT, Int.reduceEq, Int.reduceToNat, Int.reducePow, Int.reduceNeg, htk, hon, hby, hcl, Nat.mul_one]
    repeat' (first
      | (refine gateK_split (fun hb => ?_) (fun hb => ?_) <;> simp -implicitDefEqProofs only [go_sem, ↓reduceIte, Nat.reduceEqDiff, Nat.reduceAdd, Nat.reduceLeDiff, Nat.reduceMul, Nat.reduceSub, Int.reduceLE, Int.reduceLT, Int.reduceEq, Int.reduceToNat, Int.reducePow, Int.reduceNeg, hb, htk, hon, hby, hcl, Nat.mul_one])
      | (refine dGateK_split (fun hb => ?_) (fun hb => ?_) <;> simp -implicitDefEqProofs only [go_sem, ↓reduceIte, Nat.reduceEqDiff, Nat.reduceAdd, Nat.reduceLeDiff, Nat.reduceMul, Nat.reduceSub, Int.reduceLE, Int.reduceLT, Int.reduceEq, Int.reduceToNat, Int.reducePow, Int.reduceNeg, hb, htk, hon, hby, hcl, Nat.mul_one])
      | (refine callK_pure (k1) rfl rfl ?_; simp -implicitDefEqProofs only [go_sem, ↓reduceIte, Nat.reduceEqDiff, Nat.reduceAdd, Nat.reduceLeDiff, Nat.reduceMul, Nat.reduceSub, Int.reduceLE, Int.reduceLT, Int.reduceEq, Int.reduceToNat, Int.reducePow, Int.reduceNeg, htk, hon, hby, hcl, Nat.mul_one])
      | (refine dCallK_pure (k1) rfl rfl ?_; simp -implicitDefEqProofs only [go_sem, ↓reduceIte, Nat.reduceEqDiff, Nat.reduceAdd, Nat.reduceLeDiff, Nat.reduceMul, Nat.reduceSub, Int.reduceLE, Int.reduceLT, Int.reduceEq, Int.reduceToNat, Int.reducePow, Int.reduceNeg, htk, hon, hby, hcl, Nat.mul_one])
      | (rw [if_pos (by (try simp only [List.length_append, List.length_cons, List.length_nil, List.length_map]); omega)]; simp -implicitDefEqProofs only [go_sem, ↓reduceIte, Nat.reduceEqDiff, Nat.reduceAdd, Nat.reduceLeDiff, Nat.reduceMul, Nat.reduceSub, Int.reduceLE, Int.reduceLT, Int.reduceEq, Int.reduceToNat, Int.reducePow, Int.reduceNeg, htk, hon, hby, hcl, Nat.mul_one]))
    refine hK _ ?_; clear hK
    refine bwp_seq fun K hK => bwp_region rfl ?_
    simp -implicitDefEqProofs only [go_sem, ↓reduceIte, Nat.reduceEqDiff, Nat.reduceAdd, Nat.reduceLeDiff, Nat.reduceMul, Nat.reduceSub, Int.reduceLE, Int.reduceLT, Int.reduceEq, Int.reduceToNat, Int.reducePow, Int.reduceNeg]
    repeat' (first
      | (refine gateK_split (fun hb => ?_) (fun hb => ?_) <;> simp -implicitDefEqProofs only [go_sem, ↓reduceIte, Nat.reduceEqDiff, Nat.reduceAdd, Nat.reduceLeDiff, Nat.reduceMul, Nat.reduceSub, Int.reduceLE, Int.reduceLT, Int.reduceEq, Int.reduceToNat, Int.reducePow, Int.reduceNeg, hb])
      | (refine dGateK_split (fun hb => ?_) (fun hb => ?_) <;> simp -implicitDefEqProofs only [go_sem, ↓reduceIte, Nat.reduceEqDiff, Nat.reduceAdd, Nat.reduceLeDiff, Nat.reduceMul, Nat.reduceSub, Int.reduceLE, Int.reduceLT, Int.reduceEq, Int.reduceToNat, Int.reducePow, Int.reduceNeg, hb])
      | (refine callK_pure (k2) rfl rfl ?_; simp -implicitDefEqProofs only [go_sem, ↓reduceIte, Nat.reduceEqDiff, Nat.reduceAdd, Nat.reduceLeDiff, Nat.reduceMul, Nat.reduceSub, Int.reduceLE, Int.reduceLT, Int.reduceEq, Int.reduceToNat, Int.reducePow, Int.reduceNeg])
      | (refine dCallK_pure (k2) rfl rfl ?_; simp -implicitDefEqProofs only [go_sem, ↓reduceIte, Nat.reduceEqDiff, Nat.reduceAdd, Nat.reduceLeDiff, Nat.reduceMul, Nat.reduceSub, Int.reduceLE, Int.reduceLT, Int.reduceEq, Int.reduceToNat, Int.reducePow, Int.reduceNeg])
      | (rw [if_pos (by (try simp only [List.length_append, List.length_cons, List.length_nil, List.length_map]); omega)]; simp -implicitDefEqProofs only [go_sem, ↓reduceIte, Nat.reduceEqDiff, Nat.reduceAdd, Nat.reduceLeDiff, Nat.reduceMul, Nat.reduceSub, Int.reduceLE, Int.reduceLT, Int.reduceEq, Int.reduceToNat, Int.reducePow, Int.reduceNeg]))
    refine hK _ ?_; clear hK
    refine bwp_seq fun K1 hK1 => ?_
    refine bwp_seq fun K hK => bwp_region rfl ?_
    simp -implicitDefEqProofs only [go_sem, ↓reduceIte, Nat.reduceEqDiff, Nat.reduceAdd, Nat.reduceLeDiff, Nat.reduceMul, Nat.reduceSub, Int.reduceLE, Int.reduceLT, Int.reduceEq, Int.reduceToNat, Int.reducePow, Int.reduceNeg, hb']
    refine hK _ ?_; clear hK
    refine bwp_cond true (by simp [ev, fget]) (fun _ => ?_) (fun h => nomatch h)
    refine bwp_seq fun K hK => bwp_region rfl ?_
    simp -implicitDefEqProofs only [go_sem, ↓reduceIte, Nat.reduceEqDiff, Nat.reduceAdd, Nat.reduceLeDiff, Nat.reduceMul, Nat.reduceSub, Int.reduceLE, Int.reduceLT, Int.reduceEq, Int.reduceToNat, Int.reducePow, Int.reduceNeg]
    repeat' (first
      | (refine gateK_split (fun hb => ?_) (fun hb => ?_) <;> simp -implicitDefEqProofs only [go_sem, ↓reduceIte, Nat.reduceEqDiff, Nat.reduceAdd, Nat.reduceLeDiff, Nat.reduceMul, Nat.reduceSub, Int.reduceLE, Int.reduceLT, Int.reduceEq, Int.reduceToNat, Int.reducePow, Int.reduceNeg, hb, decide_true])
      | (refine dGateK_split (fun hb => ?_) (fun hb => ?_) <;> simp -implicitDefEqProofs only [go_sem, ↓reduceIte, Nat.reduceEqDiff, Nat.reduceAdd, Nat.reduceLeDiff, Nat.reduceMul, Nat.reduceSub, Int.reduceLE, Int.reduceLT, Int.reduceEq, Int.reduceToNat, Int.reducePow, Int.reduceNeg, hb, decide_true])
      | (refine callK_pure (awake2_pure) rfl rfl ?_; simp -implicitDefEqProofs only [go_sem, ↓reduceIte, Nat.reduceEqDiff, Nat.reduceAdd, Nat.reduceLeDiff, Nat.reduceMul, Nat.reduceSub, Int.reduceLE, Int.reduceLT, Int.reduceEq, Int.reduceToNat, Int.reducePow, Int.reduceNeg, decide_true])
      | (refine dCallK_pure (awake2_pure) rfl rfl ?_; simp -implicitDefEqProofs only [go_sem, ↓reduceIte, Nat.reduceEqDiff, Nat.reduceAdd, Nat.reduceLeDiff, Nat.reduceMul, Nat.reduceSub, Int.reduceLE, Int.reduceLT, Int.reduceEq, Int.reduceToNat, Int.reducePow, Int.reduceNeg, decide_true])
      | (rw [if_pos (by (try simp only [List.length_append, List.length_cons, List.length_nil, List.length_map]); omega)]; simp -implicitDefEqProofs only [go_sem, ↓reduceIte, Nat.reduceEqDiff, Nat.reduceAdd, Nat.reduceLeDiff, Nat.reduceMul, Nat.reduceSub, Int.reduceLE, Int.reduceLT, Int.reduceEq, Int.reduceToNat, Int.reducePow, Int.reduceNeg, decide_true]))
    refine hK _ ?_; clear hK
    refine bwp_ret ?_
    simp only [go_sem]
    refine aend_ret _ rfl rfl ⟨?_, rfl⟩
    simp [fget]
  · have hall := row_all N (by omega) x hbl
    rw [hall] at k1
    simp only [allV, tokD, List.length_cons, List.length_nil, List.flatMap_cons, List.flatMap_nil, Tok.cells, List.cons_append, List.nil_append, Nat.zero_add, Nat.reduceAdd] at k1
    have hb' : ¬ (4000 : Int) < N := by omega
    refine bwp_seq fun K hK => bwp_region rfl ?_
    simp -implicitDefEqProofs only [go_sem, ↓reduceIte, Nat.reduceEqDiff, Nat.reduceAdd, Nat.reduceLeDiff, Nat.reduceMul, Nat.reduceSub, Int.reduceLE, Int.reduceLT, Int.reduceEq, Int.reduceToNat, Int.reducePow, Int.reduceNeg, htk, hon, hby, hcl, Nat.mul_one]
    repeat' (first
      | (refine gateK_split (fun hb => ?_) (fun hb => ?_) <;> simp -implicitDefEqProofs only [go_sem, ↓reduceIte, Nat.reduceEqDiff, Nat.reduceAdd, Nat.reduceLeDiff, Nat.reduceMul, Nat.reduceSub, Int.reduceLE, Int.reduceLT, Int.reduceEq, Int.reduceToNat, Int.reducePow, Int.reduceNeg, hb, htk, hon, hby, hcl, Nat.mul_one])
      | (refine dGateK_split (fun hb => ?_) (fun hb => ?_) <;> simp -implicitDefEqProofs only [go_sem, ↓reduceIte, Nat.reduceEqDiff, Nat.reduceAdd, Nat.reduceLeDiff, Nat.reduceMul, Nat.reduceSub, Int.reduceLE, Int.reduceLT, Int.reduceEq, Int.reduceToNat, Int.reducePow, Int.reduceNeg, hb, htk, hon, hby, hcl, Nat.mul_one])
      | (refine callK_pure (k1) rfl rfl ?_; simp -implicitDefEqProofs only [go_sem, ↓reduceIte, Nat.reduceEqDiff, Nat.reduceAdd, Nat.reduceLeDiff, Nat.reduceMul, Nat.reduceSub, Int.reduceLE, Int.reduceLT, Int.reduceEq, Int.reduceToNat, Int.reducePow, Int.reduceNeg, htk, hon, hby, hcl, Nat.mul_one])
      | (refine dCallK_pure (k1) rfl rfl ?_; simp -implicitDefEqProofs only [go_sem, ↓reduceIte, Nat.reduceEqDiff, Nat.reduceAdd, Nat.reduceLeDiff, Nat.reduceMul, Nat.reduceSub, Int.reduceLE, Int.reduceLT, Int.reduceEq, Int.reduceToNat, Int.reducePow, Int.reduceNeg, htk, hon, hby, hcl, Nat.mul_one])
      | (rw [if_pos (by (try simp only [List.length_append, List.length_cons, List.length_nil, List.length_map]); omega)]; simp -implicitDefEqProofs only [go_sem, ↓reduceIte, Nat.reduceEqDiff, Nat.reduceAdd, Nat.reduceLeDiff, Nat.reduceMul, Nat.reduceSub, Int.reduceLE, Int.reduceLT, Int.reduceEq, Int.reduceToNat, Int.reducePow, Int.reduceNeg, htk, hon, hby, hcl, Nat.mul_one]))
    refine hK _ ?_; clear hK
    refine bwp_seq fun K hK => bwp_region rfl ?_
    simp -implicitDefEqProofs only [go_sem, ↓reduceIte, Nat.reduceEqDiff, Nat.reduceAdd, Nat.reduceLeDiff, Nat.reduceMul, Nat.reduceSub, Int.reduceLE, Int.reduceLT, Int.reduceEq, Int.reduceToNat, Int.reducePow, Int.reduceNeg]
    repeat' (first
      | (refine gateK_split (fun hb => ?_) (fun hb => ?_) <;> simp -implicitDefEqProofs only [go_sem, ↓reduceIte, Nat.reduceEqDiff, Nat.reduceAdd, Nat.reduceLeDiff, Nat.reduceMul, Nat.reduceSub, Int.reduceLE, Int.reduceLT, Int.reduceEq, Int.reduceToNat, Int.reducePow, Int.reduceNeg, hb])
      | (refine dGateK_split (fun hb => ?_) (fun hb => ?_) <;> simp -implicitDefEqProofs only [go_sem, ↓reduceIte, Nat.reduceEqDiff, Nat.reduceAdd, Nat.reduceLeDiff, Nat.reduceMul, Nat.reduceSub, Int.reduceLE, Int.reduceLT, Int.reduceEq, Int.reduceToNat, Int.reducePow, Int.reduceNeg, hb])
      | (refine callK_pure (k2) rfl rfl ?_; simp -implicitDefEqProofs only [go_sem, ↓reduceIte, Nat.reduceEqDiff, Nat.reduceAdd, Nat.reduceLeDiff, Nat.reduceMul, Nat.reduceSub, Int.reduceLE, Int.reduceLT, Int.reduceEq, Int.reduceToNat, Int.reducePow, Int.reduceNeg])
      | (refine dCallK_pure (k2) rfl rfl ?_; simp -implicitDefEqProofs only [go_sem, ↓reduceIte, Nat.reduceEqDiff, Nat.reduceAdd, Nat.reduceLeDiff, Nat.reduceMul, Nat.reduceSub, Int.reduceLE, Int.reduceLT, Int.reduceEq, Int.reduceToNat, Int.reducePow, Int.reduceNeg])
      | (rw [if_pos (by (try simp only [List.length_append, List.length_cons, List.length_nil, List.length_map]); omega)]; simp -implicitDefEqProofs only [go_sem, ↓reduceIte, Nat.reduceEqDiff, Nat.reduceAdd, Nat.reduceLeDiff, Nat.reduceMul, Nat.reduceSub, Int.reduceLE, Int.reduceLT, Int.reduceEq, Int.reduceToNat, Int.reducePow, Int.reduceNeg]))
    refine hK _ ?_; clear hK
    refine bwp_seq fun K1 hK1 => ?_
    refine bwp_seq fun K hK => bwp_region rfl ?_
    simp -implicitDefEqProofs only [go_sem, ↓reduceIte, Nat.reduceEqDiff, Nat.reduceAdd, Nat.reduceLeDiff, Nat.reduceMul, Nat.reduceSub, Int.reduceLE, Int.reduceLT, Int.reduceEq, Int.reduceToNat, Int.reducePow, Int.reduceNeg, hb']
    refine hK _ ?_; clear hK
    refine bwp_cond false (by simp [ev, fget]) (fun h => nomatch h) (fun _ => ?_)
    refine bwp_skip ?_
    refine hK1 _ ?_; clear hK1
    refine bwp_seq fun K hK => bwp_region rfl ?_
    simp -implicitDefEqProofs only [go_sem, ↓reduceIte, Nat.reduceEqDiff, Nat.reduceAdd, Nat.reduceLeDiff, Nat.reduceMul, Nat.reduceSub, Int.reduceLE, Int.reduceLT, Int.reduceEq, Int.reduceToNat, Int.reducePow, Int.reduceNeg]
    repeat' (first
      | (refine gateK_split (fun hb => ?_) (fun hb => ?_) <;> simp -implicitDefEqProofs only [go_sem, ↓reduceIte, Nat.reduceEqDiff, Nat.reduceAdd, Nat.reduceLeDiff, Nat.reduceMul, Nat.reduceSub, Int.reduceLE, Int.reduceLT, Int.reduceEq, Int.reduceToNat, Int.reducePow, Int.reduceNeg, hb, decide_true])
      | (refine dGateK_split (fun hb => ?_) (fun hb => ?_) <;> simp -implicitDefEqProofs only [go_sem, ↓reduceIte, Nat.reduceEqDiff, Nat.reduceAdd, Nat.reduceLeDiff, Nat.reduceMul, Nat.reduceSub, Int.reduceLE, Int.reduceLT, Int.reduceEq, Int.reduceToNat, Int.reducePow, Int.reduceNeg, hb, decide_true])
      | (refine callK_pure (awake2_pure) rfl rfl ?_; simp -implicitDefEqProofs only [go_sem, ↓reduceIte, Nat.reduceEqDiff, Nat.reduceAdd, Nat.reduceLeDiff, Nat.reduceMul, Nat.reduceSub, Int.reduceLE, Int.reduceLT, Int.reduceEq, Int.reduceToNat, Int.reducePow, Int.reduceNeg, decide_true])
      | (refine dCallK_pure (awake2_pure) rfl rfl ?_; simp -implicitDefEqProofs only [go_sem, ↓reduceIte, Nat.reduceEqDiff, Nat.reduceAdd, Nat.reduceLeDiff, Nat.reduceMul, Nat.reduceSub, Int.reduceLE, Int.reduceLT, Int.reduceEq, Int.reduceToNat, Int.reducePow, Int.reduceNeg, decide_true])
      | (rw [if_pos (by (try simp only [List.length_append, List.length_cons, List.length_nil, List.length_map]); omega)]; simp -implicitDefEqProofs only [go_sem, ↓reduceIte, Nat.reduceEqDiff, Nat.reduceAdd, Nat.reduceLeDiff, Nat.reduceMul, Nat.reduceSub, Int.reduceLE, Int.reduceLT, Int.reduceEq, Int.reduceToNat, Int.reducePow, Int.reduceNeg, decide_true]))
    refine hK _ ?_; clear hK
    refine bwp_ret ?_
    simp only [go_sem]
    refine aend_ret _ rfl rfl ⟨?_, rfl⟩
    simp [fget]

end Go.Proofs.YtpfbljkfbjjlkaaDoor
