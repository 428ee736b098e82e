/- The document's texts of parts. -/
import Derived.Test.YtgfkgngpganllaaDoorT1
import Derived.Test.YtgfkgngpganllaaDoorQ1
import Derived.Test.YtgfkgngpganllaaDoorR3
namespace Go.Proofs.YtgfkgngpganllaaDoor
open Go Go.Jq
set_option maxRecDepth 100000
set_option linter.unusedSimpArgs false

theorem refLoc_pure {n : Int} (h : isLocB n = true) : Pure Tryd.prog 47 [.d (.int .i64 n)] (.d (.str (locT n))) := by
  have hb := (isLocB_iff n).1 h
  have hw : IntKind.u8.wrap n = n := wrap_u8 (by omega) (by omega)
  refine acalls_of Tryd.func47 ac47_ok Tryd.ntmps47 Tryd.results47 rfl ?_
  unfold ac47
  refine bwp_seq fun K hK => bwp_region rfl ?_
  simp -implicitDefEqProofs only [go_sem, ↓reduceIte, Nat.reduceEqDiff, Nat.reduceAdd, Nat.reduceLeDiff, Nat.reduceMul, Nat.reduceSub, Int.reduceLE, Int.reduceLT, Int.reduceEq, Int.reduceToNat, Int.reducePow, Int.reduceNeg]
  refine hK _ ?_; clear hK
  refine bwp_seq fun K hK => bwp_region rfl ?_
  simp -implicitDefEqProofs only [go_sem, ↓reduceIte, Nat.reduceEqDiff, Nat.reduceAdd, Nat.reduceLeDiff, Nat.reduceMul, Nat.reduceSub, Int.reduceLE, Int.reduceLT, Int.reduceEq, Int.reduceToNat, Int.reducePow, Int.reduceNeg, hw]
  refine hK _ ?_; clear hK
  refine bwp_ret ?_
  simp only [go_sem]
  refine aend_ret _ rfl rfl ⟨?_, rfl⟩
  simp [fget, locT_ok h]

theorem refReg_pure {n : Int} (h : I64 n) : Pure Tryd.prog 53 [.d (.int .i64 n)] (.d (.str (regT n))) := by
  refine acalls_of Tryd.func53 ac53_ok Tryd.ntmps53 Tryd.results53 rfl ?_
  unfold ac53
  refine bwp_seq fun K hK => bwp_region rfl ?_
  simp -implicitDefEqProofs only [go_sem, ↓reduceIte, Nat.reduceEqDiff, Nat.reduceAdd, Nat.reduceLeDiff, Nat.reduceMul, Nat.reduceSub, Int.reduceLE, Int.reduceLT, Int.reduceEq, Int.reduceToNat, Int.reducePow, Int.reduceNeg]
  refine hK _ ?_; clear hK
  refine bwp_seq fun K hK => bwp_region rfl ?_
  simp -implicitDefEqProofs only [go_sem, ↓reduceIte, Nat.reduceEqDiff, Nat.reduceAdd, Nat.reduceLeDiff, Nat.reduceMul, Nat.reduceSub, Int.reduceLE, Int.reduceLT, Int.reduceEq, Int.reduceToNat, Int.reducePow, Int.reduceNeg]
  refine callK_pure (refText_pure h) rfl rfl ?_
  have hl := itoa_len h
  have hl2 : 1 + (Lib.itoa n).length ≤ 9223372036854775807 := by omega
  simp -implicitDefEqProofs only [go_sem, ↓reduceIte, Nat.reduceEqDiff, Nat.reduceAdd, Nat.reduceLeDiff, Nat.reduceMul, Nat.reduceSub, Int.reduceLE, Int.reduceLT, Int.reduceEq, Int.reduceToNat, Int.reducePow, Int.reduceNeg, hl2]
  refine hK _ ?_; clear hK
  refine bwp_ret ?_
  simp only [go_sem]
  refine aend_ret _ rfl rfl ⟨?_, rfl⟩
  simp [fget, regT]

theorem refOperand_pure {o : Opnd} (h : I64 o.value) (h' : I64 o.reg) (hok : isOpB o = true) : Pure Tryd.prog 52 [.agg [.d (.int .i64 o.reg), .d (.int .i64 o.value)]] (.d (.str (opT o))) := by
  have hreg : o.reg = -1 ∨ 0 ≤ o.reg := by
    simp only [isOpB, isRegB, Bool.or_eq_true, Bool.and_eq_true, decide_eq_true_eq] at hok
    omega
  refine acalls_of Tryd.func52 ac52_ok Tryd.ntmps52 Tryd.results52 rfl ?_
  unfold ac52
  refine bwp_seq fun K hK => bwp_region rfl ?_
  simp -implicitDefEqProofs only [go_sem, ↓reduceIte, Nat.reduceEqDiff, Nat.reduceAdd, Nat.reduceLeDiff, Nat.reduceMul, Nat.reduceSub, Int.reduceLE, Int.reduceLT, Int.reduceEq, Int.reduceToNat, Int.reducePow, Int.reduceNeg]
  refine hK _ ?_; clear hK
  refine bwp_seq fun K1 hK1 => ?_
  by_cases h1 : o.reg = -1
  · have h2 : o.reg < 0 := by omega
    refine bwp_seq fun K hK => bwp_region rfl ?_
    simp -implicitDefEqProofs only [go_sem, ↓reduceIte, Nat.reduceEqDiff, Nat.reduceAdd, Nat.reduceLeDiff, Nat.reduceMul, Nat.reduceSub, Int.reduceLE, Int.reduceLT, Int.reduceEq, Int.reduceToNat, Int.reducePow, Int.reduceNeg, h2]
    refine hK _ ?_; clear hK
    refine bwp_cond true (by simp [ev, fget, h2]) (fun _ => ?_) (fun h => nomatch h)
    refine bwp_seq fun K hK => bwp_region rfl ?_
    simp -implicitDefEqProofs only [go_sem, ↓reduceIte, Nat.reduceEqDiff, Nat.reduceAdd, Nat.reduceLeDiff, Nat.reduceMul, Nat.reduceSub, Int.reduceLE, Int.reduceLT, Int.reduceEq, Int.reduceToNat, Int.reducePow, Int.reduceNeg]
    refine callK_pure (refText_pure h) rfl rfl ?_
    simp -implicitDefEqProofs only [go_sem, ↓reduceIte, Nat.reduceEqDiff, Nat.reduceAdd, Nat.reduceLeDiff, Nat.reduceMul, Nat.reduceSub, Int.reduceLE, Int.reduceLT, Int.reduceEq, Int.reduceToNat, Int.reducePow, Int.reduceNeg]
    refine hK _ ?_; clear hK
    refine bwp_ret ?_
    simp only [go_sem]
    refine aend_ret _ rfl rfl ⟨?_, rfl⟩
    simp [fget, opT, h1]
  · have h2 : ¬ o.reg < 0 := by omega
    refine bwp_seq fun K hK => bwp_region rfl ?_
    simp -implicitDefEqProofs only [go_sem, ↓reduceIte, Nat.reduceEqDiff, Nat.reduceAdd, Nat.reduceLeDiff, Nat.reduceMul, Nat.reduceSub, Int.reduceLE, Int.reduceLT, Int.reduceEq, Int.reduceToNat, Int.reducePow, Int.reduceNeg, h2]
    refine hK _ ?_; clear hK
    refine bwp_cond false (by simp [ev, fget, h2]) (fun h => nomatch h) (fun _ => ?_)
    refine bwp_skip ?_
    refine hK1 _ ?_; clear hK1
    refine bwp_seq fun K hK => bwp_region rfl ?_
    simp -implicitDefEqProofs only [go_sem, ↓reduceIte, Nat.reduceEqDiff, Nat.reduceAdd, Nat.reduceLeDiff, Nat.reduceMul, Nat.reduceSub, Int.reduceLE, Int.reduceLT, Int.reduceEq, Int.reduceToNat, Int.reducePow, Int.reduceNeg]
    refine callK_pure (refReg_pure h') rfl rfl ?_
    simp -implicitDefEqProofs only [go_sem, ↓reduceIte, Nat.reduceEqDiff, Nat.reduceAdd, Nat.reduceLeDiff, Nat.reduceMul, Nat.reduceSub, Int.reduceLE, Int.reduceLT, Int.reduceEq, Int.reduceToNat, Int.reducePow, Int.reduceNeg]
    refine hK _ ?_; clear hK
    refine bwp_ret ?_
    simp only [go_sem]
    refine aend_ret _ rfl rfl ⟨?_, rfl⟩
    simp [fget, opT, h1]

def signCells : List AV := [AV.d (DV.str [43]), AV.d (DV.str [45]), AV.d (DV.str [42]), AV.d (DV.str [38]), AV.d (DV.str [124]), AV.d (DV.str [94]), AV.d (DV.str [60, 60]), AV.d (DV.str [62, 62]), AV.d (DV.str [61, 61]), AV.d (DV.str [33, 61]), AV.d (DV.str [60])]

theorem refSigns_calls : ACalls Tryd.prog 72 [] [] fun r m' => r = .sl 0 1 0 11 ∧ m' = [(0, signCells)] := by
  refine acalls_of Tryd.func72 ac72_ok Tryd.ntmps72 Tryd.results72 rfl ?_
  unfold ac72
  refine bwp_seq fun K hK => bwp_region rfl ?_
  simp -implicitDefEqProofs only [go_sem, ↓reduceIte, Nat.reduceEqDiff, Nat.reduceAdd, Nat.reduceLeDiff, Nat.reduceMul, Nat.reduceSub, Int.reduceLE, Int.reduceLT, Int.reduceEq, Int.reduceToNat, Int.reducePow, Int.reduceNeg]
  refine hK _ ?_; clear hK
  refine bwp_seq fun K hK => bwp_region rfl ?_
  simp -implicitDefEqProofs only [go_sem, ↓reduceIte, Nat.reduceEqDiff, Nat.reduceAdd, Nat.reduceLeDiff, Nat.reduceMul, Nat.reduceSub, Int.reduceLE, Int.reduceLT, Int.reduceEq, Int.reduceToNat, Int.reducePow, Int.reduceNeg]
  refine hK _ ?_; clear hK
  refine bwp_ret ?_
  simp only [go_sem]
  refine aend_mem (.sl 0 1 0 11) [(0, 0)] [(0, signCells)] rfl rfl rfl ?_ ⟨rfl, rfl⟩
  simp [entM, pinv, mget, mset, renL, AV.ren, signCells]

theorem refSign_pure {op : Int} (h1 : 1 ≤ op) (h2 : op ≤ 11) : Pure Tryd.prog 54 [.d (.int .i64 op)] (.d (.str (signT op))) := by
  have g1 : ¬ op < 1 := by omega
  have g2 : ¬ 11 < op := by omega
  refine acalls_of Tryd.func54 ac54_ok Tryd.ntmps54 Tryd.results54 rfl ?_
  unfold ac54
  refine bwp_seq fun K hK => bwp_region rfl ?_
  simp -implicitDefEqProofs only [go_sem, ↓reduceIte, Nat.reduceEqDiff, Nat.reduceAdd, Nat.reduceLeDiff, Nat.reduceMul, Nat.reduceSub, Int.reduceLE, Int.reduceLT, Int.reduceEq, Int.reduceToNat, Int.reducePow, Int.reduceNeg]
  refine hK _ ?_; clear hK
  refine bwp_seq fun K1 hK1 => ?_
  refine bwp_seq fun K hK => bwp_region rfl ?_
  simp -implicitDefEqProofs only [go_sem, ↓reduceIte, Nat.reduceEqDiff, Nat.reduceAdd, Nat.reduceLeDiff, Nat.reduceMul, Nat.reduceSub, Int.reduceLE, Int.reduceLT, Int.reduceEq, Int.reduceToNat, Int.reducePow, Int.reduceNeg, g1, g2]
  refine hK _ ?_; clear hK
  refine bwp_cond false (by simp [ev, fget, g1, g2]) (fun h => nomatch h) (fun _ => ?_)
  refine bwp_skip ?_
  refine hK1 _ ?_; clear hK1
  refine bwp_seq fun K hK => bwp_region rfl ?_
  simp -implicitDefEqProofs only [go_sem, ↓reduceIte, Nat.reduceEqDiff, Nat.reduceAdd, Nat.reduceLeDiff, Nat.reduceMul, Nat.reduceSub, Int.reduceLE, Int.reduceLT, Int.reduceEq, Int.reduceToNat, Int.reducePow, Int.reduceNeg]
  refine callK_gen [] [] [] (nb := 0) refSigns_calls rfl rfl rfl trivial rfl ?_
  rintro r0 m' ⟨rfl, rfl⟩
  obtain ⟨q, rfl⟩ : ∃ q : Nat, op = ((q + 1 : Nat) : Int) := ⟨(op - 1).toNat, by omega⟩
  have hq : q < 11 := by omega
  have hw : IntKind.i64.wrap (((q + 1 : Nat) : Int) - 1) = (q : Int) := by rw [wrap_i64 (by omega) (by omega)]; omega
  have q0 : (0 : Int) ≤ (q : Int) := Int.natCast_nonneg _
  have q1 : (q : Int) < 11 := by omega
  have hcell : signCells[q]? = some (.d (.str (signT ((q + 1 : Nat) : Int)))) := by
    have key : ∀ q : Fin 11, signCells[q.1]? = some (.d (.str (signT ((q.1 + 1 : Nat) : Int)))) := by
      intro q
      match q with
      | ⟨0, _⟩ => rfl | ⟨1, _⟩ => rfl | ⟨2, _⟩ => rfl | ⟨3, _⟩ => rfl | ⟨4, _⟩ => rfl | ⟨5, _⟩ => rfl | ⟨6, _⟩ => rfl | ⟨7, _⟩ => rfl | ⟨8, _⟩ => rfl | ⟨9, _⟩ => rfl | ⟨10, _⟩ => rfl
    exact key ⟨q, hq⟩
  have hren : renL (renOf [] [] [(0, signCells)] 0) signCells = signCells := rfl
  simp -implicitDefEqProofs only [go_sem, ↓reduceIte, Nat.reduceEqDiff, Nat.reduceAdd, Nat.reduceLeDiff, Nat.reduceMul, Nat.reduceSub, Int.reduceLE, Int.reduceLT, Int.reduceEq, Int.reduceToNat, Int.reducePow, Int.reduceNeg, callMem, updNew, updOld, mget, mset, renOf, pget, AV.ren, Option.isSome_none, Bool.false_and, hren, hw, q0, q1, Int.toNat_natCast, Nat.mul_one, Nat.zero_add, List.getElem?_drop, Nat.add_zero, hcell, Option.map_some]
  refine hK _ ?_; clear hK
  refine bwp_ret ?_
  simp only [go_sem]
  refine aend_ret _ rfl rfl ⟨?_, rfl⟩
  simp [fget]

/-- The document's text of an instruction. -/
theorem insT_eq (x : Ins) (h : okInsB x = true) : insT x =
    if x.kind = 1 then [115, 116, 111, 114, 101, 32] ++ locT x.loc ++ [32] ++ opT x.a ++ [32, 59]
    else if x.kind = 2 then regT x.reg ++ [32, 61, 32, 108, 111, 97, 100, 32] ++ locT x.loc ++ [32, 59]
    else if x.kind = 3 then [102, 101, 110, 99, 101, 32, 59]
    else if x.kind = 4 then regT x.reg ++ [32, 61, 32, 99, 97, 115, 32] ++ locT x.loc ++ [32] ++ opT x.a ++ [32] ++ opT x.b ++ [32, 59]
    else if x.kind = 5 then (if 0 < x.op then regT x.reg ++ [32, 61, 32] ++ opT x.a ++ [32] ++ signT x.op ++ [32] ++ opT x.b else regT x.reg ++ [32, 61, 32] ++ opT x.a) ++ [32, 59]
    else [115, 107, 105, 112, 32] ++ Lib.itoa x.n ++ [32, 105, 102, 32] ++ opT x.a ++ [32, 61, 61, 32] ++ opT x.b ++ [32, 59] := by
  unfold insT partsI
  rw [if_pos h]
  by_cases k1 : x.kind = 1
  · simp [k1, Lib.join, List.intercalate]
  by_cases k2 : x.kind = 2
  · simp [k2, Lib.join, List.intercalate]
  by_cases k3 : x.kind = 3
  · simp [k3, Lib.join, List.intercalate]
  by_cases k4 : x.kind = 4
  · simp [k4, Lib.join, List.intercalate]
  by_cases k5 : x.kind = 5
  · by_cases ho : 0 < x.op
    · simp [k5, ho, Lib.join, List.intercalate]
    · simp [k5, ho, Lib.join, List.intercalate]
  · simp [k1, k2, k3, k4, k5, Lib.join, List.intercalate]

set_option maxHeartbeats 4000000 in
theorem refInsT_pure {x : Ins} (h : I64i x) : Pure Tryd.prog 19 [.agg (x.cells.map .d)] (.d (.str (insT x))) := by
  obtain ⟨i1, i2, i3, i4, i5, i6⟩ := h
  have hok := refIns_pure x
  rw [refIns_eq] at hok
  unfold Ins.cells at hok ⊢
  simp only [List.map_cons, List.map_nil] at hok ⊢
  refine acalls_of Tryd.func19 ac19_ok Tryd.ntmps19 Tryd.results19 rfl ?_
  unfold ac19
  refine bwp_seq fun K hK => bwp_region rfl ?_
  simp -implicitDefEqProofs only [go_sem, ↓reduceIte, Nat.reduceEqDiff, Nat.reduceAdd, Nat.reduceLeDiff, Nat.reduceMul, Nat.reduceSub, Int.reduceLE, Int.reduceLT, Int.reduceEq, Int.reduceToNat, Int.reducePow, Int.reduceNeg]
  refine hK _ ?_; clear hK
  refine bwp_seq fun K1 hK1 => ?_
  refine bwp_seq fun K hK => bwp_region rfl ?_
  simp -implicitDefEqProofs only [go_sem, ↓reduceIte, Nat.reduceEqDiff, Nat.reduceAdd, Nat.reduceLeDiff, Nat.reduceMul, Nat.reduceSub, Int.reduceLE, Int.reduceLT, Int.reduceEq, Int.reduceToNat, Int.reducePow, Int.reduceNeg]
  refine callK_pure hok rfl rfl ?_
  cases hb : okInsB x with
  | false =>
    simp -implicitDefEqProofs only [go_sem, ↓reduceIte, Nat.reduceEqDiff, Nat.reduceAdd, Nat.reduceLeDiff, Nat.reduceMul, Nat.reduceSub, Int.reduceLE, Int.reduceLT, Int.reduceEq, Int.reduceToNat, Int.reducePow, Int.reduceNeg]
    refine hK _ ?_; clear hK
    refine bwp_cond true (by simp [ev, fget]) (fun _ => ?_) (fun h => nomatch h)
    refine bwp_seq fun K hK => bwp_region rfl ?_
    simp -implicitDefEqProofs only [go_sem, ↓reduceIte, Nat.reduceEqDiff, Nat.reduceAdd, Nat.reduceLeDiff, Nat.reduceMul, Nat.reduceSub, Int.reduceLE, Int.reduceLT, Int.reduceEq, Int.reduceToNat, Int.reducePow, Int.reduceNeg]
    refine hK _ ?_; clear hK
    refine bwp_ret ?_
    simp only [go_sem]
    refine aend_ret _ rfl rfl ⟨?_, rfl⟩
    simp [fget, insT, hb]
  | true =>
    simp -implicitDefEqProofs only [go_sem, ↓reduceIte, Nat.reduceEqDiff, Nat.reduceAdd, Nat.reduceLeDiff, Nat.reduceMul, Nat.reduceSub, Int.reduceLE, Int.reduceLT, Int.reduceEq, Int.reduceToNat, Int.reducePow, Int.reduceNeg]
    refine hK _ ?_; clear hK
    refine bwp_cond false (by simp [ev, fget]) (fun h => nomatch h) (fun _ => ?_)
    refine bwp_skip ?_
    refine hK1 _ ?_; clear hK1
    rw [insT_eq x hb]
    have l1 := regT_len i1
    have l2 := opT_len i3 i2
    have l3 := opT_len i5 i4
    have l4 : (locT x.loc).length ≤ 4 := utf8_len _
    have l5 := itoa_len i6
    have l6 := signT_len x.op
    have h0 := hb
    unfold okInsB at h0
    refine bwp_seq fun K1 hK1 => ?_
    refine bwp_seq fun K hK => bwp_region rfl ?_
    simp -implicitDefEqProofs only [go_sem, ↓reduceIte, Nat.reduceEqDiff, Nat.reduceAdd, Nat.reduceLeDiff, Nat.reduceMul, Nat.reduceSub, Int.reduceLE, Int.reduceLT, Int.reduceEq, Int.reduceToNat, Int.reducePow, Int.reduceNeg]
    refine hK _ ?_; clear hK
    refine bwp_block ?_
    by_cases k1 : x.kind = 1
    · rw [if_pos k1] at h0
      simp only [Bool.and_eq_true] at h0
      have c1 := refLoc_pure h0.1.1
      have c2 := refOperand_pure i3 i2 h0.1.2
      refine bwp_seq fun K hK => bwp_region rfl ?_
      simp -implicitDefEqProofs only [go_sem, ↓reduceIte, Nat.reduceEqDiff, Nat.reduceAdd, Nat.reduceLeDiff, Nat.reduceMul, Nat.reduceSub, Int.reduceLE, Int.reduceLT, Int.reduceEq, Int.reduceToNat, Int.reducePow, Int.reduceNeg, k1]
      refine hK _ ?_; clear hK
      refine bwp_cond true (by simp [ev, fget]) (fun _ => ?_) (fun h => nomatch h)
      refine bwp_seq fun K hK => bwp_region_draw rfl rfl ?_
      simp -implicitDefEqProofs only [go_sem, ↓reduceIte, Nat.reduceEqDiff, Nat.reduceAdd, Nat.reduceLeDiff, Nat.reduceMul, Nat.reduceSub, Int.reduceLE, Int.reduceLT, Int.reduceEq, Int.reduceToNat, Int.reducePow, Int.reduceNeg]
      repeat' (first
        | (refine gateK_split (fun hb => ?_) (fun hb => ?_) <;> simp -implicitDefEqProofs only [go_sem, ↓reduceIte, Nat.reduceEqDiff, Nat.reduceAdd, Nat.reduceLeDiff, Nat.reduceMul, Nat.reduceSub, Int.reduceLE, Int.reduceLT, Int.reduceEq, Int.reduceToNat, Int.reducePow, Int.reduceNeg, hb])
        | (refine dGateK_split (fun hb => ?_) (fun hb => ?_) <;> simp -implicitDefEqProofs only [go_sem, ↓reduceIte, Nat.reduceEqDiff, Nat.reduceAdd, Nat.reduceLeDiff, Nat.reduceMul, Nat.reduceSub, Int.reduceLE, Int.reduceLT, Int.reduceEq, Int.reduceToNat, Int.reducePow, Int.reduceNeg, hb])
        | (refine callK_pure (c1) rfl rfl ?_; simp -implicitDefEqProofs only [go_sem, ↓reduceIte, Nat.reduceEqDiff, Nat.reduceAdd, Nat.reduceLeDiff, Nat.reduceMul, Nat.reduceSub, Int.reduceLE, Int.reduceLT, Int.reduceEq, Int.reduceToNat, Int.reducePow, Int.reduceNeg])
        | (refine dCallK_pure (c1) rfl rfl ?_; simp -implicitDefEqProofs only [go_sem, ↓reduceIte, Nat.reduceEqDiff, Nat.reduceAdd, Nat.reduceLeDiff, Nat.reduceMul, Nat.reduceSub, Int.reduceLE, Int.reduceLT, Int.reduceEq, Int.reduceToNat, Int.reducePow, Int.reduceNeg])
        | (refine callK_pure (c2) rfl rfl ?_; simp -implicitDefEqProofs only [go_sem, ↓reduceIte, Nat.reduceEqDiff, Nat.reduceAdd, Nat.reduceLeDiff, Nat.reduceMul, Nat.reduceSub, Int.reduceLE, Int.reduceLT, Int.reduceEq, Int.reduceToNat, Int.reducePow, Int.reduceNeg])
        | (refine dCallK_pure (c2) rfl rfl ?_; simp -implicitDefEqProofs only [go_sem, ↓reduceIte, Nat.reduceEqDiff, Nat.reduceAdd, Nat.reduceLeDiff, Nat.reduceMul, Nat.reduceSub, Int.reduceLE, Int.reduceLT, Int.reduceEq, Int.reduceToNat, Int.reducePow, Int.reduceNeg])
        | (rw [if_pos (by (try simp only [List.length_append, List.length_cons, List.length_nil]); omega)]; simp -implicitDefEqProofs only [go_sem, ↓reduceIte, Nat.reduceEqDiff, Nat.reduceAdd, Nat.reduceLeDiff, Nat.reduceMul, Nat.reduceSub, Int.reduceLE, Int.reduceLT, Int.reduceEq, Int.reduceToNat, Int.reducePow, Int.reduceNeg]))
      refine ⟨rfl, hK _ ?_⟩; clear hK
      refine bwp_ret ?_
      simp -implicitDefEqProofs only [go_sem, ↓reduceIte, Nat.reduceEqDiff, Nat.reduceAdd, Nat.reduceLeDiff, Nat.reduceMul, Nat.reduceSub, Int.reduceLE, Int.reduceLT, Int.reduceEq, Int.reduceToNat, Int.reducePow, Int.reduceNeg]
      refine aend_ret _ rfl rfl ⟨?_, rfl⟩
      simp [fget, k1]
    rw [if_neg k1] at h0
    refine bwp_seq fun K hK => bwp_region rfl ?_
    simp -implicitDefEqProofs only [go_sem, ↓reduceIte, Nat.reduceEqDiff, Nat.reduceAdd, Nat.reduceLeDiff, Nat.reduceMul, Nat.reduceSub, Int.reduceLE, Int.reduceLT, Int.reduceEq, Int.reduceToNat, Int.reducePow, Int.reduceNeg, k1]
    refine hK _ ?_; clear hK
    refine bwp_cond false (by simp [ev, fget, k1]) (fun h => nomatch h) (fun _ => ?_)
    by_cases k2 : x.kind = 2
    · rw [if_pos k2] at h0
      simp only [Bool.and_eq_true] at h0
      have c1 := refLoc_pure h0.1.1
      have c2 := refReg_pure i1
      refine bwp_seq fun K hK => bwp_region rfl ?_
      simp -implicitDefEqProofs only [go_sem, ↓reduceIte, Nat.reduceEqDiff, Nat.reduceAdd, Nat.reduceLeDiff, Nat.reduceMul, Nat.reduceSub, Int.reduceLE, Int.reduceLT, Int.reduceEq, Int.reduceToNat, Int.reducePow, Int.reduceNeg, k2]
      refine hK _ ?_; clear hK
      refine bwp_cond true (by simp [ev, fget]) (fun _ => ?_) (fun h => nomatch h)
      refine bwp_seq fun K hK => bwp_region_draw rfl rfl ?_
      simp -implicitDefEqProofs only [go_sem, ↓reduceIte, Nat.reduceEqDiff, Nat.reduceAdd, Nat.reduceLeDiff, Nat.reduceMul, Nat.reduceSub, Int.reduceLE, Int.reduceLT, Int.reduceEq, Int.reduceToNat, Int.reducePow, Int.reduceNeg]
      repeat' (first
        | (refine gateK_split (fun hb => ?_) (fun hb => ?_) <;> simp -implicitDefEqProofs only [go_sem, ↓reduceIte, Nat.reduceEqDiff, Nat.reduceAdd, Nat.reduceLeDiff, Nat.reduceMul, Nat.reduceSub, Int.reduceLE, Int.reduceLT, Int.reduceEq, Int.reduceToNat, Int.reducePow, Int.reduceNeg, hb])
        | (refine dGateK_split (fun hb => ?_) (fun hb => ?_) <;> simp -implicitDefEqProofs only [go_sem, ↓reduceIte, Nat.reduceEqDiff, Nat.reduceAdd, Nat.reduceLeDiff, Nat.reduceMul, Nat.reduceSub, Int.reduceLE, Int.reduceLT, Int.reduceEq, Int.reduceToNat, Int.reducePow, Int.reduceNeg, hb])
        | (refine callK_pure (c1) rfl rfl ?_; simp -implicitDefEqProofs only [go_sem, ↓reduceIte, Nat.reduceEqDiff, Nat.reduceAdd, Nat.reduceLeDiff, Nat.reduceMul, Nat.reduceSub, Int.reduceLE, Int.reduceLT, Int.reduceEq, Int.reduceToNat, Int.reducePow, Int.reduceNeg])
        | (refine dCallK_pure (c1) rfl rfl ?_; simp -implicitDefEqProofs only [go_sem, ↓reduceIte, Nat.reduceEqDiff, Nat.reduceAdd, Nat.reduceLeDiff, Nat.reduceMul, Nat.reduceSub, Int.reduceLE, Int.reduceLT, Int.reduceEq, Int.reduceToNat, Int.reducePow, Int.reduceNeg])
        | (refine callK_pure (c2) rfl rfl ?_; simp -implicitDefEqProofs only [go_sem, ↓reduceIte, Nat.reduceEqDiff, Nat.reduceAdd, Nat.reduceLeDiff, Nat.reduceMul, Nat.reduceSub, Int.reduceLE, Int.reduceLT, Int.reduceEq, Int.reduceToNat, Int.reducePow, Int.reduceNeg])
        | (refine dCallK_pure (c2) rfl rfl ?_; simp -implicitDefEqProofs only [go_sem, ↓reduceIte, Nat.reduceEqDiff, Nat.reduceAdd, Nat.reduceLeDiff, Nat.reduceMul, Nat.reduceSub, Int.reduceLE, Int.reduceLT, Int.reduceEq, Int.reduceToNat, Int.reducePow, Int.reduceNeg])
        | (rw [if_pos (by (try simp only [List.length_append, List.length_cons, List.length_nil]); omega)]; simp -implicitDefEqProofs only [go_sem, ↓reduceIte, Nat.reduceEqDiff, Nat.reduceAdd, Nat.reduceLeDiff, Nat.reduceMul, Nat.reduceSub, Int.reduceLE, Int.reduceLT, Int.reduceEq, Int.reduceToNat, Int.reducePow, Int.reduceNeg]))
      refine ⟨rfl, hK _ ?_⟩; clear hK
      refine bwp_ret ?_
      simp -implicitDefEqProofs only [go_sem, ↓reduceIte, Nat.reduceEqDiff, Nat.reduceAdd, Nat.reduceLeDiff, Nat.reduceMul, Nat.reduceSub, Int.reduceLE, Int.reduceLT, Int.reduceEq, Int.reduceToNat, Int.reducePow, Int.reduceNeg]
      refine aend_ret _ rfl rfl ⟨?_, rfl⟩
      simp [fget, k2]
    rw [if_neg k2] at h0
    refine bwp_seq fun K hK => bwp_region rfl ?_
    simp -implicitDefEqProofs only [go_sem, ↓reduceIte, Nat.reduceEqDiff, Nat.reduceAdd, Nat.reduceLeDiff, Nat.reduceMul, Nat.reduceSub, Int.reduceLE, Int.reduceLT, Int.reduceEq, Int.reduceToNat, Int.reducePow, Int.reduceNeg, k2]
    refine hK _ ?_; clear hK
    refine bwp_cond false (by simp [ev, fget, k2]) (fun h => nomatch h) (fun _ => ?_)
    by_cases k3 : x.kind = 3
    · refine bwp_seq fun K hK => bwp_region rfl ?_
      simp -implicitDefEqProofs only [go_sem, ↓reduceIte, Nat.reduceEqDiff, Nat.reduceAdd, Nat.reduceLeDiff, Nat.reduceMul, Nat.reduceSub, Int.reduceLE, Int.reduceLT, Int.reduceEq, Int.reduceToNat, Int.reducePow, Int.reduceNeg, k3]
      refine hK _ ?_; clear hK
      refine bwp_cond true (by simp [ev, fget]) (fun _ => ?_) (fun h => nomatch h)
      refine bwp_seq fun K hK => bwp_region rfl ?_
      simp -implicitDefEqProofs only [go_sem, ↓reduceIte, Nat.reduceEqDiff, Nat.reduceAdd, Nat.reduceLeDiff, Nat.reduceMul, Nat.reduceSub, Int.reduceLE, Int.reduceLT, Int.reduceEq, Int.reduceToNat, Int.reducePow, Int.reduceNeg]
      refine hK _ ?_; clear hK
      refine bwp_ret ?_
      simp -implicitDefEqProofs only [go_sem, ↓reduceIte, Nat.reduceEqDiff, Nat.reduceAdd, Nat.reduceLeDiff, Nat.reduceMul, Nat.reduceSub, Int.reduceLE, Int.reduceLT, Int.reduceEq, Int.reduceToNat, Int.reducePow, Int.reduceNeg]
      refine aend_ret _ rfl rfl ⟨?_, rfl⟩
      simp [fget, k3]
    rw [if_neg k3] at h0
    refine bwp_seq fun K hK => bwp_region rfl ?_
    simp -implicitDefEqProofs only [go_sem, ↓reduceIte, Nat.reduceEqDiff, Nat.reduceAdd, Nat.reduceLeDiff, Nat.reduceMul, Nat.reduceSub, Int.reduceLE, Int.reduceLT, Int.reduceEq, Int.reduceToNat, Int.reducePow, Int.reduceNeg, k3]
    refine hK _ ?_; clear hK
    refine bwp_cond false (by simp [ev, fget, k3]) (fun h => nomatch h) (fun _ => ?_)
    by_cases k4 : x.kind = 4
    · rw [if_pos k4] at h0
      simp only [Bool.and_eq_true] at h0
      have c1 := refLoc_pure h0.1.1.1.1
      have c2 := refReg_pure i1
      have c3 := refOperand_pure i3 i2 h0.1.1.2
      have c4 := refOperand_pure i5 i4 h0.1.2
      refine bwp_seq fun K hK => bwp_region rfl ?_
      simp -implicitDefEqProofs only [go_sem, ↓reduceIte, Nat.reduceEqDiff, Nat.reduceAdd, Nat.reduceLeDiff, Nat.reduceMul, Nat.reduceSub, Int.reduceLE, Int.reduceLT, Int.reduceEq, Int.reduceToNat, Int.reducePow, Int.reduceNeg, k4]
      refine hK _ ?_; clear hK
      refine bwp_cond true (by simp [ev, fget]) (fun _ => ?_) (fun h => nomatch h)
      refine bwp_seq fun K hK => bwp_region_draw rfl rfl ?_
      simp -implicitDefEqProofs only [go_sem, ↓reduceIte, Nat.reduceEqDiff, Nat.reduceAdd, Nat.reduceLeDiff, Nat.reduceMul, Nat.reduceSub, Int.reduceLE, Int.reduceLT, Int.reduceEq, Int.reduceToNat, Int.reducePow, Int.reduceNeg]
      repeat' (first
        | (refine gateK_split (fun hb => ?_) (fun hb => ?_) <;> simp -implicitDefEqProofs only [go_sem, ↓reduceIte, Nat.reduceEqDiff, Nat.reduceAdd, Nat.reduceLeDiff, Nat.reduceMul, Nat.reduceSub, Int.reduceLE, Int.reduceLT, Int.reduceEq, Int.reduceToNat, Int.reducePow, Int.reduceNeg, hb])
        | (refine dGateK_split (fun hb => ?_) (fun hb => ?_) <;> simp -implicitDefEqProofs only [go_sem, ↓reduceIte, Nat.reduceEqDiff, Nat.reduceAdd, Nat.reduceLeDiff, Nat.reduceMul, Nat.reduceSub, Int.reduceLE, Int.reduceLT, Int.reduceEq, Int.reduceToNat, Int.reducePow, Int.reduceNeg, hb])
        | (refine callK_pure (c1) rfl rfl ?_; simp -implicitDefEqProofs only [go_sem, ↓reduceIte, Nat.reduceEqDiff, Nat.reduceAdd, Nat.reduceLeDiff, Nat.reduceMul, Nat.reduceSub, Int.reduceLE, Int.reduceLT, Int.reduceEq, Int.reduceToNat, Int.reducePow, Int.reduceNeg])
        | (refine dCallK_pure (c1) rfl rfl ?_; simp -implicitDefEqProofs only [go_sem, ↓reduceIte, Nat.reduceEqDiff, Nat.reduceAdd, Nat.reduceLeDiff, Nat.reduceMul, Nat.reduceSub, Int.reduceLE, Int.reduceLT, Int.reduceEq, Int.reduceToNat, Int.reducePow, Int.reduceNeg])
        | (refine callK_pure (c2) rfl rfl ?_; simp -implicitDefEqProofs only [go_sem, ↓reduceIte, Nat.reduceEqDiff, Nat.reduceAdd, Nat.reduceLeDiff, Nat.reduceMul, Nat.reduceSub, Int.reduceLE, Int.reduceLT, Int.reduceEq, Int.reduceToNat, Int.reducePow, Int.reduceNeg])
        | (refine dCallK_pure (c2) rfl rfl ?_; simp -implicitDefEqProofs only [go_sem, ↓reduceIte, Nat.reduceEqDiff, Nat.reduceAdd, Nat.reduceLeDiff, Nat.reduceMul, Nat.reduceSub, Int.reduceLE, Int.reduceLT, Int.reduceEq, Int.reduceToNat, Int.reducePow, Int.reduceNeg])
        | (refine callK_pure (c3) rfl rfl ?_; simp -implicitDefEqProofs only [go_sem, ↓reduceIte, Nat.reduceEqDiff, Nat.reduceAdd, Nat.reduceLeDiff, Nat.reduceMul, Nat.reduceSub, Int.reduceLE, Int.reduceLT, Int.reduceEq, Int.reduceToNat, Int.reducePow, Int.reduceNeg])
        | (refine dCallK_pure (c3) rfl rfl ?_; simp -implicitDefEqProofs only [go_sem, ↓reduceIte, Nat.reduceEqDiff, Nat.reduceAdd, Nat.reduceLeDiff, Nat.reduceMul, Nat.reduceSub, Int.reduceLE, Int.reduceLT, Int.reduceEq, Int.reduceToNat, Int.reducePow, Int.reduceNeg])
        | (refine callK_pure (c4) rfl rfl ?_; simp -implicitDefEqProofs only [go_sem, ↓reduceIte, Nat.reduceEqDiff, Nat.reduceAdd, Nat.reduceLeDiff, Nat.reduceMul, Nat.reduceSub, Int.reduceLE, Int.reduceLT, Int.reduceEq, Int.reduceToNat, Int.reducePow, Int.reduceNeg])
        | (refine dCallK_pure (c4) rfl rfl ?_; simp -implicitDefEqProofs only [go_sem, ↓reduceIte, Nat.reduceEqDiff, Nat.reduceAdd, Nat.reduceLeDiff, Nat.reduceMul, Nat.reduceSub, Int.reduceLE, Int.reduceLT, Int.reduceEq, Int.reduceToNat, Int.reducePow, Int.reduceNeg])
        | (rw [if_pos (by (try simp only [List.length_append, List.length_cons, List.length_nil]); omega)]; simp -implicitDefEqProofs only [go_sem, ↓reduceIte, Nat.reduceEqDiff, Nat.reduceAdd, Nat.reduceLeDiff, Nat.reduceMul, Nat.reduceSub, Int.reduceLE, Int.reduceLT, Int.reduceEq, Int.reduceToNat, Int.reducePow, Int.reduceNeg]))
      refine ⟨rfl, hK _ ?_⟩; clear hK
      refine bwp_ret ?_
      simp -implicitDefEqProofs only [go_sem, ↓reduceIte, Nat.reduceEqDiff, Nat.reduceAdd, Nat.reduceLeDiff, Nat.reduceMul, Nat.reduceSub, Int.reduceLE, Int.reduceLT, Int.reduceEq, Int.reduceToNat, Int.reducePow, Int.reduceNeg]
      refine aend_ret _ rfl rfl ⟨?_, rfl⟩
      simp [fget, k4]
    rw [if_neg k4] at h0
    refine bwp_seq fun K hK => bwp_region rfl ?_
    simp -implicitDefEqProofs only [go_sem, ↓reduceIte, Nat.reduceEqDiff, Nat.reduceAdd, Nat.reduceLeDiff, Nat.reduceMul, Nat.reduceSub, Int.reduceLE, Int.reduceLT, Int.reduceEq, Int.reduceToNat, Int.reducePow, Int.reduceNeg, k4]
    refine hK _ ?_; clear hK
    refine bwp_cond false (by simp [ev, fget, k4]) (fun h => nomatch h) (fun _ => ?_)
    by_cases k5 : x.kind = 5
    · rw [if_pos k5] at h0
      simp only [Bool.and_eq_true, decide_eq_true_eq] at h0
      have c2 := refReg_pure i1
      have c3 := refOperand_pure i3 i2 h0.1.1.1.1.1.2
      have c4 := refOperand_pure i5 i4 h0.1.1.1.1.2
      refine bwp_seq fun K hK => bwp_region rfl ?_
      simp -implicitDefEqProofs only [go_sem, ↓reduceIte, Nat.reduceEqDiff, Nat.reduceAdd, Nat.reduceLeDiff, Nat.reduceMul, Nat.reduceSub, Int.reduceLE, Int.reduceLT, Int.reduceEq, Int.reduceToNat, Int.reducePow, Int.reduceNeg, k5]
      refine hK _ ?_; clear hK
      refine bwp_cond true (by simp [ev, fget]) (fun _ => ?_) (fun h => nomatch h)
      refine bwp_seq fun K hK => bwp_region_draw rfl rfl ?_
      simp -implicitDefEqProofs only [go_sem, ↓reduceIte, Nat.reduceEqDiff, Nat.reduceAdd, Nat.reduceLeDiff, Nat.reduceMul, Nat.reduceSub, Int.reduceLE, Int.reduceLT, Int.reduceEq, Int.reduceToNat, Int.reducePow, Int.reduceNeg]
      repeat' (first
        | (refine gateK_split (fun hb => ?_) (fun hb => ?_) <;> simp -implicitDefEqProofs only [go_sem, ↓reduceIte, Nat.reduceEqDiff, Nat.reduceAdd, Nat.reduceLeDiff, Nat.reduceMul, Nat.reduceSub, Int.reduceLE, Int.reduceLT, Int.reduceEq, Int.reduceToNat, Int.reducePow, Int.reduceNeg, hb])
        | (refine dGateK_split (fun hb => ?_) (fun hb => ?_) <;> simp -implicitDefEqProofs only [go_sem, ↓reduceIte, Nat.reduceEqDiff, Nat.reduceAdd, Nat.reduceLeDiff, Nat.reduceMul, Nat.reduceSub, Int.reduceLE, Int.reduceLT, Int.reduceEq, Int.reduceToNat, Int.reducePow, Int.reduceNeg, hb])
        | (refine callK_pure (c2) rfl rfl ?_; simp -implicitDefEqProofs only [go_sem, ↓reduceIte, Nat.reduceEqDiff, Nat.reduceAdd, Nat.reduceLeDiff, Nat.reduceMul, Nat.reduceSub, Int.reduceLE, Int.reduceLT, Int.reduceEq, Int.reduceToNat, Int.reducePow, Int.reduceNeg])
        | (refine dCallK_pure (c2) rfl rfl ?_; simp -implicitDefEqProofs only [go_sem, ↓reduceIte, Nat.reduceEqDiff, Nat.reduceAdd, Nat.reduceLeDiff, Nat.reduceMul, Nat.reduceSub, Int.reduceLE, Int.reduceLT, Int.reduceEq, Int.reduceToNat, Int.reducePow, Int.reduceNeg])
        | (refine callK_pure (c3) rfl rfl ?_; simp -implicitDefEqProofs only [go_sem, ↓reduceIte, Nat.reduceEqDiff, Nat.reduceAdd, Nat.reduceLeDiff, Nat.reduceMul, Nat.reduceSub, Int.reduceLE, Int.reduceLT, Int.reduceEq, Int.reduceToNat, Int.reducePow, Int.reduceNeg])
        | (refine dCallK_pure (c3) rfl rfl ?_; simp -implicitDefEqProofs only [go_sem, ↓reduceIte, Nat.reduceEqDiff, Nat.reduceAdd, Nat.reduceLeDiff, Nat.reduceMul, Nat.reduceSub, Int.reduceLE, Int.reduceLT, Int.reduceEq, Int.reduceToNat, Int.reducePow, Int.reduceNeg])
        | (rw [if_pos (by (try simp only [List.length_append, List.length_cons, List.length_nil]); omega)]; simp -implicitDefEqProofs only [go_sem, ↓reduceIte, Nat.reduceEqDiff, Nat.reduceAdd, Nat.reduceLeDiff, Nat.reduceMul, Nat.reduceSub, Int.reduceLE, Int.reduceLT, Int.reduceEq, Int.reduceToNat, Int.reducePow, Int.reduceNeg]))
      refine ⟨rfl, hK _ ?_⟩; clear hK
      refine bwp_seq fun K3 hK3 => ?_
      by_cases ho : 0 < x.op
      · have c5 := refSign_pure (op := x.op) (by omega) h0.1.1.2
        refine bwp_seq fun K hK => bwp_region rfl ?_
        simp -implicitDefEqProofs only [go_sem, ↓reduceIte, Nat.reduceEqDiff, Nat.reduceAdd, Nat.reduceLeDiff, Nat.reduceMul, Nat.reduceSub, Int.reduceLE, Int.reduceLT, Int.reduceEq, Int.reduceToNat, Int.reducePow, Int.reduceNeg, ho]
        refine hK _ ?_; clear hK
        refine bwp_cond true (by simp [ev, fget, ho]) (fun _ => ?_) (fun h => nomatch h)
        refine bwp_region_draw rfl rfl ?_
        simp -implicitDefEqProofs only [go_sem, ↓reduceIte, Nat.reduceEqDiff, Nat.reduceAdd, Nat.reduceLeDiff, Nat.reduceMul, Nat.reduceSub, Int.reduceLE, Int.reduceLT, Int.reduceEq, Int.reduceToNat, Int.reducePow, Int.reduceNeg]
        repeat' (first
          | (refine gateK_split (fun hb => ?_) (fun hb => ?_) <;> simp -implicitDefEqProofs only [go_sem, ↓reduceIte, Nat.reduceEqDiff, Nat.reduceAdd, Nat.reduceLeDiff, Nat.reduceMul, Nat.reduceSub, Int.reduceLE, Int.reduceLT, Int.reduceEq, Int.reduceToNat, Int.reducePow, Int.reduceNeg, hb])
          | (refine dGateK_split (fun hb => ?_) (fun hb => ?_) <;> simp -implicitDefEqProofs only [go_sem, ↓reduceIte, Nat.reduceEqDiff, Nat.reduceAdd, Nat.reduceLeDiff, Nat.reduceMul, Nat.reduceSub, Int.reduceLE, Int.reduceLT, Int.reduceEq, Int.reduceToNat, Int.reducePow, Int.reduceNeg, hb])
          | (refine callK_pure (c4) rfl rfl ?_; simp -implicitDefEqProofs only [go_sem, ↓reduceIte, Nat.reduceEqDiff, Nat.reduceAdd, Nat.reduceLeDiff, Nat.reduceMul, Nat.reduceSub, Int.reduceLE, Int.reduceLT, Int.reduceEq, Int.reduceToNat, Int.reducePow, Int.reduceNeg])
          | (refine dCallK_pure (c4) rfl rfl ?_; simp -implicitDefEqProofs only [go_sem, ↓reduceIte, Nat.reduceEqDiff, Nat.reduceAdd, Nat.reduceLeDiff, Nat.reduceMul, Nat.reduceSub, Int.reduceLE, Int.reduceLT, Int.reduceEq, Int.reduceToNat, Int.reducePow, Int.reduceNeg])
          | (refine callK_pure (c5) rfl rfl ?_; simp -implicitDefEqProofs only [go_sem, ↓reduceIte, Nat.reduceEqDiff, Nat.reduceAdd, Nat.reduceLeDiff, Nat.reduceMul, Nat.reduceSub, Int.reduceLE, Int.reduceLT, Int.reduceEq, Int.reduceToNat, Int.reducePow, Int.reduceNeg])
          | (refine dCallK_pure (c5) rfl rfl ?_; simp -implicitDefEqProofs only [go_sem, ↓reduceIte, Nat.reduceEqDiff, Nat.reduceAdd, Nat.reduceLeDiff, Nat.reduceMul, Nat.reduceSub, Int.reduceLE, Int.reduceLT, Int.reduceEq, Int.reduceToNat, Int.reducePow, Int.reduceNeg])
          | (rw [if_pos (by (try simp only [List.length_append, List.length_cons, List.length_nil]); omega)]; simp -implicitDefEqProofs only [go_sem, ↓reduceIte, Nat.reduceEqDiff, Nat.reduceAdd, Nat.reduceLeDiff, Nat.reduceMul, Nat.reduceSub, Int.reduceLE, Int.reduceLT, Int.reduceEq, Int.reduceToNat, Int.reducePow, Int.reduceNeg]))
        refine ⟨rfl, hK3 _ ?_⟩; clear hK3
        refine bwp_seq fun K hK => bwp_region rfl ?_
        simp -implicitDefEqProofs only [go_sem, ↓reduceIte, Nat.reduceEqDiff, Nat.reduceAdd, Nat.reduceLeDiff, Nat.reduceMul, Nat.reduceSub, Int.reduceLE, Int.reduceLT, Int.reduceEq, Int.reduceToNat, Int.reducePow, Int.reduceNeg]
        repeat' (first
          | (refine gateK_split (fun hb => ?_) (fun hb => ?_) <;> simp -implicitDefEqProofs only [go_sem, ↓reduceIte, Nat.reduceEqDiff, Nat.reduceAdd, Nat.reduceLeDiff, Nat.reduceMul, Nat.reduceSub, Int.reduceLE, Int.reduceLT, Int.reduceEq, Int.reduceToNat, Int.reducePow, Int.reduceNeg, hb])
          | (refine dGateK_split (fun hb => ?_) (fun hb => ?_) <;> simp -implicitDefEqProofs only [go_sem, ↓reduceIte, Nat.reduceEqDiff, Nat.reduceAdd, Nat.reduceLeDiff, Nat.reduceMul, Nat.reduceSub, Int.reduceLE, Int.reduceLT, Int.reduceEq, Int.reduceToNat, Int.reducePow, Int.reduceNeg, hb])
          | (rw [if_pos (by (try simp only [List.length_append, List.length_cons, List.length_nil]); omega)]; simp -implicitDefEqProofs only [go_sem, ↓reduceIte, Nat.reduceEqDiff, Nat.reduceAdd, Nat.reduceLeDiff, Nat.reduceMul, Nat.reduceSub, Int.reduceLE, Int.reduceLT, Int.reduceEq, Int.reduceToNat, Int.reducePow, Int.reduceNeg]))
        refine hK _ ?_; clear hK
        refine bwp_ret ?_
        simp -implicitDefEqProofs only [go_sem, ↓reduceIte, Nat.reduceEqDiff, Nat.reduceAdd, Nat.reduceLeDiff, Nat.reduceMul, Nat.reduceSub, Int.reduceLE, Int.reduceLT, Int.reduceEq, Int.reduceToNat, Int.reducePow, Int.reduceNeg]
        refine aend_ret _ rfl rfl ⟨?_, rfl⟩
        simp [fget, k5, ho]
      · refine bwp_seq fun K hK => bwp_region rfl ?_
        simp -implicitDefEqProofs only [go_sem, ↓reduceIte, Nat.reduceEqDiff, Nat.reduceAdd, Nat.reduceLeDiff, Nat.reduceMul, Nat.reduceSub, Int.reduceLE, Int.reduceLT, Int.reduceEq, Int.reduceToNat, Int.reducePow, Int.reduceNeg, ho]
        refine hK _ ?_; clear hK
        refine bwp_cond false (by simp [ev, fget, ho]) (fun h => nomatch h) (fun _ => ?_)
        refine bwp_skip ?_
        refine hK3 _ ?_; clear hK3
        refine bwp_seq fun K hK => bwp_region rfl ?_
        simp -implicitDefEqProofs only [go_sem, ↓reduceIte, Nat.reduceEqDiff, Nat.reduceAdd, Nat.reduceLeDiff, Nat.reduceMul, Nat.reduceSub, Int.reduceLE, Int.reduceLT, Int.reduceEq, Int.reduceToNat, Int.reducePow, Int.reduceNeg]
        repeat' (first
          | (refine gateK_split (fun hb => ?_) (fun hb => ?_) <;> simp -implicitDefEqProofs only [go_sem, ↓reduceIte, Nat.reduceEqDiff, Nat.reduceAdd, Nat.reduceLeDiff, Nat.reduceMul, Nat.reduceSub, Int.reduceLE, Int.reduceLT, Int.reduceEq, Int.reduceToNat, Int.reducePow, Int.reduceNeg, hb])
          | (refine dGateK_split (fun hb => ?_) (fun hb => ?_) <;> simp -implicitDefEqProofs only [go_sem, ↓reduceIte, Nat.reduceEqDiff, Nat.reduceAdd, Nat.reduceLeDiff, Nat.reduceMul, Nat.reduceSub, Int.reduceLE, Int.reduceLT, Int.reduceEq, Int.reduceToNat, Int.reducePow, Int.reduceNeg, hb])
          | (rw [if_pos (by (try simp only [List.length_append, List.length_cons, List.length_nil]); omega)]; simp -implicitDefEqProofs only [go_sem, ↓reduceIte, Nat.reduceEqDiff, Nat.reduceAdd, Nat.reduceLeDiff, Nat.reduceMul, Nat.reduceSub, Int.reduceLE, Int.reduceLT, Int.reduceEq, Int.reduceToNat, Int.reducePow, Int.reduceNeg]))
        refine hK _ ?_; clear hK
        refine bwp_ret ?_
        simp -implicitDefEqProofs only [go_sem, ↓reduceIte, Nat.reduceEqDiff, Nat.reduceAdd, Nat.reduceLeDiff, Nat.reduceMul, Nat.reduceSub, Int.reduceLE, Int.reduceLT, Int.reduceEq, Int.reduceToNat, Int.reducePow, Int.reduceNeg]
        refine aend_ret _ rfl rfl ⟨?_, rfl⟩
        simp [fget, k5, ho]
    rw [if_neg k5] at h0
    refine bwp_seq fun K hK => bwp_region rfl ?_
    simp -implicitDefEqProofs only [go_sem, ↓reduceIte, Nat.reduceEqDiff, Nat.reduceAdd, Nat.reduceLeDiff, Nat.reduceMul, Nat.reduceSub, Int.reduceLE, Int.reduceLT, Int.reduceEq, Int.reduceToNat, Int.reducePow, Int.reduceNeg, k5]
    refine hK _ ?_; clear hK
    refine bwp_cond false (by simp [ev, fget, k5]) (fun h => nomatch h) (fun _ => ?_)
    refine bwp_skip ?_
    simp -implicitDefEqProofs only [go_sem, ↓reduceIte, Nat.reduceEqDiff, Nat.reduceAdd, Nat.reduceLeDiff, Nat.reduceMul, Nat.reduceSub, Int.reduceLE, Int.reduceLT, Int.reduceEq, Int.reduceToNat, Int.reducePow, Int.reduceNeg]
    refine hK1 _ ?_; clear hK1
    by_cases k6 : x.kind = 6
    · rw [if_pos k6] at h0
      simp only [Bool.and_eq_true] at h0
      have c1 := refText_pure i6
      have c3 := refOperand_pure i3 i2 h0.1.1.2
      have c4 := refOperand_pure i5 i4 h0.1.2
      refine bwp_seq fun K hK => bwp_region_draw rfl rfl ?_
      simp -implicitDefEqProofs only [go_sem, ↓reduceIte, Nat.reduceEqDiff, Nat.reduceAdd, Nat.reduceLeDiff, Nat.reduceMul, Nat.reduceSub, Int.reduceLE, Int.reduceLT, Int.reduceEq, Int.reduceToNat, Int.reducePow, Int.reduceNeg]
      repeat' (first
        | (refine gateK_split (fun hb => ?_) (fun hb => ?_) <;> simp -implicitDefEqProofs only [go_sem, ↓reduceIte, Nat.reduceEqDiff, Nat.reduceAdd, Nat.reduceLeDiff, Nat.reduceMul, Nat.reduceSub, Int.reduceLE, Int.reduceLT, Int.reduceEq, Int.reduceToNat, Int.reducePow, Int.reduceNeg, hb])
        | (refine dGateK_split (fun hb => ?_) (fun hb => ?_) <;> simp -implicitDefEqProofs only [go_sem, ↓reduceIte, Nat.reduceEqDiff, Nat.reduceAdd, Nat.reduceLeDiff, Nat.reduceMul, Nat.reduceSub, Int.reduceLE, Int.reduceLT, Int.reduceEq, Int.reduceToNat, Int.reducePow, Int.reduceNeg, hb])
        | (refine callK_pure (c1) rfl rfl ?_; simp -implicitDefEqProofs only [go_sem, ↓reduceIte, Nat.reduceEqDiff, Nat.reduceAdd, Nat.reduceLeDiff, Nat.reduceMul, Nat.reduceSub, Int.reduceLE, Int.reduceLT, Int.reduceEq, Int.reduceToNat, Int.reducePow, Int.reduceNeg])
        | (refine dCallK_pure (c1) rfl rfl ?_; simp -implicitDefEqProofs only [go_sem, ↓reduceIte, Nat.reduceEqDiff, Nat.reduceAdd, Nat.reduceLeDiff, Nat.reduceMul, Nat.reduceSub, Int.reduceLE, Int.reduceLT, Int.reduceEq, Int.reduceToNat, Int.reducePow, Int.reduceNeg])
        | (refine callK_pure (c3) rfl rfl ?_; simp -implicitDefEqProofs only [go_sem, ↓reduceIte, Nat.reduceEqDiff, Nat.reduceAdd, Nat.reduceLeDiff, Nat.reduceMul, Nat.reduceSub, Int.reduceLE, Int.reduceLT, Int.reduceEq, Int.reduceToNat, Int.reducePow, Int.reduceNeg])
        | (refine dCallK_pure (c3) rfl rfl ?_; simp -implicitDefEqProofs only [go_sem, ↓reduceIte, Nat.reduceEqDiff, Nat.reduceAdd, Nat.reduceLeDiff, Nat.reduceMul, Nat.reduceSub, Int.reduceLE, Int.reduceLT, Int.reduceEq, Int.reduceToNat, Int.reducePow, Int.reduceNeg])
        | (refine callK_pure (c4) rfl rfl ?_; simp -implicitDefEqProofs only [go_sem, ↓reduceIte, Nat.reduceEqDiff, Nat.reduceAdd, Nat.reduceLeDiff, Nat.reduceMul, Nat.reduceSub, Int.reduceLE, Int.reduceLT, Int.reduceEq, Int.reduceToNat, Int.reducePow, Int.reduceNeg])
        | (refine dCallK_pure (c4) rfl rfl ?_; simp -implicitDefEqProofs only [go_sem, ↓reduceIte, Nat.reduceEqDiff, Nat.reduceAdd, Nat.reduceLeDiff, Nat.reduceMul, Nat.reduceSub, Int.reduceLE, Int.reduceLT, Int.reduceEq, Int.reduceToNat, Int.reducePow, Int.reduceNeg])
        | (rw [if_pos (by (try simp only [List.length_append, List.length_cons, List.length_nil]); omega)]; simp -implicitDefEqProofs only [go_sem, ↓reduceIte, Nat.reduceEqDiff, Nat.reduceAdd, Nat.reduceLeDiff, Nat.reduceMul, Nat.reduceSub, Int.reduceLE, Int.reduceLT, Int.reduceEq, Int.reduceToNat, Int.reducePow, Int.reduceNeg]))
      refine ⟨rfl, hK _ ?_⟩; clear hK
      refine bwp_ret ?_
      simp -implicitDefEqProofs only [go_sem, ↓reduceIte, Nat.reduceEqDiff, Nat.reduceAdd, Nat.reduceLeDiff, Nat.reduceMul, Nat.reduceSub, Int.reduceLE, Int.reduceLT, Int.reduceEq, Int.reduceToNat, Int.reducePow, Int.reduceNeg]
      refine aend_ret _ rfl rfl ⟨?_, rfl⟩
      simp [fget, k6]
    · rw [if_neg k6] at h0
      cases h0

end Go.Proofs.YtgfkgngpganllaaDoor
