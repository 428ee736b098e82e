/- What the statement's proof leans on, part 7: the layer, the walks, the plain laws. -/
import Derived.Test.YtpfbljkfbjjlkaaGreatDoorMJZ2c
import Derived.Test.YtpfbljkfbjjlkaaGreatDoorMJZ2d
import Derived.Test.YtpfbljkfbjjlkaaGreatDoorMJZ2e
import Derived.Test.YtpfbljkfbjjlkaaGreatDoorMJZ2f
set_option linter.unusedSimpArgs false
set_option linter.unusedVariables false

/- The document's texts of parts. -/
namespace Go.Proofs.YtpfbljkfbjjlkaaGreatDoor
open Go Go.Jq
set_option maxRecDepth 100000
set_option linter.unusedSimpArgs false
theorem refLoc_pure {n : Int} (h : isLocB n = true) : Pure Tryz.prog 22 [.d (.int .i64 n)] (.d (.str (locT n))) := by
  have hb := (isLocB_iff n).1 h
  have hw : IntKind.u8.wrap n = n := wrap_u8 (by omega) (by omega)
  refine acalls_of Tryz.func22 ac22_ok Tryz.ntmps22 Tryz.results22 rfl ?_
  unfold ac22
  refine bwp_seq fun K hK => bwp_region rfl ?_
  simp -implicitDefEqProofs only [go_sem, ↓reduceIte]
  refine hK _ ?_; clear hK
  refine bwp_seq fun K hK => bwp_region rfl ?_
  simp -implicitDefEqProofs only [go_sem, ↓reduceIte, hw]
  refine hK _ ?_; clear hK
  refine bwp_ret ?_
  simp only [go_sem]
  refine aend_ret _ rfl rfl ⟨?_, rfl⟩
  simp [fget, locT_ok h]
theorem refReg_pure {n : Int} (h : I64 n) : Pure Tryz.prog 83 [.d (.int .i64 n)] (.d (.str (regT n))) := by
  refine acalls_of Tryz.func83 ac83_ok Tryz.ntmps83 Tryz.results83 rfl ?_
  unfold ac83
  refine bwp_seq fun K hK => bwp_region rfl ?_
  simp -implicitDefEqProofs only [go_sem, ↓reduceIte]
  refine hK _ ?_; clear hK
  refine bwp_seq fun K hK => bwp_region rfl ?_
  simp -implicitDefEqProofs only [go_sem, ↓reduceIte]
  refine callK_pure (refText_pure h) rfl rfl ?_
  have hl := itoa_len h
  have hl2 : 1 + (Lib.itoa n).length ≤ 9223372036854775807 := by omega
  simp -implicitDefEqProofs only [go_sem, ↓reduceIte, hl2]
  refine hK _ ?_; clear hK
  refine bwp_ret ?_
  simp only [go_sem]
  refine aend_ret _ rfl rfl ⟨?_, rfl⟩
  simp [fget, regT]
theorem refOperand_pure {o : Opnd} (h : I64 o.value) (h' : I64 o.reg) (hok : isOpB o = true) : Pure Tryz.prog 82 [.agg [.d (.int .i64 o.reg), .d (.int .i64 o.value)]] (.d (.str (opT o))) := by
  have hreg : o.reg = -1 ∨ 0 ≤ o.reg := by
    simp only [isOpB, isRegB, Bool.or_eq_true, Bool.and_eq_true, decide_eq_true_eq] at hok
    omega
  refine acalls_of Tryz.func82 ac82_ok Tryz.ntmps82 Tryz.results82 rfl ?_
  unfold ac82
  refine bwp_seq fun K hK => bwp_region rfl ?_
  simp -implicitDefEqProofs only [go_sem, ↓reduceIte]
  refine hK _ ?_; clear hK
  refine bwp_seq fun K1 hK1 => ?_
  by_cases h1 : o.reg = -1
  · have h2 : o.reg < 0 := by omega
    refine bwp_seq fun K hK => bwp_region rfl ?_
    simp -implicitDefEqProofs only [go_sem, ↓reduceIte, h2]
    refine hK _ ?_; clear hK
    refine bwp_cond true (by simp [ev, fget, h2]) (fun _ => ?_) (fun h => nomatch h)
    refine bwp_seq fun K hK => bwp_region rfl ?_
    simp -implicitDefEqProofs only [go_sem, ↓reduceIte]
    refine callK_pure (refText_pure h) rfl rfl ?_
    simp -implicitDefEqProofs only [go_sem, ↓reduceIte]
    refine hK _ ?_; clear hK
    refine bwp_ret ?_
    simp only [go_sem]
    refine aend_ret _ rfl rfl ⟨?_, rfl⟩
    simp [fget, opT, h1]
  · have h2 : ¬ o.reg < 0 := by omega
    refine bwp_seq fun K hK => bwp_region rfl ?_
    simp -implicitDefEqProofs only [go_sem, ↓reduceIte, h2]
    refine hK _ ?_; clear hK
    refine bwp_cond false (by simp [ev, fget, h2]) (fun h => nomatch h) (fun _ => ?_)
    refine bwp_skip ?_
    refine hK1 _ ?_; clear hK1
    refine bwp_seq fun K hK => bwp_region rfl ?_
    simp -implicitDefEqProofs only [go_sem, ↓reduceIte]
    refine callK_pure (refReg_pure h') rfl rfl ?_
    simp -implicitDefEqProofs only [go_sem, ↓reduceIte]
    refine hK _ ?_; clear hK
    refine bwp_ret ?_
    simp only [go_sem]
    refine aend_ret _ rfl rfl ⟨?_, rfl⟩
    simp [fget, opT, h1]
theorem insT_eq (x : Ins) (h : okInsB x = true) : insT x =
    if x.kind = 1 then [115, 116, 111, 114, 101, 32] ++ locT x.loc ++ [32] ++ opT x.a ++ [32, 59]
    else if x.kind = 2 then regT x.reg ++ [32, 61, 32, 108, 111, 97, 100, 32] ++ locT x.loc ++ [32, 59]
    else if x.kind = 3 then [102, 101, 110, 99, 101, 32, 59]
    else if x.kind = 4 then regT x.reg ++ [32, 61, 32, 99, 97, 115, 32] ++ locT x.loc ++ [32] ++ opT x.a ++ [32] ++ opT x.b ++ [32, 59]
    else if x.kind = 5 then (if 0 < x.op then regT x.reg ++ [32, 61, 32] ++ opT x.a ++ [32] ++ signT x.op ++ [32] ++ opT x.b else regT x.reg ++ [32, 61, 32] ++ opT x.a) ++ [32, 59]
    else [115, 107, 105, 112, 32] ++ Lib.itoa x.n ++ [32, 105, 102, 32] ++ opT x.a ++ [32, 61, 61, 32] ++ opT x.b ++ [32, 59] := by
  unfold insT partsI
  rw [if_pos h]
  by_cases k1 : x.kind = 1
  · simp [k1, Lib.join, List.intercalate]
  by_cases k2 : x.kind = 2
  · simp [k2, Lib.join, List.intercalate]
  by_cases k3 : x.kind = 3
  · simp [k3, Lib.join, List.intercalate]
  by_cases k4 : x.kind = 4
  · simp [k4, Lib.join, List.intercalate]
  by_cases k5 : x.kind = 5
  · by_cases ho : 0 < x.op
    · simp [k5, ho, Lib.join, List.intercalate]
    · simp [k5, ho, Lib.join, List.intercalate]
  · simp [k1, k2, k3, k4, k5, Lib.join, List.intercalate]
set_option maxHeartbeats 4000000 in
theorem refInsT_pure {x : Ins} (h : I64i x) : Pure Tryz.prog 24 [.agg (x.cells.map .d)] (.d (.str (insT x))) := by
  obtain ⟨i1, i2, i3, i4, i5, i6⟩ := h
  have hok := refIns_pure x
  rw [refIns_eq] at hok
  unfold Ins.cells at hok ⊢
  simp only [List.map_cons, List.map_nil] at hok ⊢
  refine acalls_of Tryz.func24 ac24_ok Tryz.ntmps24 Tryz.results24 rfl ?_
  unfold ac24
  refine bwp_seq fun K hK => bwp_region rfl ?_
  simp -implicitDefEqProofs only [go_sem, ↓reduceIte]
  refine hK _ ?_; clear hK
  refine bwp_seq fun K1 hK1 => ?_
  refine bwp_seq fun K hK => bwp_region rfl ?_
  simp -implicitDefEqProofs only [go_sem, ↓reduceIte]
  refine callK_pure hok rfl rfl ?_
  cases hb : okInsB x with
  | false =>
    simp -implicitDefEqProofs only [go_sem, ↓reduceIte]
    refine hK _ ?_; clear hK
    refine bwp_cond true (by simp [ev, fget]) (fun _ => ?_) (fun h => nomatch h)
    refine bwp_seq fun K hK => bwp_region rfl ?_
    simp -implicitDefEqProofs only [go_sem, ↓reduceIte]
    refine hK _ ?_; clear hK
    refine bwp_ret ?_
    simp only [go_sem]
    refine aend_ret _ rfl rfl ⟨?_, rfl⟩
    simp [fget, insT, hb]
  | true =>
    simp -implicitDefEqProofs only [go_sem, ↓reduceIte]
    refine hK _ ?_; clear hK
    refine bwp_cond false (by simp [ev, fget]) (fun h => nomatch h) (fun _ => ?_)
    refine bwp_skip ?_
    refine hK1 _ ?_; clear hK1
    rw [insT_eq x hb]
    have l1 := regT_len i1
    have l2 := opT_len i3 i2
    have l3 := opT_len i5 i4
    have l4 : (locT x.loc).length ≤ 4 := utf8_len _
    have l5 := itoa_len i6
    have l6 := signT_len x.op
    have h0 := hb
    unfold okInsB at h0
    refine bwp_seq fun K1 hK1 => ?_
    refine bwp_seq fun K hK => bwp_region rfl ?_
    simp -implicitDefEqProofs only [go_sem, ↓reduceIte]
    refine hK _ ?_; clear hK
    refine bwp_block ?_
    by_cases k1 : x.kind = 1
    · rw [if_pos k1] at h0
      simp only [Bool.and_eq_true] at h0
      have c1 := refLoc_pure h0.1.1
      have c2 := refOperand_pure i3 i2 h0.1.2
      refine bwp_seq fun K hK => bwp_region rfl ?_
      simp -implicitDefEqProofs only [go_sem, ↓reduceIte, k1]
      refine hK _ ?_; clear hK
      refine bwp_cond true (by simp [ev, fget]) (fun _ => ?_) (fun h => nomatch h)
      refine bwp_seq fun K hK => bwp_region_draw rfl rfl ?_
      simp -implicitDefEqProofs only [go_sem, ↓reduceIte]
      repeat' (first
        | (refine gateK_split (fun hb => ?_) (fun hb => ?_) <;> simp -implicitDefEqProofs only [go_sem, ↓reduceIte, hb])
        | (refine dGateK_split (fun hb => ?_) (fun hb => ?_) <;> simp -implicitDefEqProofs only [go_sem, ↓reduceIte, hb])
        | (refine callK_pure (c1) rfl rfl ?_; simp -implicitDefEqProofs only [go_sem, ↓reduceIte])
        | (refine dCallK_pure (c1) rfl rfl ?_; simp -implicitDefEqProofs only [go_sem, ↓reduceIte])
        | (refine callK_pure (c2) rfl rfl ?_; simp -implicitDefEqProofs only [go_sem, ↓reduceIte])
        | (refine dCallK_pure (c2) rfl rfl ?_; simp -implicitDefEqProofs only [go_sem, ↓reduceIte])
        | (rw [if_pos (by (try simp only [List.length_append, List.length_cons, List.length_nil, List.length_map]); omega)]; simp -implicitDefEqProofs only [go_sem, ↓reduceIte]))
      refine ⟨rfl, hK _ ?_⟩; clear hK
      refine bwp_ret ?_
      simp -implicitDefEqProofs only [go_sem, ↓reduceIte]
      refine aend_ret _ rfl rfl ⟨?_, rfl⟩
      simp [fget, k1]
    rw [if_neg k1] at h0
    refine bwp_seq fun K hK => bwp_region rfl ?_
    simp -implicitDefEqProofs only [go_sem, ↓reduceIte, k1]
    refine hK _ ?_; clear hK
    refine bwp_cond false (by simp [ev, fget, k1]) (fun h => nomatch h) (fun _ => ?_)
    by_cases k2 : x.kind = 2
    · rw [if_pos k2] at h0
      simp only [Bool.and_eq_true] at h0
      have c1 := refLoc_pure h0.1.1
      have c2 := refReg_pure i1
      refine bwp_seq fun K hK => bwp_region rfl ?_
      simp -implicitDefEqProofs only [go_sem, ↓reduceIte, k2]
      refine hK _ ?_; clear hK
      refine bwp_cond true (by simp [ev, fget]) (fun _ => ?_) (fun h => nomatch h)
      refine bwp_seq fun K hK => bwp_region_draw rfl rfl ?_
      simp -implicitDefEqProofs only [go_sem, ↓reduceIte]
      repeat' (first
        | (refine gateK_split (fun hb => ?_) (fun hb => ?_) <;> simp -implicitDefEqProofs only [go_sem, ↓reduceIte, hb])
        | (refine dGateK_split (fun hb => ?_) (fun hb => ?_) <;> simp -implicitDefEqProofs only [go_sem, ↓reduceIte, hb])
        | (refine callK_pure (c1) rfl rfl ?_; simp -implicitDefEqProofs only [go_sem, ↓reduceIte])
        | (refine dCallK_pure (c1) rfl rfl ?_; simp -implicitDefEqProofs only [go_sem, ↓reduceIte])
        | (refine callK_pure (c2) rfl rfl ?_; simp -implicitDefEqProofs only [go_sem, ↓reduceIte])
        | (refine dCallK_pure (c2) rfl rfl ?_; simp -implicitDefEqProofs only [go_sem, ↓reduceIte])
        | (rw [if_pos (by (try simp only [List.length_append, List.length_cons, List.length_nil, List.length_map]); omega)]; simp -implicitDefEqProofs only [go_sem, ↓reduceIte]))
      refine ⟨rfl, hK _ ?_⟩; clear hK
      refine bwp_ret ?_
      simp -implicitDefEqProofs only [go_sem, ↓reduceIte]
      refine aend_ret _ rfl rfl ⟨?_, rfl⟩
      simp [fget, k2]
    rw [if_neg k2] at h0
    refine bwp_seq fun K hK => bwp_region rfl ?_
    simp -implicitDefEqProofs only [go_sem, ↓reduceIte, k2]
    refine hK _ ?_; clear hK
    refine bwp_cond false (by simp [ev, fget, k2]) (fun h => nomatch h) (fun _ => ?_)
    by_cases k3 : x.kind = 3
    · refine bwp_seq fun K hK => bwp_region rfl ?_
      simp -implicitDefEqProofs only [go_sem, ↓reduceIte, k3]
      refine hK _ ?_; clear hK
      refine bwp_cond true (by simp [ev, fget]) (fun _ => ?_) (fun h => nomatch h)
      refine bwp_seq fun K hK => bwp_region rfl ?_
      simp -implicitDefEqProofs only [go_sem, ↓reduceIte]
      refine hK _ ?_; clear hK
      refine bwp_ret ?_
      simp -implicitDefEqProofs only [go_sem, ↓reduceIte]
      refine aend_ret _ rfl rfl ⟨?_, rfl⟩
      simp [fget, k3]
    rw [if_neg k3] at h0
    refine bwp_seq fun K hK => bwp_region rfl ?_
    simp -implicitDefEqProofs only [go_sem, ↓reduceIte, k3]
    refine hK _ ?_; clear hK
    refine bwp_cond false (by simp [ev, fget, k3]) (fun h => nomatch h) (fun _ => ?_)
    by_cases k4 : x.kind = 4
    · rw [if_pos k4] at h0
      simp only [Bool.and_eq_true] at h0
      have c1 := refLoc_pure h0.1.1.1.1
      have c2 := refReg_pure i1
      have c3 := refOperand_pure i3 i2 h0.1.1.2
      have c4 := refOperand_pure i5 i4 h0.1.2
      refine bwp_seq fun K hK => bwp_region rfl ?_
      simp -implicitDefEqProofs only [go_sem, ↓reduceIte, k4]
      refine hK _ ?_; clear hK
      refine bwp_cond true (by simp [ev, fget]) (fun _ => ?_) (fun h => nomatch h)
      refine bwp_seq fun K hK => bwp_region_draw rfl rfl ?_
      simp -implicitDefEqProofs only [go_sem, ↓reduceIte]
      repeat' (first
        | (refine gateK_split (fun hb => ?_) (fun hb => ?_) <;> simp -implicitDefEqProofs only [go_sem, ↓reduceIte, hb])
        | (refine dGateK_split (fun hb => ?_) (fun hb => ?_) <;> simp -implicitDefEqProofs only [go_sem, ↓reduceIte, hb])
        | (refine callK_pure (c1) rfl rfl ?_; simp -implicitDefEqProofs only [go_sem, ↓reduceIte])
        | (refine dCallK_pure (c1) rfl rfl ?_; simp -implicitDefEqProofs only [go_sem, ↓reduceIte])
        | (refine callK_pure (c2) rfl rfl ?_; simp -implicitDefEqProofs only [go_sem, ↓reduceIte])
        | (refine dCallK_pure (c2) rfl rfl ?_; simp -implicitDefEqProofs only [go_sem, ↓reduceIte])
        | (refine callK_pure (c3) rfl rfl ?_; simp -implicitDefEqProofs only [go_sem, ↓reduceIte])
        | (refine dCallK_pure (c3) rfl rfl ?_; simp -implicitDefEqProofs only [go_sem, ↓reduceIte])
        | (refine callK_pure (c4) rfl rfl ?_; simp -implicitDefEqProofs only [go_sem, ↓reduceIte])
        | (refine dCallK_pure (c4) rfl rfl ?_; simp -implicitDefEqProofs only [go_sem, ↓reduceIte])
        | (rw [if_pos (by (try simp only [List.length_append, List.length_cons, List.length_nil, List.length_map]); omega)]; simp -implicitDefEqProofs only [go_sem, ↓reduceIte]))
      refine ⟨rfl, hK _ ?_⟩; clear hK
      refine bwp_ret ?_
      simp -implicitDefEqProofs only [go_sem, ↓reduceIte]
      refine aend_ret _ rfl rfl ⟨?_, rfl⟩
      simp [fget, k4]
    rw [if_neg k4] at h0
    refine bwp_seq fun K hK => bwp_region rfl ?_
    simp -implicitDefEqProofs only [go_sem, ↓reduceIte, k4]
    refine hK _ ?_; clear hK
    refine bwp_cond false (by simp [ev, fget, k4]) (fun h => nomatch h) (fun _ => ?_)
    by_cases k5 : x.kind = 5
    · rw [if_pos k5] at h0
      simp only [Bool.and_eq_true, decide_eq_true_eq] at h0
      have c2 := refReg_pure i1
      have c3 := refOperand_pure i3 i2 h0.1.1.1.1.1.2
      have c4 := refOperand_pure i5 i4 h0.1.1.1.1.2
      refine bwp_seq fun K hK => bwp_region rfl ?_
      simp -implicitDefEqProofs only [go_sem, ↓reduceIte, k5]
      refine hK _ ?_; clear hK
      refine bwp_cond true (by simp [ev, fget]) (fun _ => ?_) (fun h => nomatch h)
      refine bwp_seq fun K hK => bwp_region_draw rfl rfl ?_
      simp -implicitDefEqProofs only [go_sem, ↓reduceIte]
      repeat' (first
        | (refine gateK_split (fun hb => ?_) (fun hb => ?_) <;> simp -implicitDefEqProofs only [go_sem, ↓reduceIte, hb])
        | (refine dGateK_split (fun hb => ?_) (fun hb => ?_) <;> simp -implicitDefEqProofs only [go_sem, ↓reduceIte, hb])
        | (refine callK_pure (c2) rfl rfl ?_; simp -implicitDefEqProofs only [go_sem, ↓reduceIte])
        | (refine dCallK_pure (c2) rfl rfl ?_; simp -implicitDefEqProofs only [go_sem, ↓reduceIte])
        | (refine callK_pure (c3) rfl rfl ?_; simp -implicitDefEqProofs only [go_sem, ↓reduceIte])
        | (refine dCallK_pure (c3) rfl rfl ?_; simp -implicitDefEqProofs only [go_sem, ↓reduceIte])
        | (rw [if_pos (by (try simp only [List.length_append, List.length_cons, List.length_nil, List.length_map]); omega)]; simp -implicitDefEqProofs only [go_sem, ↓reduceIte]))
      refine ⟨rfl, hK _ ?_⟩; clear hK
      refine bwp_seq fun K3 hK3 => ?_
      by_cases ho : 0 < x.op
      · have c5 := refSign_pure x.op
        refine bwp_seq fun K hK => bwp_region rfl ?_
        simp -implicitDefEqProofs only [go_sem, ↓reduceIte, ho]
        refine hK _ ?_; clear hK
        refine bwp_cond true (by simp [ev, fget, ho]) (fun _ => ?_) (fun h => nomatch h)
        refine bwp_region_draw rfl rfl ?_
        simp -implicitDefEqProofs only [go_sem, ↓reduceIte]
        repeat' (first
          | (refine gateK_split (fun hb => ?_) (fun hb => ?_) <;> simp -implicitDefEqProofs only [go_sem, ↓reduceIte, hb])
          | (refine dGateK_split (fun hb => ?_) (fun hb => ?_) <;> simp -implicitDefEqProofs only [go_sem, ↓reduceIte, hb])
          | (refine callK_pure (c4) rfl rfl ?_; simp -implicitDefEqProofs only [go_sem, ↓reduceIte])
          | (refine dCallK_pure (c4) rfl rfl ?_; simp -implicitDefEqProofs only [go_sem, ↓reduceIte])
          | (refine callK_pure (c5) rfl rfl ?_; simp -implicitDefEqProofs only [go_sem, ↓reduceIte])
          | (refine dCallK_pure (c5) rfl rfl ?_; simp -implicitDefEqProofs only [go_sem, ↓reduceIte])
          | (rw [if_pos (by (try simp only [List.length_append, List.length_cons, List.length_nil, List.length_map]); omega)]; simp -implicitDefEqProofs only [go_sem, ↓reduceIte]))
        refine ⟨rfl, hK3 _ ?_⟩; clear hK3
        refine bwp_seq fun K hK => bwp_region rfl ?_
        simp -implicitDefEqProofs only [go_sem, ↓reduceIte]
        repeat' (first
          | (refine gateK_split (fun hb => ?_) (fun hb => ?_) <;> simp -implicitDefEqProofs only [go_sem, ↓reduceIte, hb])
          | (refine dGateK_split (fun hb => ?_) (fun hb => ?_) <;> simp -implicitDefEqProofs only [go_sem, ↓reduceIte, hb])
          | (rw [if_pos (by (try simp only [List.length_append, List.length_cons, List.length_nil, List.length_map]); omega)]; simp -implicitDefEqProofs only [go_sem, ↓reduceIte]))
        refine hK _ ?_; clear hK
        refine bwp_ret ?_
        simp -implicitDefEqProofs only [go_sem, ↓reduceIte]
        refine aend_ret _ rfl rfl ⟨?_, rfl⟩
        simp [fget, k5, ho]
      · refine bwp_seq fun K hK => bwp_region rfl ?_
        simp -implicitDefEqProofs only [go_sem, ↓reduceIte, ho]
        refine hK _ ?_; clear hK
        refine bwp_cond false (by simp [ev, fget, ho]) (fun h => nomatch h) (fun _ => ?_)
        refine bwp_skip ?_
        refine hK3 _ ?_; clear hK3
        refine bwp_seq fun K hK => bwp_region rfl ?_
        simp -implicitDefEqProofs only [go_sem, ↓reduceIte]
        repeat' (first
          | (refine gateK_split (fun hb => ?_) (fun hb => ?_) <;> simp -implicitDefEqProofs only [go_sem, ↓reduceIte, hb])
          | (refine dGateK_split (fun hb => ?_) (fun hb => ?_) <;> simp -implicitDefEqProofs only [go_sem, ↓reduceIte, hb])
          | (rw [if_pos (by (try simp only [List.length_append, List.length_cons, List.length_nil, List.length_map]); omega)]; simp -implicitDefEqProofs only [go_sem, ↓reduceIte]))
        refine hK _ ?_; clear hK
        refine bwp_ret ?_
        simp -implicitDefEqProofs only [go_sem, ↓reduceIte]
        refine aend_ret _ rfl rfl ⟨?_, rfl⟩
        simp [fget, k5, ho]
    rw [if_neg k5] at h0
    refine bwp_seq fun K hK => bwp_region rfl ?_
    simp -implicitDefEqProofs only [go_sem, ↓reduceIte, k5]
    refine hK _ ?_; clear hK
    refine bwp_cond false (by simp [ev, fget, k5]) (fun h => nomatch h) (fun _ => ?_)
    refine bwp_skip ?_
    simp -implicitDefEqProofs only [go_sem, ↓reduceIte]
    refine hK1 _ ?_; clear hK1
    by_cases k6 : x.kind = 6
    · rw [if_pos k6] at h0
      simp only [Bool.and_eq_true] at h0
      have c1 := refText_pure i6
      have c3 := refOperand_pure i3 i2 h0.1.1.2
      have c4 := refOperand_pure i5 i4 h0.1.2
      refine bwp_seq fun K hK => bwp_region_draw rfl rfl ?_
      simp -implicitDefEqProofs only [go_sem, ↓reduceIte]
      repeat' (first
        | (refine gateK_split (fun hb => ?_) (fun hb => ?_) <;> simp -implicitDefEqProofs only [go_sem, ↓reduceIte, hb])
        | (refine dGateK_split (fun hb => ?_) (fun hb => ?_) <;> simp -implicitDefEqProofs only [go_sem, ↓reduceIte, hb])
        | (refine callK_pure (c1) rfl rfl ?_; simp -implicitDefEqProofs only [go_sem, ↓reduceIte])
        | (refine dCallK_pure (c1) rfl rfl ?_; simp -implicitDefEqProofs only [go_sem, ↓reduceIte])
        | (refine callK_pure (c3) rfl rfl ?_; simp -implicitDefEqProofs only [go_sem, ↓reduceIte])
        | (refine dCallK_pure (c3) rfl rfl ?_; simp -implicitDefEqProofs only [go_sem, ↓reduceIte])
        | (refine callK_pure (c4) rfl rfl ?_; simp -implicitDefEqProofs only [go_sem, ↓reduceIte])
        | (refine dCallK_pure (c4) rfl rfl ?_; simp -implicitDefEqProofs only [go_sem, ↓reduceIte])
        | (rw [if_pos (by (try simp only [List.length_append, List.length_cons, List.length_nil, List.length_map]); omega)]; simp -implicitDefEqProofs only [go_sem, ↓reduceIte]))
      refine ⟨rfl, hK _ ?_⟩; clear hK
      refine bwp_ret ?_
      simp -implicitDefEqProofs only [go_sem, ↓reduceIte]
      refine aend_ret _ rfl rfl ⟨?_, rfl⟩
      simp [fget, k6]
    · rw [if_neg k6] at h0
      cases h0
end Go.Proofs.YtpfbljkfbjjlkaaGreatDoor

/- The document's text of a condition. -/
namespace Go.Proofs.YtpfbljkfbjjlkaaGreatDoor
open Go Go.Jq
set_option maxRecDepth 100000
set_option linter.unusedSimpArgs false
def rowP (first : Bool) (l : List Atom) : List UInt8 := if l = [] then [] else (if first then [32] else [32, 124, 32]) ++ rowT l
def rowsP (rows : List (List Atom)) : List UInt8 := if rows = [] then [] else [32] ++ Lib.join (rows.map rowT) [32, 124, 32]
theorem join_snoc (s x : List UInt8) {l : List (List UInt8)} (h : l ≠ []) : Lib.join (l ++ [x]) s = Lib.join l s ++ s ++ x := by
  rw [join_app s l [x] h (by simp), Lib.join_one]
theorem rowP_snoc (first : Bool) (l : List Atom) (a : Atom) : rowP first (l ++ [a]) = rowP first l ++ (if l = [] then (if first then [32] else [32, 124, 32]) else [32, 38, 32]) ++ atomT a := by
  unfold rowP rowT
  rw [if_neg (by simp), List.map_append]
  by_cases h : l = []
  · subst h; simp [Lib.join_one]
  · rw [if_neg h, if_neg h, List.map_singleton, join_snoc _ _ (by simpa using h)]
    simp
theorem rowsP_snoc (rows : List (List Atom)) (l : List Atom) (hl : l ≠ []) : rowsP (rows ++ [l]) = rowsP rows ++ rowP (decide (rows = [])) l := by
  unfold rowsP rowP
  rw [if_neg (by simp), if_neg hl, List.map_append]
  by_cases h : rows = []
  · subst h; simp [Lib.join_one]
  · rw [if_neg h, List.map_singleton, join_snoc _ _ (by simpa using h)]
    simp [h]
theorem rowP_len {first : Bool} {l : List Atom} (h : l.length ≤ 5000000000000 ∧ ∀ a ∈ l, I64a a) : (rowP first l).length ≤ 350000000000003 := by
  have := rowT_len2 h
  unfold rowP
  split
  · simp
  · split <;> simp <;> omega
theorem rowsP_len {rows : List (List Atom)} (h : FewC2 rows) : (rowsP rows).length ≤ 4200000000000037 := by
  have := rowsT_len2 h
  unfold rowsP
  split
  · simp
  · simp; omega
def rdS (kd : Int) (A : DV) (s : List UInt8) (ex : Fr) : St := ⟨ex ++ [(1, .ptr 0 0), (3, .d (.str s))], [(0, [.d (.int .i64 kd), .d A])], 1⟩
set_option maxHeartbeats 4000000 in
theorem rd_row {kd : Int} {A : DV} {rows : List (List Atom)} (hA : IsSl2 Atom.cells rows A) {i : Nat} (hi : i < rows.length) (h12 : rows[i].length ≤ 5000000000000) (ha : ∀ a ∈ rows[i], I64a a) (hok : ∀ a ∈ rows[i], okAtomB a = true) {s : List UInt8} (hs : s.length ≤ 5000000000000000) {Q : Exit → St → Prop}
    (hQ : Q (.exit 2) (rdS kd A (s ++ rowP (decide (i = 0)) rows[i]) [(4, .d (.int .i64 i))])) :
    BWP Tryz.prog (mbound []) 83 (.loop ac25L0) (rdS kd A s [(5, .d (.int .i64 (0 : Nat))), (4, .d (.int .i64 i))]) Q := by
  have hbig := hA.big
  obtain ⟨ts, d, rest0, hAe, hd1, hjc, hD⟩ := hA.at i hi
  have hi' : (i : Int) < rows.length := by omega
  generalize rows[i] = l at *
  have e0 : s = s ++ rowP (decide (i = 0)) (l.take 0) := by simp [rowP]
  rw [e0]
  refine bwp_count (fun k => rdS kd A (s ++ rowP (decide (i = 0)) (l.take k)) [(5, .d (.int .i64 k)), (4, .d (.int .i64 i))]) l.length ?_
  intro k hk
  have hbl : (rowP (decide (i = 0)) (l.take k)).length ≤ 350000000000003 := rowP_len ⟨by simp; omega, fun a h => ha a (List.mem_of_mem_take h)⟩
  have hemp : (l.take k = []) ↔ k = 0 ∨ l = [] := by rw [List.take_eq_nil_iff]
  generalize hX : s ++ rowP (decide (i = 0)) (l.take k) = X
  have hXl : X.length ≤ 5400000000000000 := by rw [← hX, List.length_append]; omega
  unfold ac25L0 rdS
  simp only [List.cons_append, List.nil_append]
  refine bwp_seq fun K1 hK1 => ?_
  by_cases hlt : k < l.length
  · have hlt' : (k : Int) < l.length := by omega
    obtain ⟨cs, rest, hDe, hdrop, hcs⟩ := hD.at atom_len (by omega) k hlt
    obtain ⟨a1, a2, a3⟩ := ha l[k] (List.getElem_mem hlt)
    have hoka := hok l[k] (List.getElem_mem hlt)
    have hln : l ≠ [] := fun h => by rw [h] at hlt; simp at hlt
    have hnx : s ++ rowP (decide (i = 0)) (l.take (k + 1)) = X ++ (if k = 0 then (if i = 0 then [32] else [32, 124, 32]) else [32, 38, 32]) ++ atomT l[k] := by
      rw [List.take_succ_eq_append_getElem hlt, rowP_snoc, ← hX]
      have : (l.take k = []) = (k = 0) := by rw [propext hemp]; simp [hln]
      simp only [this, decide_eq_true_eq, List.append_assoc]
    generalize l[k] = a at hdrop a1 a2 a3 hoka hnx
    have hw : IntKind.i64.wrap ((k : Int) + 1) = ((k + 1 : Nat) : Int) := by rw [wrap_i64 (by omega) (by omega)]; rfl
    have l1 := itoa_len a1
    have l2 := regT_len a2
    have l3 := itoa_len a3
    have l4 : (locT a.loc).length ≤ 4 := utf8_len _
    refine bwp_seq fun K hK => bwp_region rfl ?_
    simp -implicitDefEqProofs only [go_sem, ↓reduceIte, hAe, hi', Int.natCast_nonneg, Int.toNat_natCast, hd1, hjc, hD.len, hlt']
    refine hK _ ?_; clear hK
    refine bwp_cond true (by simp [ev, fget, hlt']) (fun _ => ?_) (fun h => nomatch h)
    refine bwp_skip ?_
    refine hK1 _ ?_; clear hK1
    refine bwp_seq fun K1 hK1 => ?_
    refine bwp_block ?_
    refine bwp_seq fun K hK => bwp_region rfl ?_
    simp -implicitDefEqProofs only [go_sem, ↓reduceIte, hAe, hi', hlt', Int.natCast_nonneg, Int.toNat_natCast, hd1, hjc, hDe, hcs, hdrop, Atom.cells]
    refine hK _ ?_; clear hK
    refine bwp_seq fun K2 hK2 => ?_
    have fin2 : ∀ (S : St) (Y : List UInt8), Y.length ≤ 5500000000000000 → (k = 0 → i = 0 → Y = X) → (k = 0 → i ≠ 0 → Y = X ++ [32, 124]) → (k ≠ 0 → Y = X ++ [32, 38]) →
        Leads (mbound []) 83 S ⟨[(6, .ptr 1 0), (3, .d (.str Y)), (5, .d (.int .i64 k)), (4, .d (.int .i64 i)), (1, .ptr 0 0)], [(0, [.d (.int .i64 kd), .d A]), (1, (Atom.cells a).map .d)], 2⟩ → K2 S := by
      intro S Y hYl y1 y2 y3 hS
      have hY : s ++ rowP (decide (i = 0)) (l.take (k + 1)) = Y ++ [32] ++ atomT a := by
        rw [hnx]
        by_cases hk0 : k = 0
        · by_cases hi0 : i = 0
          · rw [y1 hk0 hi0]; simp [hk0, hi0]
          · rw [y2 hk0 hi0]; simp [hk0, hi0]
        · rw [y3 hk0]; simp [hk0]
      refine hK2 _ ?_; clear hK2
      refine bwp_leads hS ?_
      have hw : IntKind.i64.wrap ((k : Int) + 1) = ((k + 1 : Nat) : Int) := by rw [wrap_i64 (by omega) (by omega)]; rfl
      have hoka' := hoka
      unfold okAtomB at hoka'
      by_cases ht : a.thread = -1
      · rw [if_pos ht] at hoka'
        simp only [Bool.and_eq_true] at hoka'
        have c1 := refLoc_pure hoka'.2
        have c2 := refText_pure a3
        have hge : ¬ (0 : Int) ≤ a.thread := by omega
        refine bwp_seq fun K hK => bwp_region rfl ?_
        simp -implicitDefEqProofs only [go_sem, ↓reduceIte, Atom.cells, List.map_cons, List.map_nil, hge]
        refine hK _ ?_; clear hK
        refine bwp_cond false (by simp [ev, fget, hge]) (fun h => nomatch h) (fun _ => ?_)
        refine bwp_region_draw rfl rfl ?_
        simp -implicitDefEqProofs only [go_sem, ↓reduceIte]
        repeat' (first
          | (refine gateK_split (fun hb => ?_) (fun hb => ?_) <;> simp -implicitDefEqProofs only [go_sem, ↓reduceIte, hb])
          | (refine dGateK_split (fun hb => ?_) (fun hb => ?_) <;> simp -implicitDefEqProofs only [go_sem, ↓reduceIte, hb])
          | (refine callK_pure (c1) rfl rfl ?_; simp -implicitDefEqProofs only [go_sem, ↓reduceIte])
          | (refine dCallK_pure (c1) rfl rfl ?_; simp -implicitDefEqProofs only [go_sem, ↓reduceIte])
          | (refine callK_pure (c2) rfl rfl ?_; simp -implicitDefEqProofs only [go_sem, ↓reduceIte])
          | (refine dCallK_pure (c2) rfl rfl ?_; simp -implicitDefEqProofs only [go_sem, ↓reduceIte])
          | (rw [if_pos (by (try simp only [List.length_append, List.length_cons, List.length_nil, List.length_map]); omega)]; simp -implicitDefEqProofs only [go_sem, ↓reduceIte]))
        refine ⟨rfl, hK1 _ ?_⟩; clear hK1
        refine bwp_region rfl ?_
        simp -implicitDefEqProofs only [go_sem, ↓reduceIte, hw]
        rw [hY]
        exact ⟨hlt, (Leads.ent [(0, 0)] ⟨by simp [entT, fget, AV.ren, renL, pget, atomT, ht, List.append_assoc], by simp [entM, pinv, mget, mset, renL, AV.ren, pget, renL_append, -List.map_map, atomT, ht, List.append_assoc], rfl, rfl⟩)⟩
      · rw [if_neg ht] at hoka'
        simp only [Bool.and_eq_true, decide_eq_true_eq] at hoka'
        have c1 := refText_pure a1
        have c2 := refText_pure a3
        have c3 := refReg_pure a2
        have hge : (0 : Int) ≤ a.thread := by omega
        refine bwp_seq fun K hK => bwp_region rfl ?_
        simp -implicitDefEqProofs only [go_sem, ↓reduceIte, Atom.cells, List.map_cons, List.map_nil, hge]
        refine hK _ ?_; clear hK
        refine bwp_cond true (by simp [ev, fget, hge]) (fun _ => ?_) (fun h => nomatch h)
        refine bwp_region_draw rfl rfl ?_
        simp -implicitDefEqProofs only [go_sem, ↓reduceIte]
        repeat' (first
          | (refine gateK_split (fun hb => ?_) (fun hb => ?_) <;> simp -implicitDefEqProofs only [go_sem, ↓reduceIte, hb])
          | (refine dGateK_split (fun hb => ?_) (fun hb => ?_) <;> simp -implicitDefEqProofs only [go_sem, ↓reduceIte, hb])
          | (refine callK_pure (c1) rfl rfl ?_; simp -implicitDefEqProofs only [go_sem, ↓reduceIte])
          | (refine dCallK_pure (c1) rfl rfl ?_; simp -implicitDefEqProofs only [go_sem, ↓reduceIte])
          | (refine callK_pure (c2) rfl rfl ?_; simp -implicitDefEqProofs only [go_sem, ↓reduceIte])
          | (refine dCallK_pure (c2) rfl rfl ?_; simp -implicitDefEqProofs only [go_sem, ↓reduceIte])
          | (refine callK_pure (c3) rfl rfl ?_; simp -implicitDefEqProofs only [go_sem, ↓reduceIte])
          | (refine dCallK_pure (c3) rfl rfl ?_; simp -implicitDefEqProofs only [go_sem, ↓reduceIte])
          | (rw [if_pos (by (try simp only [List.length_append, List.length_cons, List.length_nil, List.length_map]); omega)]; simp -implicitDefEqProofs only [go_sem, ↓reduceIte]))
        refine ⟨rfl, hK1 _ ?_⟩; clear hK1
        refine bwp_region rfl ?_
        simp -implicitDefEqProofs only [go_sem, ↓reduceIte, hw]
        rw [hY]
        exact ⟨hlt, (Leads.ent [(0, 0)] ⟨by simp [entT, fget, AV.ren, renL, pget, atomT, ht, List.append_assoc], by simp [entM, pinv, mget, mset, renL, AV.ren, pget, renL_append, -List.map_map, atomT, ht, List.append_assoc], rfl, rfl⟩)⟩
    by_cases hk0 : k = 0
    · have g1 : ¬ (0 : Int) < (k : Int) := by omega
      refine bwp_seq fun K hK => bwp_region rfl ?_
      simp -implicitDefEqProofs only [go_sem, ↓reduceIte, g1]
      refine hK _ ?_; clear hK
      refine bwp_cond false (by simp [ev, fget, g1]) (fun h => nomatch h) (fun _ => ?_)
      by_cases hi0 : i = 0
      · have g2 : ¬ (0 : Int) < (i : Int) := by omega
        refine bwp_seq fun K hK => bwp_region rfl ?_
        simp -implicitDefEqProofs only [go_sem, ↓reduceIte, g2]
        refine hK _ ?_; clear hK
        refine bwp_cond false (by simp [ev, fget, g2]) (fun h => nomatch h) (fun _ => ?_)
        refine bwp_skip ?_
        refine fin2 _ X (by omega) (fun _ _ => rfl) (fun _ h => absurd hi0 h) (fun h => absurd hk0 h) ?_
        exact Leads.ent [(0, 0), (1, 1)] ⟨by simp [entT, fget, AV.ren, renL, pget], by simp [entM, pinv, mget, mset, renL, AV.ren, pget, Atom.cells, hAe], rfl, rfl⟩
      · have g2 : (0 : Int) < (i : Int) := by omega
        refine bwp_seq fun K hK => bwp_region rfl ?_
        simp -implicitDefEqProofs only [go_sem, ↓reduceIte, g2]
        refine hK _ ?_; clear hK
        refine bwp_cond true (by simp [ev, fget, g2]) (fun _ => ?_) (fun h => nomatch h)
        refine bwp_region rfl ?_
        simp -implicitDefEqProofs only [go_sem, ↓reduceIte]
        repeat' (first
          | (refine gateK_split (fun hb => ?_) (fun hb => ?_) <;> simp -implicitDefEqProofs only [go_sem, ↓reduceIte, hb])
          | (refine dGateK_split (fun hb => ?_) (fun hb => ?_) <;> simp -implicitDefEqProofs only [go_sem, ↓reduceIte, hb])
          | (rw [if_pos (by (try simp only [List.length_append, List.length_cons, List.length_nil, List.length_map]); omega)]; simp -implicitDefEqProofs only [go_sem, ↓reduceIte]))
        refine fin2 _ (X ++ [32, 124]) (by simp; omega) (fun _ h => absurd h hi0) (fun _ _ => rfl) (fun h => absurd hk0 h) ?_
        exact Leads.ent [(0, 0), (1, 1)] ⟨by simp [entT, fget, AV.ren, renL, pget], by simp [entM, pinv, mget, mset, renL, AV.ren, pget, Atom.cells, hAe], rfl, rfl⟩
    · have g1 : (0 : Int) < (k : Int) := by omega
      refine bwp_seq fun K hK => bwp_region rfl ?_
      simp -implicitDefEqProofs only [go_sem, ↓reduceIte, g1]
      refine hK _ ?_; clear hK
      refine bwp_cond true (by simp [ev, fget, g1]) (fun _ => ?_) (fun h => nomatch h)
      refine bwp_region rfl ?_
      simp -implicitDefEqProofs only [go_sem, ↓reduceIte]
      repeat' (first
        | (refine gateK_split (fun hb => ?_) (fun hb => ?_) <;> simp -implicitDefEqProofs only [go_sem, ↓reduceIte, hb])
        | (refine dGateK_split (fun hb => ?_) (fun hb => ?_) <;> simp -implicitDefEqProofs only [go_sem, ↓reduceIte, hb])
        | (rw [if_pos (by (try simp only [List.length_append, List.length_cons, List.length_nil, List.length_map]); omega)]; simp -implicitDefEqProofs only [go_sem, ↓reduceIte]))
      refine fin2 _ (X ++ [32, 38]) (by simp; omega) (fun h => absurd h hk0) (fun h => absurd h hk0) (fun _ => rfl) ?_
      exact Leads.ent [(0, 0), (1, 1)] ⟨by simp [entT, fget, AV.ren, renL, pget], by simp [entM, pinv, mget, mset, renL, AV.ren, pget, Atom.cells, hAe], rfl, rfl⟩
  · have hlt' : ¬ (k : Int) < l.length := by omega
    have hin : k = l.length := by omega
    subst hin
    refine bwp_seq fun K hK => bwp_region rfl ?_
    simp -implicitDefEqProofs only [go_sem, ↓reduceIte, hAe, hi', Int.natCast_nonneg, Int.toNat_natCast, hd1, hjc, hD.len, hlt']
    refine hK _ ?_; clear hK
    refine bwp_cond false (by simp [ev, fget, hlt']) (fun h => nomatch h) (fun _ => ?_)
    rw [List.take_length] at hX
    refine bwp_leads (S' := rdS kd A (s ++ rowP (decide (i = 0)) l) [(4, .d (.int .i64 i))]) (Leads.ent [(0, 0)] ⟨by simp [entT, fget, AV.ren, renL, pget, rdS, hX, hAe], by simp [entM, pinv, mget, mset, renL, AV.ren, pget, renL_append, -List.map_map, rdS, hX, hAe], rfl, rfl⟩) ?_
    exact bwp_exit hQ
set_option maxHeartbeats 4000000 in
theorem rd_rows {kd : Int} {A : DV} {rows : List (List Atom)} (hA : IsSl2 Atom.cells rows A) (hf : FewC2 rows) (hok : ∀ l ∈ rows, l ≠ [] ∧ ∀ a ∈ l, okAtomB a = true) {s : List UInt8} (hs : s.length ≤ 1000) {Q : Exit → St → Prop}
    (hQ : Q (.exit 0) (rdS kd A (s ++ rowsP rows) [])) :
    BWP Tryz.prog (mbound []) 83 (.loop ac25L1) (rdS kd A s [(4, .d (.int .i64 (0 : Nat)))]) Q := by
  have hbig := hA.big
  have e0 : s = s ++ rowsP (rows.take 0) := by simp [rowsP]
  rw [e0]
  refine bwp_count (fun i => rdS kd A (s ++ rowsP (rows.take i)) [(4, .d (.int .i64 i))]) rows.length ?_
  intro i hi
  have hbl : (rowsP (rows.take i)).length ≤ 4200000000000037 := rowsP_len ⟨by have := hf.1; simp; omega, fun l h => hf.2 l (List.mem_of_mem_take h)⟩
  generalize hX : s ++ rowsP (rows.take i) = X
  have hXl : X.length ≤ 5000000000000000 := by rw [← hX, List.length_append]; omega
  unfold ac25L1 rdS
  simp only [List.cons_append, List.nil_append]
  refine bwp_seq fun K1 hK1 => ?_
  by_cases hlt : i < rows.length
  · have hlt' : (i : Int) < rows.length := by omega
    have hm := List.getElem_mem hlt
    have hw : IntKind.i64.wrap ((i : Int) + 1) = ((i + 1 : Nat) : Int) := by rw [wrap_i64 (by omega) (by omega)]; rfl
    have hnx : s ++ rowsP (rows.take (i + 1)) = X ++ rowP (decide (i = 0)) rows[i] := by
      rw [List.take_succ_eq_append_getElem hlt, rowsP_snoc _ _ (hok _ hm).1, ← hX, List.append_assoc]
      have hr : rows ≠ [] := fun h => by rw [h] at hlt; simp at hlt
      have : (rows.take i = []) = (i = 0) := by apply propext; rw [List.take_eq_nil_iff]; simp [hr]
      simp only [this]
    refine bwp_seq fun K hK => bwp_region rfl ?_
    simp -implicitDefEqProofs only [go_sem, ↓reduceIte, hA.len, hlt']
    refine hK _ ?_; clear hK
    refine bwp_cond true (by simp [ev, fget, hlt']) (fun _ => ?_) (fun h => nomatch h)
    refine bwp_skip ?_
    refine hK1 _ ?_; clear hK1
    refine bwp_seq fun K1 hK1 => ?_
    refine bwp_block ?_
    refine bwp_seq fun K hK => bwp_region rfl ?_
    simp -implicitDefEqProofs only [go_sem, ↓reduceIte]
    refine hK _ ?_; clear hK
    refine bwp_block ?_
    refine bwp_leads (S' := rdS kd A X [(5, .d (.int .i64 (0 : Nat))), (4, .d (.int .i64 i))]) (Leads.ent [(0, 0)] ⟨by simp [entT, fget, AV.ren, renL, pget, rdS], by simp [entM, pinv, mget, mset, renL, AV.ren, pget, renL_append, -List.map_map, rdS], rfl, rfl⟩) ?_
    refine rd_row hA hlt (hf.2 _ hm).1 (hf.2 _ hm).2 (hok _ hm).2 hXl ?_
    unfold rdS
    simp only [List.cons_append, List.nil_append]
    simp -implicitDefEqProofs only [go_sem, ↓reduceIte]
    refine hK1 _ ?_; clear hK1
    refine bwp_region rfl ?_
    simp -implicitDefEqProofs only [go_sem, ↓reduceIte, hw]
    rw [hnx]
    exact ⟨hlt, (Leads.ent [(0, 0)] ⟨by simp [entT, fget, AV.ren, renL, pget], by simp [entM, pinv, mget, mset, renL, AV.ren, pget, renL_append, -List.map_map], rfl, rfl⟩)⟩
  · have hlt' : ¬ (i : Int) < rows.length := by omega
    have hin : i = rows.length := by omega
    subst hin
    refine bwp_seq fun K hK => bwp_region rfl ?_
    simp -implicitDefEqProofs only [go_sem, ↓reduceIte, hA.len, hlt']
    refine hK _ ?_; clear hK
    refine bwp_cond false (by simp [ev, fget, hlt']) (fun h => nomatch h) (fun _ => ?_)
    rw [List.take_length] at hX
    refine bwp_leads (S' := rdS kd A (s ++ rowsP rows) []) (Leads.ent [(0, 0)] ⟨by simp [entT, fget, AV.ren, renL, pget, rdS, hX], by simp [entM, pinv, mget, mset, renL, AV.ren, pget, renL_append, -List.map_map, rdS, hX], rfl, rfl⟩) ?_
    exact bwp_exit hQ
set_option maxHeartbeats 4000000 in
theorem refCondT_pure {kd : Int} {A : DV} {rows : List (List Atom)} (hA : IsSl2 Atom.cells rows A) (hf : FewC2 rows) : Pure Tryz.prog 25 [.agg [.d (.int .i64 kd), .d A]] (.d (.str (condT kd rows))) := by
  have hok := refCond_pure hA kd
  refine acalls_of Tryz.func25 ac25_ok Tryz.ntmps25 Tryz.results25 rfl ?_
  unfold ac25
  refine bwp_seq fun K hK => bwp_region rfl ?_
  simp -implicitDefEqProofs only [go_sem, ↓reduceIte]
  refine hK _ ?_; clear hK
  refine bwp_seq fun K1 hK1 => ?_
  refine bwp_seq fun K hK => bwp_region rfl ?_
  simp -implicitDefEqProofs only [go_sem, ↓reduceIte]
  refine callK_pure hok rfl rfl ?_
  cases hb : okCondB kd rows with
  | false =>
    simp -implicitDefEqProofs only [go_sem, ↓reduceIte]
    refine hK _ ?_; clear hK
    refine bwp_cond true (by simp [ev, fget]) (fun _ => ?_) (fun h => nomatch h)
    refine bwp_seq fun K hK => bwp_region rfl ?_
    simp -implicitDefEqProofs only [go_sem, ↓reduceIte]
    refine hK _ ?_; clear hK
    refine bwp_ret ?_
    simp only [go_sem]
    refine aend_ret _ rfl rfl ⟨?_, rfl⟩
    simp [fget, condT, hb]
  | true =>
    by_cases h0 : kd = 0
    · simp -implicitDefEqProofs only [go_sem, ↓reduceIte, h0]
      refine hK _ ?_; clear hK
      refine bwp_cond true (by simp [ev, fget]) (fun _ => ?_) (fun h => nomatch h)
      refine bwp_seq fun K hK => bwp_region rfl ?_
      simp -implicitDefEqProofs only [go_sem, ↓reduceIte]
      refine hK _ ?_; clear hK
      refine bwp_ret ?_
      simp only [go_sem]
      refine aend_ret _ rfl rfl ⟨?_, rfl⟩
      simp [fget, condT, h0]
    · obtain ⟨hk, hne, hall⟩ := rows_ok h0 hb
      simp -implicitDefEqProofs only [go_sem, ↓reduceIte, h0]
      refine hK _ ?_; clear hK
      refine bwp_cond false (by simp [ev, fget, h0]) (fun h => nomatch h) (fun _ => ?_)
      refine bwp_skip ?_
      refine hK1 _ ?_; clear hK1
      refine bwp_seq fun K hK => bwp_region rfl ?_
      simp -implicitDefEqProofs only [go_sem, ↓reduceIte]
      refine hK _ ?_; clear hK
      refine bwp_seq fun K2 hK2 => ?_
      have hct : condT kd rows = askW kd ++ rowsP rows ++ [32, 59] := by
        unfold condT rowsP
        rw [if_neg (by simp [h0, hb]), wordT_eq, if_neg hne]
        simp
      have hrl := rowsP_len hf
      have hkl : (askW kd).length ≤ 6 := by unfold askW; split <;> simp
      have fin : ∀ S : St, Leads (mbound []) 83 S (rdS kd A (askW kd) []) → K2 S := by
        intro S hS
        refine hK2 _ ?_; clear hK2
        refine bwp_leads hS ?_
        unfold rdS
        simp only [List.nil_append]
        refine bwp_seq fun K3 hK3 => ?_
        refine bwp_seq fun K hK => bwp_region rfl ?_
        simp -implicitDefEqProofs only [go_sem, ↓reduceIte]
        refine hK _ ?_; clear hK
        refine bwp_block ?_
        refine bwp_leads (S' := rdS kd A (askW kd) [(4, .d (.int .i64 (0 : Nat)))]) (Leads.ent [(0, 0)] ⟨by simp [entT, fget, AV.ren, renL, pget, rdS], by simp [entM, pinv, mget, mset, renL, AV.ren, pget, renL_append, -List.map_map, rdS], rfl, rfl⟩) ?_
        refine rd_rows hA hf hall (by omega) ?_
        unfold rdS
        simp only [List.nil_append]
        simp -implicitDefEqProofs only [go_sem, ↓reduceIte]
        refine hK3 _ ?_; clear hK3
        refine bwp_seq fun K hK => bwp_region rfl ?_
        simp -implicitDefEqProofs only [go_sem, ↓reduceIte]
        repeat' (first
          | (refine gateK_split (fun hb => ?_) (fun hb => ?_) <;> simp -implicitDefEqProofs only [go_sem, ↓reduceIte, hb])
          | (refine dGateK_split (fun hb => ?_) (fun hb => ?_) <;> simp -implicitDefEqProofs only [go_sem, ↓reduceIte, hb])
          | (rw [if_pos (by (try simp only [List.length_append, List.length_cons, List.length_nil, List.length_map]); omega)]; simp -implicitDefEqProofs only [go_sem, ↓reduceIte]))
        refine hK _ ?_; clear hK
        refine bwp_ret ?_
        simp only [go_sem]
        refine aend_ret _ rfl rfl ⟨?_, rfl⟩
        simp [fget, hct]
      by_cases h2 : kd = 2
      · refine bwp_seq fun K hK => bwp_region rfl ?_
        simp -implicitDefEqProofs only [go_sem, ↓reduceIte, h2]
        refine hK _ ?_; clear hK
        refine bwp_cond true (by simp [ev, fget, h2]) (fun _ => ?_) (fun h => nomatch h)
        refine bwp_region rfl ?_
        simp -implicitDefEqProofs only [go_sem, ↓reduceIte]
        exact fin _ (Leads.ent [(0, 0)] ⟨by simp [entT, fget, AV.ren, renL, pget, rdS, askW, h2], by simp [entM, pinv, mget, mset, mdel, renL, AV.ren, pget, renL_append, -List.map_map, rdS, askW, h2], rfl, rfl⟩)
      · refine bwp_seq fun K hK => bwp_region rfl ?_
        simp -implicitDefEqProofs only [go_sem, ↓reduceIte, h2]
        refine hK _ ?_; clear hK
        refine bwp_cond false (by simp [ev, fget, h2]) (fun h => nomatch h) (fun _ => ?_)
        refine bwp_skip ?_
        exact fin _ (Leads.ent [(0, 0)] ⟨by simp [entT, fget, AV.ren, renL, pget, rdS, askW, h2], by simp [entM, pinv, mget, mset, mdel, renL, AV.ren, pget, renL_append, -List.map_map, rdS, askW, h2], rfl, rfl⟩)
end Go.Proofs.YtpfbljkfbjjlkaaGreatDoor

/- Which tests may be, by the document's answer, told without a heap. -/
namespace Go.Proofs.YtpfbljkfbjjlkaaGreatDoor
open Go Go.Jq
set_option maxRecDepth 100000
set_option linter.unusedSimpArgs false
theorem refInits {l : List Init} {nm : List UInt8} {I T A : DV} {kd : Int} (hI : IsSl Init.cells l I) {Q : Exit → St → Prop}
    (hbad : badInitB l = true → ∀ S, fget S.t 2 = .d (.bool false) → Q .ret S) (hgood : badInitB l = false → Q (.exit 0) (rcS [.str nm, I, T, .int .i64 kd, A] [])) :
    BWP Tryz.prog (mbound []) 58 (.loop ac21L0) (rcS [.str nm, I, T, .int .i64 kd, A] [(3, .d (.int .i64 (0 : Nat)))]) Q := by
  have hbig := hI.1
  have hlen' := hI.len
  refine bwp_countI (fun k => rcS [.str nm, I, T, .int .i64 kd, A] [(3, .d (.int .i64 (k : Nat)))]) (fun k => ∀ a ∈ l.take k, isLocB a.loc = true) l.length (by simp) ?_
  intro k hk hp
  unfold ac21L0 rcS
  refine bwp_seq fun K1 hK1 => ?_
  by_cases hlt : k < l.length
  · have hlt' : (k : Int) < l.length := by omega
    obtain ⟨cs, rest, hIe, hdrop, hcs⟩ := hI.at init_len (by omega) k hlt
    have hw : IntKind.i64.wrap ((k : Int) + 1) = ((k + 1 : Nat) : Int) := by rw [wrap_i64 (by omega) (by omega)]; rfl
    have hmem : l[k] ∈ l := List.getElem_mem hlt
    have htk := take_snoc l k hlt
    generalize l[k] = a at *
    refine bwp_seq fun K hK => bwp_region rfl ?_
    simp -implicitDefEqProofs only [go_sem, ↓reduceIte, hlen', hlt']
    refine hK _ ?_; clear hK
    refine bwp_cond true (by simp [ev, fget]) (fun _ => ?_) (fun h => nomatch h)
    refine bwp_skip ?_
    refine hK1 _ ?_; clear hK1
    refine bwp_seq fun K1 hK1 => ?_
    refine bwp_block ?_
    refine bwp_seq fun K hK => bwp_region rfl ?_
    simp -implicitDefEqProofs only [go_sem, ↓reduceIte, hIe, hlt', Int.natCast_nonneg, Int.toNat_natCast, hcs, hdrop, Init.cells]
    refine callK_pure (refNamed_pure a.loc) rfl rfl ?_
    simp -implicitDefEqProofs only [go_sem, ↓reduceIte]
    refine hK _ ?_; clear hK
    cases hok : isLocB a.loc
    · refine bwp_cond true (by simp [ev, fget]) (fun _ => ?_) (fun h => nomatch h)
      refine bwp_seq fun K hK => bwp_region rfl ?_
      simp -implicitDefEqProofs only [go_sem, ↓reduceIte]
      refine hK _ ?_; clear hK
      refine bwp_ret ?_
      simp -implicitDefEqProofs only [go_sem, ↓reduceIte]
      exact hbad (List.any_eq_true.2 ⟨a, hmem, by simp [hok]⟩) _ rfl
    · refine bwp_cond false (by simp [ev, fget]) (fun h => nomatch h) (fun _ => ?_)
      refine bwp_skip ?_
      simp -implicitDefEqProofs only [go_sem, ↓reduceIte]
      refine hK1 _ ?_; clear hK1
      refine bwp_region rfl ?_
      simp -implicitDefEqProofs only [go_sem, ↓reduceIte, hw]
      refine ⟨hlt, ?_, Leads.ent [] ⟨by simp [entT, fget, AV.ren, pget, hIe], by simp [entM], rfl, rfl⟩⟩
      intro b hb
      rw [htk, List.mem_append] at hb
      rcases hb with hb | hb
      · exact hp b hb
      · simp only [List.mem_singleton] at hb; rw [hb]; exact hok
  · have hlt' : ¬ (k : Int) < l.length := by omega
    have hin : k = l.length := by omega
    subst hin
    rw [List.take_of_length_le (Nat.le_refl _)] at hp
    refine bwp_seq fun K hK => bwp_region rfl ?_
    simp -implicitDefEqProofs only [go_sem, ↓reduceIte, hlen', hlt']
    refine hK _ ?_; clear hK
    refine bwp_cond false (by simp [ev, fget]) (fun h => nomatch h) (fun _ => ?_)
    refine bwp_leads (S' := rcS [.str nm, I, T, .int .i64 kd, A] []) (Leads.ent [] ⟨by simp [entT, fget, AV.ren, renL, pget, rcS], by simp [entM, pinv, mget, mset, renL, AV.ren, pget, renL_append, -List.map_map, rcS], rfl, rfl⟩) ?_
    refine bwp_exit (hgood ?_)
    unfold badInitB
    rw [List.any_eq_false]
    intro a ha
    rw [hp a ha]; decide
theorem refThread {rows : List (List Ins)} {nm : List UInt8} {I T A : DV} {kd : Int} (hT : IsSl2 Ins.cells rows T) {j : Nat} (hj : j < rows.length) {Q : Exit → St → Prop}
    (hbad : badThreadB rows[j] = true → ∀ S, fget S.t 2 = .d (.bool false) → Q .ret S) (hgood : badThreadB rows[j] = false → Q (.exit 4) (rcS [.str nm, I, T, .int .i64 kd, A] [(4, .d (.int .i64 j))])) :
    BWP Tryz.prog (mbound []) 58 (.loop ac21L1) (rcS [.str nm, I, T, .int .i64 kd, A] [(5, .d (.int .i64 (0 : Nat))), (4, .d (.int .i64 j))]) Q := by
  obtain ⟨cs2, d, rest2, hTe, hd, hjc, hD⟩ := hT.at j hj
  have hjl : (j : Int) < rows.length := by omega
  generalize rows[j] = l at hD hbad hgood
  have hbig := hD.1
  have hlen' := hD.len
  refine bwp_countI (fun k => rcS [.str nm, I, T, .int .i64 kd, A] [(5, .d (.int .i64 (k : Nat))), (4, .d (.int .i64 j))]) (fun k => ∀ a ∈ l.take k, okInsB a = true) l.length (by simp) ?_
  intro k hk hp
  unfold ac21L1 rcS
  refine bwp_seq fun K1 hK1 => ?_
  by_cases hlt : k < l.length
  · have hlt' : (k : Int) < l.length := by omega
    obtain ⟨cs, rest, hIe, hdrop, hcs⟩ := hD.at ins_len (by omega) k hlt
    have hw : IntKind.i64.wrap ((k : Int) + 1) = ((k + 1 : Nat) : Int) := by rw [wrap_i64 (by omega) (by omega)]; rfl
    have hl9 : ∀ (n : Nat), (9 ≤ (n + 1 + 1 + 1 + 1 + 1 + 1 + 1 + 1 + 1)) = True := fun n => by simp
    have hmem : l[k] ∈ l := List.getElem_mem hlt
    have htk := take_snoc l k hlt
    generalize l[k] = a at *
    refine bwp_seq fun K hK => bwp_region rfl ?_
    simp -implicitDefEqProofs only [go_sem, ↓reduceIte, hTe, hjl, Int.natCast_nonneg, Int.toNat_natCast, Nat.mul_one, hjc, hd, hlen', hlt']
    refine hK _ ?_; clear hK
    refine bwp_cond true (by simp [ev, fget]) (fun _ => ?_) (fun h => nomatch h)
    refine bwp_skip ?_
    refine hK1 _ ?_; clear hK1
    refine bwp_seq fun K1 hK1 => ?_
    refine bwp_block ?_
    refine bwp_seq fun K hK => bwp_region rfl ?_
    simp -implicitDefEqProofs only [go_sem, ↓reduceIte, hTe, hjl, Nat.mul_one, hjc, hd, hIe, hlt', Int.natCast_nonneg, Int.toNat_natCast, hcs, hdrop, Ins.cells, hl9]
    refine callK_pure (refIns_pure a) rfl rfl ?_
    rw [refIns_eq]
    simp -implicitDefEqProofs only [go_sem, ↓reduceIte]
    refine hK _ ?_; clear hK
    cases hok : okInsB a
    · refine bwp_cond true (by simp [ev, fget]) (fun _ => ?_) (fun h => nomatch h)
      refine bwp_seq fun K hK => bwp_region rfl ?_
      simp -implicitDefEqProofs only [go_sem, ↓reduceIte]
      refine hK _ ?_; clear hK
      refine bwp_ret ?_
      simp -implicitDefEqProofs only [go_sem, ↓reduceIte]
      exact hbad (List.any_eq_true.2 ⟨a, hmem, by simp [hok]⟩) _ rfl
    · refine bwp_cond false (by simp [ev, fget]) (fun h => nomatch h) (fun _ => ?_)
      refine bwp_skip ?_
      simp -implicitDefEqProofs only [go_sem, ↓reduceIte]
      refine hK1 _ ?_; clear hK1
      refine bwp_region rfl ?_
      simp -implicitDefEqProofs only [go_sem, ↓reduceIte, hw]
      refine ⟨hlt, ?_, Leads.ent [] ⟨by simp [entT, fget, AV.ren, pget, hTe], by simp [entM], rfl, rfl⟩⟩
      intro b hb
      rw [htk, List.mem_append] at hb
      rcases hb with hb | hb
      · exact hp b hb
      · simp only [List.mem_singleton] at hb; rw [hb]; exact hok
  · have hlt' : ¬ (k : Int) < l.length := by omega
    have hin : k = l.length := by omega
    subst hin
    rw [List.take_of_length_le (Nat.le_refl _)] at hp
    refine bwp_seq fun K hK => bwp_region rfl ?_
    simp -implicitDefEqProofs only [go_sem, ↓reduceIte, hTe, hjl, Int.natCast_nonneg, Int.toNat_natCast, Nat.mul_one, hjc, hd, hlen', hlt']
    refine hK _ ?_; clear hK
    refine bwp_cond false (by simp [ev, fget]) (fun h => nomatch h) (fun _ => ?_)
    refine bwp_leads (S' := rcS [.str nm, I, T, .int .i64 kd, A] [(4, .d (.int .i64 j))]) (Leads.ent [] ⟨by simp [entT, fget, AV.ren, renL, pget, rcS, hTe], by simp [entM, pinv, mget, mset, renL, AV.ren, pget, renL_append, -List.map_map, rcS, hTe], rfl, rfl⟩) ?_
    refine bwp_exit (hgood ?_)
    unfold badThreadB
    rw [List.any_eq_false]
    intro a ha
    rw [hp a ha]; decide
theorem refThreads {rows : List (List Ins)} {nm : List UInt8} {I T A : DV} {kd : Int} (hT : IsSl2 Ins.cells rows T) {Q : Exit → St → Prop}
    (hbad : rows.any badThreadB = true → ∀ S, fget S.t 2 = .d (.bool false) → Q .ret S) (hgood : rows.any badThreadB = false → ∀ S, Q (.exit 2) S) :
    BWP Tryz.prog (mbound []) 58 (.loop ac21L2) (rcS [.str nm, I, T, .int .i64 kd, A] [(4, .d (.int .i64 (0 : Nat)))]) Q := by
  have hbig := hT.big
  have hlen' := hT.len
  refine bwp_countI (fun j => rcS [.str nm, I, T, .int .i64 kd, A] [(4, .d (.int .i64 (j : Nat)))]) (fun j => ∀ l ∈ rows.take j, badThreadB l = false) rows.length (by simp) ?_
  intro j hj hp
  unfold ac21L2
  refine bwp_seq fun K1 hK1 => ?_
  by_cases hlt : j < rows.length
  · have hlt' : (j : Int) < rows.length := by omega
    have hw : IntKind.i64.wrap ((j : Int) + 1) = ((j + 1 : Nat) : Int) := by rw [wrap_i64 (by omega) (by omega)]; rfl
    have hmem : rows[j] ∈ rows := List.getElem_mem hlt
    have htk := take_snoc rows j hlt
    have hrow := @refThread rows nm I T A kd hT j hlt
    unfold rcS
    refine bwp_seq fun K hK => bwp_region rfl ?_
    simp -implicitDefEqProofs only [go_sem, ↓reduceIte, hlen', hlt']
    refine hK _ ?_; clear hK
    refine bwp_cond true (by simp [ev, fget]) (fun _ => ?_) (fun h => nomatch h)
    refine bwp_skip ?_
    refine hK1 _ ?_; clear hK1
    refine bwp_seq fun K1 hK1 => ?_
    refine bwp_block ?_
    refine bwp_seq fun K hK => bwp_region rfl ?_
    simp -implicitDefEqProofs only [go_sem, ↓reduceIte]
    refine hK _ ?_; clear hK
    refine bwp_block ?_
    refine bwp_leads (S' := rcS [.str nm, I, T, .int .i64 kd, A] [(5, .d (.int .i64 (0 : Nat))), (4, .d (.int .i64 j))]) (Leads.ent [] ⟨by simp [entT, fget, AV.ren, renL, pget, rcS], by simp [entM, pinv, mget, mset, renL, AV.ren, pget, renL_append, -List.map_map, rcS], rfl, rfl⟩) ?_
    refine hrow ?_ ?_
    · intro hb S hS
      simp -implicitDefEqProofs only [go_sem, ↓reduceIte]
      exact hbad (List.any_eq_true.2 ⟨_, hmem, hb⟩) _ hS
    · intro hb
      unfold rcS
      simp -implicitDefEqProofs only [go_sem, ↓reduceIte]
      refine hK1 _ ?_; clear hK1
      refine bwp_region rfl ?_
      simp -implicitDefEqProofs only [go_sem, ↓reduceIte, hw]
      refine ⟨hlt, ?_, Leads.ent [] ⟨by simp [rcS, entT, fget, AV.ren, pget], by simp [rcS, entM], rfl, rfl⟩⟩
      intro l hl
      rw [htk, List.mem_append] at hl
      rcases hl with hl | hl
      · exact hp l hl
      · simp only [List.mem_singleton] at hl
        subst hl
        exact hb
  · have hlt' : ¬ (j : Int) < rows.length := by omega
    have hin : j = rows.length := by omega
    subst hin
    rw [List.take_of_length_le (Nat.le_refl _)] at hp
    unfold rcS
    refine bwp_seq fun K hK => bwp_region rfl ?_
    simp -implicitDefEqProofs only [go_sem, ↓reduceIte, hlen', hlt']
    refine hK _ ?_; clear hK
    refine bwp_cond false (by simp [ev, fget]) (fun h => nomatch h) (fun _ => ?_)
    refine bwp_exit (hgood ?_ _)
    rw [List.any_eq_false]
    intro l hl
    rw [hp l hl]; decide
theorem refTest_pure {t : Test} {cs : List DV} (hT : IsTest t cs) (hn : t.name.length ≤ 9223372036854775807) : Pure Tryz.prog 21 [.agg (cs.map .d)] (.d (.bool (okB t))) := by
  obtain ⟨I, T, A, rfl, hI, hTh, hA⟩ := hT
  refine acalls_of Tryz.func21 ac21_ok Tryz.ntmps21 Tryz.results21 rfl ?_
  unfold ac21
  refine bwp_seq fun K hK => bwp_region rfl ?_
  simp -implicitDefEqProofs only [go_sem, ↓reduceIte]
  refine hK _ ?_; clear hK
  refine bwp_leads (S' := rcS [.str t.name, I, T, .int .i64 t.kind, A] []) (Leads.frz [] [(0, [.str t.name, I, T, .int .i64 t.kind, A])] ⟨?_, ?_, rfl, rfl, ?_⟩) ?_
  · simp [rcS, frzT, fget, AV.cv, cvL, zget, pget]
  · simp [rcS, frzM, pinv, zget, mget, cvL, AV.cv]
  · simp [zokFrom, mget, cvL, AV.cv]
  unfold rcS
  refine bwp_seq fun K1 hK1 => ?_
  refine bwp_seq fun K hK => bwp_region rfl ?_
  have rest : ∀ (t' : Fr) (b : Bool), fget t' 15 = .d (.bool b) → fget t' 1 = .dptr [.str t.name, I, T, .int .i64 t.kind, A] → fget t' 2 = .d (.bool false) → b = !(isWordB t.name && okCondB t.kind t.rows) → K ⟨t', [], 0⟩ := by
    intro t' b h15 h1 h2 hb
    refine hK _ ?_; clear hK
    cases b
    · have hwc : isWordB t.name = true ∧ okCondB t.kind t.rows = true := by
        have := hb.symm
        simpa using this
      refine bwp_cond false (by simp [ev, fget, h15]) (fun h => nomatch h) (fun _ => ?_)
      refine bwp_skip ?_
      simp -implicitDefEqProofs only [go_sem, ↓reduceIte]
      refine hK1 _ ?_; clear hK1
      refine bwp_seq fun K2 hK2 => ?_
      refine bwp_seq fun K3 hK3 => ?_
      refine bwp_region rfl ?_
      simp -implicitDefEqProofs only [go_sem, ↓reduceIte]
      refine hK3 _ ?_; clear hK3
      refine bwp_block ?_
      refine bwp_leads (S' := rcS [.str t.name, I, T, .int .i64 t.kind, A] [(3, .d (.int .i64 (0 : Nat)))]) (Leads.ent [] ⟨by simp [entT, fget, AV.ren, renL, pget, rcS, h1, h2], by simp [entM, pinv, mget, mset, renL, AV.ren, pget, renL_append, -List.map_map, rcS, h1, h2], rfl, rfl⟩) ?_
      refine refInits hI ?_ ?_
      · intro hbad S hS
        simp -implicitDefEqProofs only [go_sem, ↓reduceIte]
        exact aend_ret (.d (.bool false)) (by simp [resA, resVs, resV, hS]) rfl ⟨by simp [okB, hbad], rfl⟩
      · intro hi
        simp -implicitDefEqProofs only [go_sem, ↓reduceIte]
        refine hK2 _ ?_; clear hK2
        unfold rcS
        refine bwp_seq fun K2 hK2 => ?_
        refine bwp_seq fun K3 hK3 => ?_
        refine bwp_region rfl ?_
        simp -implicitDefEqProofs only [go_sem, ↓reduceIte]
        refine hK3 _ ?_; clear hK3
        refine bwp_block ?_
        refine bwp_leads (S' := rcS [.str t.name, I, T, .int .i64 t.kind, A] [(4, .d (.int .i64 (0 : Nat)))]) (Leads.ent [] ⟨by simp [entT, fget, AV.ren, renL, pget, rcS], by simp [entM, pinv, mget, mset, renL, AV.ren, pget, renL_append, -List.map_map, rcS], rfl, rfl⟩) ?_
        refine refThreads hTh ?_ ?_
        · intro hbad S hS
          simp -implicitDefEqProofs only [go_sem, ↓reduceIte]
          exact aend_ret (.d (.bool false)) (by simp [resA, resVs, resV, hS]) rfl ⟨by simp [okB, hbad], rfl⟩
        · rintro hth ⟨t2, m2, n2⟩
          simp -implicitDefEqProofs only [go_sem, ↓reduceIte]
          refine hK2 _ ?_; clear hK2
          refine bwp_seq fun K hK => bwp_region (by simp [mbound]) ?_
          simp -implicitDefEqProofs only [go_sem, ↓reduceIte]
          refine hK _ ?_; clear hK
          refine bwp_ret ?_
          simp only [go_sem]
          refine aend_ret _ rfl rfl ⟨?_, rfl⟩
          simp [fget, okB, hwc.1, hwc.2, hi, hth]
    · refine bwp_cond true (by simp [ev, fget, h15]) (fun _ => ?_) (fun h => nomatch h)
      refine bwp_seq fun K hK => bwp_region rfl ?_
      simp -implicitDefEqProofs only [go_sem, ↓reduceIte]
      refine hK _ ?_; clear hK
      refine bwp_ret ?_
      simp only [go_sem]
      refine aend_ret _ rfl rfl ⟨?_, rfl⟩
      have : okB t = false := by
        have h := hb.symm
        simp only [Bool.not_eq_true', Bool.and_eq_false_iff] at h
        rcases h with h | h <;> simp [okB, h]
      simp [fget, this]
  clear hK
  simp -implicitDefEqProofs only [go_sem, ↓reduceIte]
  refine callK_pure (refWord_pure t.name hn) rfl rfl ?_
  simp -implicitDefEqProofs only [go_sem, ↓reduceIte]
  repeat' (first
    | (refine gateK_split (fun hb => ?_) (fun hb => ?_) <;> simp -implicitDefEqProofs only [go_sem, ↓reduceIte, hb])
    | (refine dGateK_split (fun hb => ?_) (fun hb => ?_) <;> simp -implicitDefEqProofs only [go_sem, ↓reduceIte, hb])
    | (refine callK_pure (refCond_pure hA t.kind) rfl rfl ?_; simp -implicitDefEqProofs only [go_sem, ↓reduceIte])
    | (refine dCallK_pure (refCond_pure hA t.kind) rfl rfl ?_; simp -implicitDefEqProofs only [go_sem, ↓reduceIte])
    | (rw [if_pos (by (try simp only [List.length_append, List.length_cons, List.length_nil, List.length_map]); omega)]; simp -implicitDefEqProofs only [go_sem, ↓reduceIte]))
  all_goals exact rest _ _ rfl rfl rfl (by clear rest hK1; simp_all)
end Go.Proofs.YtpfbljkfbjjlkaaGreatDoor

/- The document's text of a test. -/
namespace Go.Proofs.YtpfbljkfbjjlkaaGreatDoor
open Go Go.Jq
set_option maxRecDepth 100000
set_option linter.unusedSimpArgs false
theorem initsL_len' {l : List Init} (h : l.length ≤ 41) (hv : ∀ x ∈ l, I64 x.value) : (l.flatMap initL).length ≤ 1230 := by
  have h1 := flat_len initL 30 l (fun x hx => initL_len (hv x hx))
  have h2 : l.length * 30 ≤ 41 * 30 := Nat.mul_le_mul_right _ h
  omega
def rprS (cs : List DV) (s : List UInt8) (ex : Fr) : St := ⟨ex ++ [(1, .ptr 0 0), (3, .d (.str s))], [(0, cs.map .d)], 1⟩
set_option maxHeartbeats 2000000 in
theorem rp_inits {nm : List UInt8} {I T A : DV} {kd : Int} {l : List Init} (hI : IsSl Init.cells l I) (hv : ∀ x ∈ l, I64 x.value) (hok : ∀ x ∈ l, isLocB x.loc = true) (h41 : l.length ≤ 41) {s : List UInt8} (hs : s.length ≤ 6000000000000000) {Q : Exit → St → Prop}
    (hQ : Q (.exit 0) (rprS [.str nm, I, T, .int .i64 kd, A] (s ++ l.flatMap initL) [])) :
    BWP Tryz.prog (mbound []) 93 (.loop ac7L0) (rprS [.str nm, I, T, .int .i64 kd, A] s [(4, .d (.int .i64 (0 : Nat)))]) Q := by
  have e0 : s = s ++ (l.take 0).flatMap initL := by simp
  rw [e0]
  refine bwp_count (fun i => rprS [.str nm, I, T, .int .i64 kd, A] (s ++ (l.take i).flatMap initL) [(4, .d (.int .i64 i))]) l.length ?_
  intro i hi
  have hbl : ((l.take i).flatMap initL).length ≤ 1230 := initsL_len' (by simp; omega) (fun x hx => hv x (List.mem_of_mem_take hx))
  generalize hX : s ++ (l.take i).flatMap initL = X
  have hXl : X.length ≤ 6100000000000000 := by rw [← hX]; simp only [List.length_append]; omega
  unfold ac7L0 rprS
  simp only [List.cons_append, List.nil_append, List.map_cons, List.map_nil]
  refine bwp_seq fun K1 hK1 => ?_
  by_cases hlt : i < l.length
  · have hlt' : (i : Int) < l.length := by omega
    obtain ⟨cs', rest, hIe, hdrop, hcs⟩ := hI.at init_len (by omega) i hlt
    have hva := hv l[i] (List.getElem_mem hlt)
    have hlo := hok l[i] (List.getElem_mem hlt)
    have hnx : s ++ (l.take (i + 1)).flatMap initL = X ++ initL l[i] := by rw [flat_take initL hlt, ← hX, List.append_assoc]
    generalize l[i] = x at hdrop hva hlo hnx
    have l1 := itoa_len hva
    have l4 : (locT x.loc).length ≤ 4 := utf8_len _
    have c1 := refLoc_pure hlo
    have c2 := refText_pure hva
    refine bwp_seq fun K hK => bwp_region rfl ?_
    simp -implicitDefEqProofs only [go_sem, ↓reduceIte, hI.len, hlt']
    refine hK _ ?_; clear hK
    refine bwp_cond true (by simp [ev, fget, hlt']) (fun _ => ?_) (fun h => nomatch h)
    refine bwp_skip ?_
    refine hK1 _ ?_; clear hK1
    refine bwp_seq fun K1 hK1 => ?_
    refine bwp_block ?_
    refine bwp_region_draw rfl rfl ?_
    simp -implicitDefEqProofs only [go_sem, ↓reduceIte, hIe, hlt', Int.natCast_nonneg, Int.toNat_natCast, hcs, hdrop, Init.cells]
    repeat' (first
      | (refine gateK_split (fun hb => ?_) (fun hb => ?_) <;> simp -implicitDefEqProofs only [go_sem, ↓reduceIte, hb, hIe, hlt', Int.natCast_nonneg, Int.toNat_natCast, hcs, hdrop, Init.cells])
      | (refine dGateK_split (fun hb => ?_) (fun hb => ?_) <;> simp -implicitDefEqProofs only [go_sem, ↓reduceIte, hb, hIe, hlt', Int.natCast_nonneg, Int.toNat_natCast, hcs, hdrop, Init.cells])
      | (refine callK_pure (c1) rfl rfl ?_; simp -implicitDefEqProofs only [go_sem, ↓reduceIte, hIe, hlt', Int.natCast_nonneg, Int.toNat_natCast, hcs, hdrop, Init.cells])
      | (refine dCallK_pure (c1) rfl rfl ?_; simp -implicitDefEqProofs only [go_sem, ↓reduceIte, hIe, hlt', Int.natCast_nonneg, Int.toNat_natCast, hcs, hdrop, Init.cells])
      | (refine callK_pure (c2) rfl rfl ?_; simp -implicitDefEqProofs only [go_sem, ↓reduceIte, hIe, hlt', Int.natCast_nonneg, Int.toNat_natCast, hcs, hdrop, Init.cells])
      | (refine dCallK_pure (c2) rfl rfl ?_; simp -implicitDefEqProofs only [go_sem, ↓reduceIte, hIe, hlt', Int.natCast_nonneg, Int.toNat_natCast, hcs, hdrop, Init.cells])
      | (rw [if_pos (by (try simp only [List.length_append, List.length_cons, List.length_nil, List.length_map]); omega)]; simp -implicitDefEqProofs only [go_sem, ↓reduceIte, hIe, hlt', Int.natCast_nonneg, Int.toNat_natCast, hcs, hdrop, Init.cells]))
    refine ⟨rfl, hK1 _ ?_⟩; clear hK1
    have hw : IntKind.i64.wrap ((i : Int) + 1) = ((i + 1 : Nat) : Int) := by rw [wrap_i64 (by omega) (by omega)]; rfl
    refine bwp_region rfl ?_
    simp -implicitDefEqProofs only [go_sem, ↓reduceIte, hw]
    rw [hnx]
    exact ⟨hlt, (Leads.ent [(0, 0)] ⟨by simp [entT, fget, AV.ren, renL, pget, initL, List.append_assoc, hIe], by simp [entM, pinv, mget, mset, renL, AV.ren, pget, renL_append, -List.map_map, initL, List.append_assoc, hIe], rfl, rfl⟩)⟩
  · have hlt' : ¬ (i : Int) < l.length := by omega
    have hin : i = l.length := by omega
    subst hin
    refine bwp_seq fun K hK => bwp_region rfl ?_
    simp -implicitDefEqProofs only [go_sem, ↓reduceIte, hI.len, hlt']
    refine hK _ ?_; clear hK
    refine bwp_cond false (by simp [ev, fget, hlt']) (fun h => nomatch h) (fun _ => ?_)
    rw [List.take_length] at hX
    refine bwp_leads (S' := rprS [.str nm, I, T, .int .i64 kd, A] (s ++ l.flatMap initL) []) (Leads.ent [(0, 0)] ⟨by simp [entT, fget, AV.ren, renL, pget, rprS, hX], by simp [entM, pinv, mget, mset, renL, AV.ren, pget, renL_append, -List.map_map, rprS, hX], rfl, rfl⟩) ?_
    exact bwp_exit hQ
set_option maxHeartbeats 2000000 in
theorem rp_thread {nm : List UInt8} {I T A : DV} {kd : Int} {ls : List (List Ins)} (hT : IsSl2 Ins.cells ls T) {i : Nat} (hi : i < ls.length) (hv : ∀ x ∈ ls[i], I64i x) (h30 : ls[i].length ≤ 5000000000000) {s : List UInt8} (hs : s.length ≤ 6100000000000000) {Q : Exit → St → Prop}
    (hQ : Q (.exit 4) (rprS [.str nm, I, T, .int .i64 kd, A] (s ++ ls[i].flatMap insL) [(6, .d (.int .i64 ls[i].length)), (5, .d (.int .i64 i))])) :
    BWP Tryz.prog (mbound []) 93 (.loop ac7L1) (rprS [.str nm, I, T, .int .i64 kd, A] s [(6, .d (.int .i64 (0 : Nat))), (5, .d (.int .i64 i))]) Q := by
  have hTl := hT.big
  obtain ⟨cs1, d, rest1, hTe, hd1, hjc, hD⟩ := hT.at i hi
  have hi' : (i : Int) < ls.length := by omega
  generalize hl : ls[i] = l at *
  have e0 : s = s ++ (l.take 0).flatMap insL := by simp
  rw [e0]
  refine bwp_count (fun k => rprS [.str nm, I, T, .int .i64 kd, A] (s ++ (l.take k).flatMap insL) [(6, .d (.int .i64 k)), (5, .d (.int .i64 i))]) l.length ?_
  intro k hk
  have hbl : ((l.take k).flatMap insL).length ≤ 5000000000000 * 155 := by
    have := flat_len insL 155 (l.take k) (fun x hx => insL_len (hv x (List.mem_of_mem_take hx)))
    have h2 : (l.take k).length * 155 ≤ 5000000000000 * 155 := Nat.mul_le_mul_right _ (by simp; omega)
    omega
  generalize hX : s ++ (l.take k).flatMap insL = X
  have hXl : X.length ≤ 7000000000000000 := by rw [← hX]; simp only [List.length_append]; omega
  unfold ac7L1 rprS
  simp only [List.cons_append, List.nil_append, List.map_cons, List.map_nil]
  refine bwp_seq fun K1 hK1 => ?_
  by_cases hlt : k < l.length
  · have hlt' : (k : Int) < l.length := by omega
    obtain ⟨cs', rest, hXe, hdrop, hcs⟩ := hD.at ins_len (by omega) k hlt
    have hva := hv l[k] (List.getElem_mem hlt)
    have hnx : s ++ (l.take (k + 1)).flatMap insL = X ++ insL l[k] := by rw [flat_take insL hlt, ← hX, List.append_assoc]
    generalize l[k] = x at hcs hdrop hva hnx
    have hil := insT_len hva
    have hip := refInsT_pure hva
    unfold Ins.cells at hip
    simp only [List.map_cons, List.map_nil] at hip
    refine bwp_seq fun K hK => bwp_region rfl ?_
    simp -implicitDefEqProofs only [go_sem, ↓reduceIte, hTe, hi', Int.natCast_nonneg, Int.toNat_natCast, hd1, hjc, hD.len, hlt']
    refine hK _ ?_; clear hK
    refine bwp_cond true (by simp [ev, fget, hlt']) (fun _ => ?_) (fun h => nomatch h)
    refine bwp_skip ?_
    refine hK1 _ ?_; clear hK1
    refine bwp_seq fun K1 hK1 => ?_
    refine bwp_block ?_
    refine bwp_region rfl ?_
    simp -implicitDefEqProofs only [go_sem, ↓reduceIte, hTe, hi', hlt', Int.natCast_nonneg, Int.toNat_natCast, hd1, hjc, hXe, hcs, hdrop, Ins.cells]
    refine callK_pure hip rfl rfl ?_
    simp -implicitDefEqProofs only [go_sem, ↓reduceIte]
    repeat' (first
      | (refine gateK_split (fun hb => ?_) (fun hb => ?_) <;> simp -implicitDefEqProofs only [go_sem, ↓reduceIte, hb])
      | (refine dGateK_split (fun hb => ?_) (fun hb => ?_) <;> simp -implicitDefEqProofs only [go_sem, ↓reduceIte, hb])
      | (rw [if_pos (by (try simp only [List.length_append, List.length_cons, List.length_nil, List.length_map]); omega)]; simp -implicitDefEqProofs only [go_sem, ↓reduceIte]))
    refine hK1 _ ?_; clear hK1
    have hw : IntKind.i64.wrap ((k : Int) + 1) = ((k + 1 : Nat) : Int) := by rw [wrap_i64 (by omega) (by omega)]; rfl
    refine bwp_region rfl ?_
    simp -implicitDefEqProofs only [go_sem, ↓reduceIte, hw]
    rw [hnx]
    exact ⟨hlt, (Leads.ent [(0, 0)] ⟨by simp [entT, fget, AV.ren, renL, pget, insL, List.append_assoc, hTe], by simp [entM, pinv, mget, mset, renL, AV.ren, pget, renL_append, -List.map_map, insL, List.append_assoc, hTe], rfl, rfl⟩)⟩
  · have hlt' : ¬ (k : Int) < l.length := by omega
    have hin : k = l.length := by omega
    subst hin
    refine bwp_seq fun K hK => bwp_region rfl ?_
    simp -implicitDefEqProofs only [go_sem, ↓reduceIte, hTe, hi', Int.natCast_nonneg, Int.toNat_natCast, hd1, hjc, hD.len, hlt']
    refine hK _ ?_; clear hK
    refine bwp_cond false (by simp [ev, fget, hlt']) (fun h => nomatch h) (fun _ => ?_)
    rw [List.take_length] at hX
    refine bwp_leads (S' := rprS [.str nm, I, T, .int .i64 kd, A] (s ++ l.flatMap insL) [(6, .d (.int .i64 l.length)), (5, .d (.int .i64 i))]) (Leads.ent [(0, 0)] ⟨by simp [entT, fget, AV.ren, renL, pget, rprS, hX, hTe], by simp [entM, pinv, mget, mset, renL, AV.ren, pget, renL_append, -List.map_map, rprS, hX, hTe], rfl, rfl⟩) ?_
    exact bwp_exit hQ
set_option maxHeartbeats 2000000 in
theorem rp_threads {nm : List UInt8} {I T A : DV} {kd : Int} {ls : List (List Ins)} (hT : IsSl2 Ins.cells ls T) (hv : ∀ l ∈ ls, l.length ≤ 5000000000000 ∧ ∀ x ∈ l, I64i x) (h7 : ls.length ≤ 7) {s : List UInt8} (hs : s.length ≤ 900000) {Q : Exit → St → Prop}
    (hQ : Q (.exit 2) (rprS [.str nm, I, T, .int .i64 kd, A] (s ++ ls.flatMap threadL) [(5, .d (.int .i64 ls.length))])) :
    BWP Tryz.prog (mbound []) 93 (.loop ac7L2) (rprS [.str nm, I, T, .int .i64 kd, A] s [(5, .d (.int .i64 (0 : Nat)))]) Q := by
  have e0 : s = s ++ (ls.take 0).flatMap threadL := by simp
  rw [e0]
  refine bwp_count (fun k => rprS [.str nm, I, T, .int .i64 kd, A] (s ++ (ls.take k).flatMap threadL) [(5, .d (.int .i64 k))]) ls.length ?_
  intro k hk
  have hbl : ((ls.take k).flatMap threadL).length ≤ 5425000000000077 := by
    have := flat_len threadL 775000000000011 (ls.take k) (fun l hl => threadL_len2 (hv l (List.mem_of_mem_take hl)).1 (hv l (List.mem_of_mem_take hl)).2)
    have h2 : (ls.take k).length ≤ 7 := by simp; omega
    omega
  generalize hX : s ++ (ls.take k).flatMap threadL = X
  have hXl : X.length ≤ 6000000000000000 := by rw [← hX]; simp only [List.length_append]; omega
  unfold ac7L2 rprS
  simp only [List.cons_append, List.nil_append, List.map_cons, List.map_nil]
  refine bwp_seq fun K1 hK1 => ?_
  by_cases hlt : k < ls.length
  · have hlt' : (k : Int) < ls.length := by omega
    have hva := hv ls[k] (List.getElem_mem hlt)
    have hnx : s ++ (ls.take (k + 1)).flatMap threadL = X ++ threadL ls[k] := by rw [flat_take threadL hlt, ← hX, List.append_assoc]
    have b1 : X.length + 9 ≤ 9223372036854775807 := by omega
    refine bwp_seq fun K hK => bwp_region rfl ?_
    simp -implicitDefEqProofs only [go_sem, ↓reduceIte, hT.len, hlt']
    refine hK _ ?_; clear hK
    refine bwp_cond true (by simp [ev, fget, hlt']) (fun _ => ?_) (fun h => nomatch h)
    refine bwp_skip ?_
    refine hK1 _ ?_; clear hK1
    refine bwp_seq fun K1 hK1 => ?_
    refine bwp_block ?_
    refine bwp_seq fun K hK => bwp_region rfl ?_
    simp -implicitDefEqProofs only [go_sem, ↓reduceIte, List.length_cons, List.length_nil, Nat.zero_add, b1]
    refine hK _ ?_; clear hK
    refine bwp_seq fun K2 hK2 => ?_
    refine bwp_seq fun K hK => bwp_region rfl ?_
    simp -implicitDefEqProofs only [go_sem, ↓reduceIte]
    refine hK _ ?_; clear hK
    refine bwp_block ?_
    have hX2 : (X ++ [116, 104, 114, 101, 97, 100, 32, 123, 10]).length ≤ 6100000000000000 := by simp only [List.length_append, List.length_cons, List.length_nil]; omega
    refine bwp_leads (S' := rprS [.str nm, I, T, .int .i64 kd, A] (X ++ [116, 104, 114, 101, 97, 100, 32, 123, 10]) [(6, .d (.int .i64 (0 : Nat))), (5, .d (.int .i64 k))]) (Leads.ent [(0, 0)] ⟨by simp [entT, fget, AV.ren, renL, pget, rprS], by simp [entM, pinv, mget, mset, renL, AV.ren, pget, renL_append, -List.map_map, rprS], rfl, rfl⟩) ?_
    refine rp_thread hT hlt hva.2 hva.1 hX2 ?_
    have h1 := flat_len insL 155 ls[k] (fun x hx => insL_len (hva.2 x hx))
    have h2 : ls[k].length * 155 ≤ 5000000000000 * 155 := Nat.mul_le_mul_right _ hva.1
    generalize hY : (X ++ [116, 104, 114, 101, 97, 100, 32, 123, 10]) ++ ls[k].flatMap insL = Y
    have hYl : Y.length ≤ 7000000000000000 := by rw [← hY, List.length_append]; omega
    unfold rprS
    simp only [List.cons_append, List.nil_append, List.map_cons, List.map_nil]
    simp -implicitDefEqProofs only [go_sem, ↓reduceIte]
    refine hK2 _ ?_; clear hK2
    have b2 : Y.length + 2 ≤ 9223372036854775807 := by omega
    refine bwp_region rfl ?_
    simp -implicitDefEqProofs only [go_sem, ↓reduceIte, List.length_cons, List.length_nil, Nat.zero_add, b2]
    refine hK1 _ ?_; clear hK1
    have hw : IntKind.i64.wrap ((k : Int) + 1) = ((k + 1 : Nat) : Int) := by rw [wrap_i64 (by omega) (by omega)]; rfl
    refine bwp_region rfl ?_
    simp -implicitDefEqProofs only [go_sem, ↓reduceIte, hw]
    have hnx2 : s ++ (ls.take (k + 1)).flatMap threadL = Y ++ [125, 10] := by rw [hnx, ← hY]; simp [threadL]
    rw [hnx2]
    exact ⟨hlt, (Leads.ent [(0, 0)] ⟨by simp [entT, fget, AV.ren, renL, pget, List.append_assoc], by simp [entM, pinv, mget, mset, renL, AV.ren, pget, renL_append, -List.map_map, List.append_assoc], rfl, rfl⟩)⟩
  · have hlt' : ¬ (k : Int) < ls.length := by omega
    have hin : k = ls.length := by omega
    subst hin
    refine bwp_seq fun K hK => bwp_region rfl ?_
    simp -implicitDefEqProofs only [go_sem, ↓reduceIte, hT.len, hlt']
    refine hK _ ?_; clear hK
    refine bwp_cond false (by simp [ev, fget, hlt']) (fun h => nomatch h) (fun _ => ?_)
    rw [List.take_length] at hX
    refine bwp_leads (S' := rprS [.str nm, I, T, .int .i64 kd, A] (s ++ ls.flatMap threadL) [(5, .d (.int .i64 ls.length))]) (Leads.ent [(0, 0)] ⟨by simp [entT, fget, AV.ren, renL, pget, rprS, hX], by simp [entM, pinv, mget, mset, renL, AV.ren, pget, renL_append, -List.map_map, rprS, hX], rfl, rfl⟩) ?_
    exact bwp_exit hQ
set_option maxHeartbeats 4000000 in
theorem refPrint_pure {t : Test} {cs : List DV} (hT : IsTest t cs) (hf : FewT2 t) : Pure Tryz.prog 7 [.agg (cs.map .d)] (.d (.str (testT t))) := by
  have hn := hf.name
  have hok := refTest_pure hT (by omega)
  obtain ⟨I, T, A, rfl, hI, hTh, hA⟩ := hT
  simp only [List.map_cons, List.map_nil] at hok ⊢
  refine acalls_of Tryz.func7 ac7_ok Tryz.ntmps7 Tryz.results7 rfl ?_
  unfold ac7
  refine bwp_seq fun K hK => bwp_region rfl ?_
  simp -implicitDefEqProofs only [go_sem, ↓reduceIte]
  refine hK _ ?_; clear hK
  refine bwp_seq fun K1 hK1 => ?_
  refine bwp_seq fun K hK => bwp_region rfl ?_
  simp -implicitDefEqProofs only [go_sem, ↓reduceIte]
  refine callK_pure hok rfl rfl ?_
  cases hokb : okB t with
  | false =>
    simp -implicitDefEqProofs only [go_sem, ↓reduceIte]
    refine hK _ ?_; clear hK
    refine bwp_cond true (by simp [ev, fget]) (fun _ => ?_) (fun h => nomatch h)
    refine bwp_seq fun K hK => bwp_region rfl ?_
    simp -implicitDefEqProofs only [go_sem, ↓reduceIte]
    refine hK _ ?_; clear hK
    refine bwp_ret ?_
    simp only [go_sem]
    refine aend_ret _ rfl rfl ⟨?_, rfl⟩
    simp [fget, testT, hokb]
  | true =>
    have hob := hokb
    simp only [okB, Bool.and_eq_true] at hob
    have hin : ∀ x ∈ t.inits, isLocB x.loc = true := fun x hx => by
      have := hob.1.1.2
      simp only [badInitB, Bool.not_eq_true', List.any_eq_false, Bool.not_eq_false] at this
      exact this x hx
    simp -implicitDefEqProofs only [go_sem, ↓reduceIte]
    refine hK _ ?_; clear hK
    refine bwp_cond false (by simp [ev, fget]) (fun h => nomatch h) (fun _ => ?_)
    refine bwp_skip ?_
    refine hK1 _ ?_; clear hK1
    refine bwp_seq fun K hK => bwp_region rfl ?_
    simp -implicitDefEqProofs only [go_sem, ↓reduceIte]
    repeat' (first
      | (refine gateK_split (fun hb => ?_) (fun hb => ?_) <;> simp -implicitDefEqProofs only [go_sem, ↓reduceIte, hb])
      | (refine dGateK_split (fun hb => ?_) (fun hb => ?_) <;> simp -implicitDefEqProofs only [go_sem, ↓reduceIte, hb])
      | (rw [if_pos (by (try simp only [List.length_append, List.length_cons, List.length_nil, List.length_map]); omega)]; simp -implicitDefEqProofs only [go_sem, ↓reduceIte]))
    refine hK _ ?_; clear hK
    have hh : (headL t).length ≤ 1000 := by simp only [headL, List.length_append, List.length_cons, List.length_nil]; omega
    refine bwp_leads (S' := rprS [.str t.name, I, T, .int .i64 t.kind, A] (headL t) []) (Leads.ent [(0, 0)] ⟨by simp [entT, fget, AV.ren, renL, pget, rprS, headL], by simp [entM, pinv, mget, mset, renL, AV.ren, pget, renL_append, -List.map_map, rprS, headL], rfl, rfl⟩) ?_
    have hil := initsL_len' hf.inits hf.values
    refine bwp_seq fun K2 hK2 => ?_
    have fin2 : ∀ S : St, Leads (mbound []) 93 S (rprS [.str t.name, I, T, .int .i64 t.kind, A] (headL t ++ initsL t.inits) []) → K2 S := by
      intro S hS
      refine hK2 _ ?_; clear hK2
      refine bwp_leads hS ?_
      generalize hX : headL t ++ initsL t.inits = X
      have hXl : X.length ≤ 900000 := by
        rw [← hX, List.length_append]
        unfold initsL
        split
        · simp; omega
        · simp only [List.length_append, List.length_cons, List.length_nil]; omega
      unfold rprS
      simp only [List.nil_append, List.map_cons, List.map_nil]
      refine bwp_seq fun K3 hK3 => ?_
      refine bwp_seq fun K hK => bwp_region rfl ?_
      simp -implicitDefEqProofs only [go_sem, ↓reduceIte]
      refine hK _ ?_; clear hK
      refine bwp_block ?_
      refine bwp_leads (S' := rprS [.str t.name, I, T, .int .i64 t.kind, A] X [(5, .d (.int .i64 (0 : Nat)))]) (Leads.ent [(0, 0)] ⟨by simp [entT, fget, AV.ren, renL, pget, rprS], by simp [entM, pinv, mget, mset, renL, AV.ren, pget, renL_append, -List.map_map, rprS], rfl, rfl⟩) ?_
      refine rp_threads hTh hf.ins hf.threads hXl ?_
      have h1 := flat_len threadL 775000000000011 t.threads (fun l hl => threadL_len2 (hf.ins l hl).1 (hf.ins l hl).2)
      have h2 := hf.threads
      generalize hY : X ++ t.threads.flatMap threadL = Y
      have hYl : Y.length ≤ 6000000000000000 := by rw [← hY, List.length_append]; omega
      unfold rprS
      simp only [List.cons_append, List.nil_append, List.map_cons, List.map_nil]
      simp -implicitDefEqProofs only [go_sem, ↓reduceIte]
      refine hK3 _ ?_; clear hK3
      have hcl := condT_len2 (kind := t.kind) hf.rows
      refine bwp_seq fun K4 hK4 => ?_
      have fin4 : ∀ (S : St) (Z : List UInt8), Z.length ≤ 11000000000000000 → Z = Y ++ condL t → Leads (mbound []) 93 S (rprS [.str t.name, I, T, .int .i64 t.kind, A] Z []) → K4 S := by
        intro S Z hZl hZ hS
        refine hK4 _ ?_; clear hK4
        refine bwp_leads hS ?_
        unfold rprS
        simp only [List.nil_append]
        refine bwp_seq fun K hK => bwp_region rfl ?_
        simp -implicitDefEqProofs only [go_sem, ↓reduceIte]
        repeat' (first
          | (refine gateK_split (fun hb => ?_) (fun hb => ?_) <;> simp -implicitDefEqProofs only [go_sem, ↓reduceIte, hb])
          | (refine dGateK_split (fun hb => ?_) (fun hb => ?_) <;> simp -implicitDefEqProofs only [go_sem, ↓reduceIte, hb])
          | (rw [if_pos (by (try simp only [List.length_append, List.length_cons, List.length_nil, List.length_map]); omega)]; simp -implicitDefEqProofs only [go_sem, ↓reduceIte]))
        refine hK _ ?_; clear hK
        refine bwp_ret ?_
        simp only [go_sem]
        refine aend_ret _ rfl rfl ⟨?_, rfl⟩
        simp [fget, testT, hokb, hZ, ← hY, ← hX]
      by_cases hk : t.kind = 0
      · have hce : condL t = [] := by
          have : condT t.kind t.rows = [] := by unfold condT; rw [if_pos (.inl hk)]
          unfold condL
          rw [if_pos this]
        refine bwp_seq fun K hK => bwp_region rfl ?_
        simp -implicitDefEqProofs only [go_sem, ↓reduceIte, hk]
        refine hK _ ?_; clear hK
        refine bwp_cond false (by simp [ev, fget, hk]) (fun h => nomatch h) (fun _ => ?_)
        refine bwp_skip ?_
        refine fin4 _ Y (by omega) (by rw [hce]; simp) ?_
        exact Leads.ent [(0, 0)] ⟨by simp [entT, fget, AV.ren, renL, pget, rprS], by simp [entM, pinv, mget, mset, renL, AV.ren, pget, rprS, hk], rfl, rfl⟩
      · have hce : condL t = condT t.kind t.rows ++ [10] := by
          unfold condL
          rw [if_neg (condT_ne hk hob.2)]
        have hcp := refCondT_pure (kd := t.kind) hA hf.rows
        refine bwp_seq fun K hK => bwp_region rfl ?_
        simp -implicitDefEqProofs only [go_sem, ↓reduceIte, hk]
        refine hK _ ?_; clear hK
        refine bwp_cond true (by simp [ev, fget, hk]) (fun _ => ?_) (fun h => nomatch h)
        refine bwp_region rfl ?_
        simp -implicitDefEqProofs only [go_sem, ↓reduceIte]
        refine callK_pure hcp rfl rfl ?_
        simp -implicitDefEqProofs only [go_sem, ↓reduceIte]
        repeat' (first
          | (refine gateK_split (fun hb => ?_) (fun hb => ?_) <;> simp -implicitDefEqProofs only [go_sem, ↓reduceIte, hb])
          | (refine dGateK_split (fun hb => ?_) (fun hb => ?_) <;> simp -implicitDefEqProofs only [go_sem, ↓reduceIte, hb])
          | (rw [if_pos (by (try simp only [List.length_append, List.length_cons, List.length_nil, List.length_map]); omega)]; simp -implicitDefEqProofs only [go_sem, ↓reduceIte]))
        refine fin4 _ (Y ++ condT t.kind t.rows ++ [10]) (by simp only [List.length_append, List.length_cons, List.length_nil]; omega) (by rw [hce]; simp) ?_
        exact Leads.ent [(0, 0)] ⟨by simp [entT, fget, AV.ren, renL, pget, rprS], by simp [entM, pinv, mget, mset, renL, AV.ren, pget, rprS], rfl, rfl⟩
    unfold rprS
    simp only [List.nil_append, List.map_cons, List.map_nil]
    by_cases hi : t.inits = []
    · have hl : t.inits.length = 0 := by simp [hi]
      refine bwp_seq fun K hK => bwp_region rfl ?_
      simp -implicitDefEqProofs only [go_sem, ↓reduceIte, hI.len, hl]
      refine hK _ ?_; clear hK
      refine bwp_cond false (by simp [ev, fget, hl]) (fun h => nomatch h) (fun _ => ?_)
      refine bwp_skip ?_
      exact fin2 _ (Leads.ent [(0, 0)] ⟨by simp [entT, fget, AV.ren, renL, pget, rprS, initsL, hi], by simp [entM, pinv, mget, mset, mdel, renL, AV.ren, pget, renL_append, -List.map_map, rprS, initsL, hi], rfl, rfl⟩)
    · have hl : (0 : Int) < t.inits.length := by
        have := List.length_pos_iff.2 hi
        omega
      refine bwp_seq fun K hK => bwp_region rfl ?_
      simp -implicitDefEqProofs only [go_sem, ↓reduceIte, hI.len, hl]
      refine hK _ ?_; clear hK
      refine bwp_cond true (by simp [ev, fget, hl]) (fun _ => ?_) (fun h => nomatch h)
      refine bwp_seq fun K hK => bwp_region rfl ?_
      simp -implicitDefEqProofs only [go_sem, ↓reduceIte]
      repeat' (first
        | (refine gateK_split (fun hb => ?_) (fun hb => ?_) <;> simp -implicitDefEqProofs only [go_sem, ↓reduceIte, hb])
        | (refine dGateK_split (fun hb => ?_) (fun hb => ?_) <;> simp -implicitDefEqProofs only [go_sem, ↓reduceIte, hb])
        | (rw [if_pos (by (try simp only [List.length_append, List.length_cons, List.length_nil, List.length_map]); omega)]; simp -implicitDefEqProofs only [go_sem, ↓reduceIte]))
      refine hK _ ?_; clear hK
      refine bwp_seq fun K3 hK3 => ?_
      refine bwp_seq fun K hK => bwp_region rfl ?_
      simp -implicitDefEqProofs only [go_sem, ↓reduceIte]
      refine hK _ ?_; clear hK
      refine bwp_block ?_
      refine bwp_leads (S' := rprS [.str t.name, I, T, .int .i64 t.kind, A] (headL t ++ [105, 110, 105, 116, 32, 123, 10]) [(4, .d (.int .i64 (0 : Nat)))]) (Leads.ent [(0, 0)] ⟨by simp [entT, fget, AV.ren, renL, pget, rprS], by simp [entM, pinv, mget, mset, renL, AV.ren, pget, renL_append, -List.map_map, rprS], rfl, rfl⟩) ?_
      refine rp_inits hI hf.values hin hf.inits (by simp only [List.length_append, List.length_cons, List.length_nil]; omega) ?_
      generalize hY : headL t ++ [105, 110, 105, 116, 32, 123, 10] ++ t.inits.flatMap initL = Y
      have hYl : Y.length ≤ 10000 := by rw [← hY]; simp only [List.length_append, List.length_cons, List.length_nil]; omega
      unfold rprS
      simp only [List.cons_append, List.nil_append, List.map_cons, List.map_nil]
      simp -implicitDefEqProofs only [go_sem, ↓reduceIte]
      refine hK3 _ ?_; clear hK3
      refine bwp_region rfl ?_
      simp -implicitDefEqProofs only [go_sem, ↓reduceIte]
      repeat' (first
        | (refine gateK_split (fun hb => ?_) (fun hb => ?_) <;> simp -implicitDefEqProofs only [go_sem, ↓reduceIte, hb])
        | (refine dGateK_split (fun hb => ?_) (fun hb => ?_) <;> simp -implicitDefEqProofs only [go_sem, ↓reduceIte, hb])
        | (rw [if_pos (by (try simp only [List.length_append, List.length_cons, List.length_nil, List.length_map]); omega)]; simp -implicitDefEqProofs only [go_sem, ↓reduceIte]))
      have he : headL t ++ initsL t.inits = Y ++ [125, 10] := by rw [← hY]; simp [initsL, hi]
      rw [he] at fin2
      exact fin2 _ (Leads.ent [(0, 0)] ⟨by simp [entT, fget, AV.ren, renL, pget, rprS], by simp [entM, pinv, mget, mset, mdel, renL, AV.ren, pget, renL_append, -List.map_map, rprS], rfl, rfl⟩)
end Go.Proofs.YtpfbljkfbjjlkaaGreatDoor

/- The text of a test made of numbers: how long it is, and what it is read as. -/
namespace Go.Proofs.YtpfbljkfbjjlkaaGreatDoor
open Go Go.Jq
set_option maxRecDepth 100000
set_option linter.unusedSimpArgs false
theorem small_range (ls : List Int) (most : Nat) : RangeT (small ls most) := by
  have hf := small_few ls most
  exact ⟨by have : (small ls most).name = [116] := rfl; rw [this]; decide, hf.values, fun l hl => (hf.ins l hl).2, fun l hl => (hf.rows.2 l hl).2⟩
theorem small_val (ls : List Int) (most : Nat) : ValT (small ls most) :=
  have h := small_range ls most
  ⟨(small_goodTest ls most).ok, h.values, h.ins, h.rows⟩
theorem smallRow_len (ls : List Int) (most : Nat) : (small ls most).rows.length ≤ 2 ∧ ∀ l ∈ (small ls most).rows, l.length ≤ 2 := by
  have : (small ls most).rows = smallRows (smallC ls most) := rfl
  rw [this]
  unfold smallRows
  split
  · refine ⟨by simp, fun l hl => ?_⟩
    simp only [List.mem_cons, List.not_mem_nil, or_false] at hl
    rcases hl with rfl | rfl <;> simp
  · simp
theorem small_text_len (ls : List Int) (most : Nat) : (testT (small ls most)).length ≤ 4000 := by
  have hf := small_few ls most
  have hg := small_goodTest ls most
  have h1 := flat_len threadL 941 (small ls most).threads (fun l hl => by
    have h1 := flat_len insL 155 l (fun x hx => insL_len ((hf.ins l hl).2 x hx))
    have h2 : l.length * 155 ≤ 6 * 155 := Nat.mul_le_mul_right _ (hg.threads l hl).len
    simp only [threadL, List.length_append, List.length_cons, List.length_nil]
    omega)
  have h2 : (small ls most).threads.length ≤ 3 := by rw [small_len]; exact smallN_le ls
  have h3 : (small ls most).threads.length * 941 ≤ 3 * 941 := Nat.mul_le_mul_right _ h2
  have h4 := flat_len initL 30 (small ls most).inits (fun x hx => initL_len (hf.values x hx))
  have h5 : (small ls most).inits.length ≤ 1 := hg.once
  have h6 : (initsL (small ls most).inits).length ≤ 39 := by
    unfold initsL
    split
    · simp
    · simp only [List.length_append, List.length_cons, List.length_nil]; omega
  have h7 : (condL (small ls most)).length ≤ 310 := by
    obtain ⟨r1, r2⟩ := smallRow_len ls most
    have hrow : ∀ l ∈ (small ls most).rows, (rowT l).length ≤ 140 := fun l hl => by
      have := join_len [32, 38, 32] (l.map atomT) 67 (fun s hs => by
        obtain ⟨a, ha, rfl⟩ := List.mem_map.1 hs
        exact atomT_len ((hf.rows.2 l hl).2 a ha))
      rw [List.length_map] at this
      have h2 : l.length * 70 ≤ 2 * 70 := Nat.mul_le_mul_right _ (r2 l hl)
      unfold rowT
      exact Nat.le_trans this h2
    have hj := join_len [32, 124, 32] ((small ls most).rows.map rowT) 140 (fun s hs => by
      obtain ⟨l, hl, rfl⟩ := List.mem_map.1 hs
      exact hrow l hl)
    rw [List.length_map] at hj
    have h8 : (small ls most).rows.length * 143 ≤ 2 * 143 := Nat.mul_le_mul_right _ r1
    have h9 : (Lib.join ((small ls most).rows.map rowT) [32, 124, 32]).length ≤ 286 := Nat.le_trans hj h8
    have h10 : (condT (small ls most).kind (small ls most).rows).length ≤ 300 := by
      unfold condT wordT
      split
      · simp
      · split <;> simp <;> omega
    unfold condL
    split
    · simp
    · simp only [List.length_append, List.length_cons, List.length_nil]; omega
  have hn : (headL (small ls most)).length = 9 := rfl
  unfold testT
  rw [if_pos hg.ok]
  simp only [List.length_append, List.length_cons, List.length_nil]
  omega
theorem small_reads (ls : List Int) (most : Nat) : pTest (testT (small ls most)) = .ok (small ls most) := text_reads (small_val ls most) (small_text_len ls most)
theorem small_check (ls : List Int) (most : Nat) : checkW (small ls most) = 0 := by
  have hg := small_goodTest ls most
  have hn : (small ls most).threads.length = smallN ls := small_len ls most
  have h3 := smallN_le ls
  have h2 : 2 ≤ smallN ls := by unfold smallN; omega
  rw [hg.check (by omega), if_neg (by omega), if_neg]
  have : (small ls most).rows = smallRows (smallC ls most) := rfl
  rw [this, hn]
  generalize smallN ls = n at h2
  generalize smallC ls most = x
  unfold smallRows
  split
  · simp [farB]; omega
  · simp
theorem small_readR (ls : List Int) (most : Nat) : readR (testT (small ls most)) = .ok (small ls most) := by
  unfold readR
  rw [small_reads]
  simp only [small_check, if_true]
set_option maxHeartbeats 4000000 in
theorem wellPrints_pure {ls : List Int} {X : DV} (hX : IsInts ls X) : Pure Tryz.prog 4 [.d X] (.d (.bool true)) := by
  have haw := awake5_pure
  have hm : maxLen = 9223372036854775807 := rfl
  have hf := (small_few ls 12).two
  have hl := small_text_len ls 12
  have hrd := small_readR ls 12
  have hps := small_reads ls 12
  have hck := checkTest_pure hps
  rw [small_check] at hck
  have kr := wellRead_pure (s := testT (small ls 12)) (by omega)
  rw [hrd] at kr
  have hi1 := isTest_p (testT (small ls 12))
  rw [hps] at hi1
  refine acalls_of Tryz.func4 ac4_ok Tryz.ntmps4 Tryz.results4 rfl ?_
  unfold ac4
  refine bwp_seq fun K hK => bwp_region rfl ?_
  simp -implicitDefEqProofs only [go_sem, ↓reduceIte]
  refine hK _ ?_; clear hK
  refine bwp_seq fun K hK => bwp_region rfl ?_
  simp -implicitDefEqProofs only [go_sem, ↓reduceIte]
  refine callK_pureQ (small_calls hX (most := 12) (by omega)) rfl (fun v ⟨cs, h, _⟩ => by subst h; exact inL_data cs) ?_
  rintro v ⟨cu, rfl, hU⟩
  have kp := refPrint_pure hU hf
  have ks := refSame_pure hU hi1
  have hsm : sameB (small ls 12) (pT (.ok (small ls 12))) = true := (sameB_iff _ _).2 rfl
  rw [hsm] at ks
  obtain ⟨I', T', A', rfl, hI', hTh', hA'⟩ := hU
  generalize testT (small ls 12) = p at *
  simp only [pCells, pCode, pAt, testD, List.map_cons, List.map_nil] at kp ks kr hck
  simp -implicitDefEqProofs only [go_sem, ↓reduceIte, List.map_cons, List.map_nil, List.length_cons, List.length_nil]
  refine hK _ ?_; clear hK
  refine bwp_seq fun K hK => bwp_region rfl ?_
  simp -implicitDefEqProofs only [go_sem, ↓reduceIte]
  repeat' (first
    | (refine gateK_split (fun hb => ?_) (fun hb => ?_) <;> simp -implicitDefEqProofs only [go_sem, ↓reduceIte, hb])
    | (refine dGateK_split (fun hb => ?_) (fun hb => ?_) <;> simp -implicitDefEqProofs only [go_sem, ↓reduceIte, hb])
    | (refine callK_pure (kp) rfl rfl ?_; simp -implicitDefEqProofs only [go_sem, ↓reduceIte])
    | (refine dCallK_pure (kp) rfl rfl ?_; simp -implicitDefEqProofs only [go_sem, ↓reduceIte])
    | (refine callK_pure (kr) rfl rfl ?_; simp -implicitDefEqProofs only [go_sem, ↓reduceIte])
    | (refine dCallK_pure (kr) rfl rfl ?_; simp -implicitDefEqProofs only [go_sem, ↓reduceIte])
    | (rw [if_pos (by (try simp only [List.length_append, List.length_cons, List.length_nil, List.length_map]); omega)]; simp -implicitDefEqProofs only [go_sem, ↓reduceIte]))
  refine hK _ ?_; clear hK
  refine bwp_seq fun K hK => bwp_region rfl ?_
  simp -implicitDefEqProofs only [go_sem, ↓reduceIte]
  repeat' (first
    | (refine gateK_split (fun hb => ?_) (fun hb => ?_) <;> simp -implicitDefEqProofs only [go_sem, ↓reduceIte, hb])
    | (refine dGateK_split (fun hb => ?_) (fun hb => ?_) <;> simp -implicitDefEqProofs only [go_sem, ↓reduceIte, hb])
    | (refine callK_pure (ks) rfl rfl ?_; simp -implicitDefEqProofs only [go_sem, ↓reduceIte])
    | (refine dCallK_pure (ks) rfl rfl ?_; simp -implicitDefEqProofs only [go_sem, ↓reduceIte])
    | (refine callK_pure (hck) rfl rfl ?_; simp -implicitDefEqProofs only [go_sem, ↓reduceIte])
    | (refine dCallK_pure (hck) rfl rfl ?_; simp -implicitDefEqProofs only [go_sem, ↓reduceIte])
    | (refine callK_pure (haw) rfl rfl ?_; simp -implicitDefEqProofs only [go_sem, ↓reduceIte])
    | (refine dCallK_pure (haw) rfl rfl ?_; simp -implicitDefEqProofs only [go_sem, ↓reduceIte])
    | (rw [if_pos (by (try simp only [List.length_append, List.length_cons, List.length_nil, List.length_map]); omega)]; simp -implicitDefEqProofs only [go_sem, ↓reduceIte]))
  refine hK _ ?_; clear hK
  refine bwp_ret ?_
  simp only [go_sem]
  refine aend_ret _ rfl rfl ⟨?_, rfl⟩
  simp [fget]
end Go.Proofs.YtpfbljkfbjjlkaaGreatDoor
