/- All tokens of a text by the document's reader, gone through. -/
import Derived.Test.YtpfbljkfbjjlkaaDoorL10
import Derived.Test.YtpfbljkfbjjlkaaDoorL5
namespace Go.Proofs.YtpfbljkfbjjlkaaDoor
open Go Go.Jq
set_option maxRecDepth 100000
set_option linter.unusedSimpArgs false

/-- Tokens as data. -/
def tokD (l : List Tok) : DV := match l with
  | [] => .nsl
  | t :: r => .sl (t :: r).length ((t :: r).flatMap Tok.cells)

theorem tokD_ne {l : List Tok} (h : l ≠ []) : tokD l = .sl l.length (l.flatMap Tok.cells) := by
  cases l with
  | nil => exact absurd rfl h
  | cons t r => rfl

def allV (r : List Tok × Int × Nat) : AV := .tup [.d (tokD r.1), .agg [.d (.int .i64 r.2.1), .d (.int .i64 r.2.2)]]

def joinR (acc : List Tok) (r : List Tok × Int × Nat) : List Tok × Int × Nat := if r.2.1 = 0 then (acc ++ r.1, 0, 0) else ([], r.2)

theorem toks_cell (acc : List Tok) : (acc.flatMap Tok.cells).length = acc.length * 3 := by
  induction acc with
  | nil => rfl
  | cons t r ih => simp [List.flatMap_cons, Tok.cells, ih]; omega

theorem toks_step {s : List UInt8} {a e : Nat} {t : Tok} (ha : a ≤ s.length) (h : nextW s a = (t, e, 0)) (h4 : t.kd ≠ 4) (acc : List Tok) : joinR acc (toksW s (s.length + 1) a) = joinR (acc ++ [t]) (toksW s (s.length + 1) e) := by
  have h0 : (nextW s a).2.2 = 0 := by rw [h]
  have hk : (nextW s a).1.kd ≠ 4 := by rw [h]; exact h4
  have ht := nextW_to ha
  have ht2 := ht.2.2 h0 hk
  rw [toks_more h0 hk]
  rw [h] at ht ht2 ⊢
  simp only at ht ht2 ⊢
  rw [toks_fuel (f := s.length) (g := s.length + 1) ht.2.1 (by omega) (by omega)]
  unfold joinR
  by_cases hm : (toksW s (s.length + 1) e).2.1 = 0
  · rw [if_pos hm, if_pos hm, if_pos rfl]; simp
  · rw [if_neg hm, if_neg hm, if_neg (by exact hm)]

theorem tokAt_bad {a : Nat} {l : List UInt8} (h : (tokAt a l).2.2 ≠ 0) : (noTok, (tokAt a l).2.1, (tokAt a l).2.2) = tokAt a l := by
  cases l with
  | nil => exact absurd rfl h
  | cons c r =>
    rw [tokAt] at h ⊢
    split at h
    · exact absurd rfl h
    · rename_i h1
      rw [if_neg h1]
      split at h
      · rename_i h2
        rw [if_pos h2]
        split at h
        · exact absurd rfl h
        · rename_i h3
          rw [if_neg h3]
      · rename_i h2
        rw [if_neg h2]
        split at h
        · rename_i h3
          rw [if_pos h3]
        · exact absurd rfl h

def alS (s : List UInt8) (acc : List Tok) (a : Nat) : St := ⟨[(4, .sl 1 3 0 acc.length), (5, .d (.int .i64 a)), (0, .d (.str s)), (3, .ptr 0 0)], [(0, [.d (.int .i64 0), .d (.int .i64 0)]), (1, (acc.flatMap Tok.cells).map .d)], 2⟩

set_option maxHeartbeats 4000000 in
theorem refAll_pure {s : List UInt8} (hs : s.length ≤ maxLen) : Pure Tryd.prog 17 [.d (.str s)] (allV (allW s)) := by
  have h26 : ldk Tryd.prog 26 = some (some 2) := by kernel_rfl
  have hren : (allV (allW s)).ren (fun _ => none) = allV (allW s) := by simp [allV, AV.ren, renL]
  refine acalls_of Tryd.func17 ac17_ok Tryd.ntmps17 Tryd.results17 rfl ?_
  unfold ac17
  refine bwp_seq fun K hK => bwp_region rfl ?_
  simp -implicitDefEqProofs only [go_sem, ↓reduceIte, Nat.reduceEqDiff, Nat.reduceAdd, Nat.reduceLeDiff, Nat.reduceMul, Nat.reduceSub, Int.reduceLE, Int.reduceLT, Int.reduceEq, Int.reduceToNat, Int.reducePow, Int.reduceNeg]
  refine hK _ ?_; clear hK
  refine bwp_seq fun K1 hK1 => ?_
  by_cases hl : 4000 < s.length
  · have hl' : (4000 : Int) < s.length := by omega
    refine bwp_seq fun K hK => bwp_region rfl ?_
    simp -implicitDefEqProofs only [go_sem, ↓reduceIte, Nat.reduceEqDiff, Nat.reduceAdd, Nat.reduceLeDiff, Nat.reduceMul, Nat.reduceSub, Int.reduceLE, Int.reduceLT, Int.reduceEq, Int.reduceToNat, Int.reducePow, Int.reduceNeg, hl']
    refine hK _ ?_; clear hK
    refine bwp_cond true (by simp [ev, fget]) (fun _ => ?_) (fun h => nomatch h)
    refine bwp_seq fun K hK => bwp_region rfl ?_
    simp -implicitDefEqProofs only [go_sem, ↓reduceIte, Nat.reduceEqDiff, Nat.reduceAdd, Nat.reduceLeDiff, Nat.reduceMul, Nat.reduceSub, Int.reduceLE, Int.reduceLT, Int.reduceEq, Int.reduceToNat, Int.reducePow, Int.reduceNeg]
    refine hK _ ?_; clear hK
    refine bwp_ret ?_
    simp -implicitDefEqProofs only [go_sem, ↓reduceIte, Nat.reduceEqDiff, Nat.reduceAdd, Nat.reduceLeDiff, Nat.reduceMul, Nat.reduceSub, Int.reduceLE, Int.reduceLT, Int.reduceEq, Int.reduceToNat, Int.reducePow, Int.reduceNeg]
    refine aend_ret (allV (allW s)) ?_ hren ⟨rfl, rfl⟩
    have : allW s = ([], 2, 4000) := by unfold allW; rw [if_pos hl]
    rw [this]
    simp [resA, resVs, resV, fget, mget, mset, loadA, h26, allV, tokD]
  have hl' : ¬ (4000 : Int) < s.length := by omega
  refine bwp_seq fun K hK => bwp_region rfl ?_
  simp -implicitDefEqProofs only [go_sem, ↓reduceIte, Nat.reduceEqDiff, Nat.reduceAdd, Nat.reduceLeDiff, Nat.reduceMul, Nat.reduceSub, Int.reduceLE, Int.reduceLT, Int.reduceEq, Int.reduceToNat, Int.reducePow, Int.reduceNeg, hl']
  refine hK _ ?_; clear hK
  refine bwp_cond false (by simp [ev, fget]) (fun h => nomatch h) (fun _ => ?_)
  refine bwp_skip ?_
  refine hK1 _ ?_; clear hK1
  refine bwp_seq fun K hK => bwp_region rfl ?_
  simp -implicitDefEqProofs only [go_sem, ↓reduceIte, Nat.reduceEqDiff, Nat.reduceAdd, Nat.reduceLeDiff, Nat.reduceMul, Nat.reduceSub, Int.reduceLE, Int.reduceLT, Int.reduceEq, Int.reduceToNat, Int.reducePow, Int.reduceNeg]
  refine hK _ ?_; clear hK
  refine bwp_seq fun K hK => bwp_region rfl ?_
  simp -implicitDefEqProofs only [go_sem, ↓reduceIte, Nat.reduceEqDiff, Nat.reduceAdd, Nat.reduceLeDiff, Nat.reduceMul, Nat.reduceSub, Int.reduceLE, Int.reduceLT, Int.reduceEq, Int.reduceToNat, Int.reducePow, Int.reduceNeg]
  refine hK _ ?_; clear hK
  refine bwp_block ?_
  refine bwp_leads (S' := ⟨[(4, .d .nsl), (5, .d (.int .i64 (0 : Nat))), (0, .d (.str s)), (3, .ptr 0 0)], [(0, [.d (.int .i64 0), .d (.int .i64 0)])], 1⟩) (Leads.ent [(0, 0)] ⟨by simp [entT, fget, AV.ren, renL, pget], by simp [entM, pinv, mget, renL, AV.ren], rfl, rfl⟩) ?_
  refine bwp_leads (Leads.nil 4 3 rfl rfl) ?_
  refine bwp_leads (S' := alS s [] 0) (Leads.ent [(0, 0), (1, 1)] ⟨by simp [entT, fget, AV.ren, renL, pget, alS], by simp [entM, pinv, mget, mset, renL, AV.ren, pget, renL_append, -List.map_map, alS], rfl, rfl⟩) ?_
  have hF : allW s = joinR [] (toksW s (s.length + 1) 0) := by
    unfold allW joinR
    rw [if_neg hl]
    split
    · rename_i h
      have := toks_of_tl (tl_of_toks (Nat.zero_le _) (by omega) h) (Nat.zero_le _) (by omega : s.length - 0 < s.length + 1)
      rw [this]
      rfl
    · rename_i h
      rw [← toks_bad h]
  refine bwp_fam (ι := { p : List Tok × Nat // p.1.length ≤ p.2 ∧ p.2 ≤ s.length ∧ allW s = joinR p.1 (toksW s (s.length + 1) p.2) }) (fun p => alS s p.1.1 p.1.2) (fun p => s.length - p.1.2) ⟨([], 0), Nat.zero_le _, Nat.zero_le _, hF⟩ ?_
  rintro ⟨⟨acc, a⟩, hle, ha, hA⟩
  simp only at hle ha hA ⊢
  have k1 := refNext_pure (s := s) (by omega) ha
  unfold ac17L0 alS
  refine bwp_block ?_
  have htk : ((acc.flatMap Tok.cells).map AV.d).length = acc.length * 3 := by rw [List.length_map, toks_cell]
  by_cases h0 : (nextW s a).2.2 = 0
  · have he : nextW s a = ((nextW s a).1, (nextW s a).2.1, 0) := by rw [← h0]
    rw [nxV_ok he] at k1
    have hto := nextW_to ha
    generalize (nextW s a).1 = t at he k1 hto
    generalize (nextW s a).2.1 = e at he k1 hto
    have b1 : (acc.length + 1) * 32 ≤ 140737488351232 := by omega
    refine bwp_seq fun K hK => bwp_region rfl ?_
    simp -implicitDefEqProofs only [go_sem, ↓reduceIte, Nat.reduceEqDiff, Nat.reduceAdd, Nat.reduceLeDiff, Nat.reduceMul, Nat.reduceSub, Int.reduceLE, Int.reduceLT, Int.reduceEq, Int.reduceToNat, Int.reducePow, Int.reduceNeg]
    repeat' (first
      | (refine gateK_split (fun hb => ?_) (fun hb => ?_) <;> simp -implicitDefEqProofs only [go_sem, ↓reduceIte, Nat.reduceEqDiff, Nat.reduceAdd, Nat.reduceLeDiff, Nat.reduceMul, Nat.reduceSub, Int.reduceLE, Int.reduceLT, Int.reduceEq, Int.reduceToNat, Int.reducePow, Int.reduceNeg, hb])
      | (refine dGateK_split (fun hb => ?_) (fun hb => ?_) <;> simp -implicitDefEqProofs only [go_sem, ↓reduceIte, Nat.reduceEqDiff, Nat.reduceAdd, Nat.reduceLeDiff, Nat.reduceMul, Nat.reduceSub, Int.reduceLE, Int.reduceLT, Int.reduceEq, Int.reduceToNat, Int.reducePow, Int.reduceNeg, hb])
      | (refine callK_pure (k1) rfl rfl ?_; simp -implicitDefEqProofs only [go_sem, ↓reduceIte, Nat.reduceEqDiff, Nat.reduceAdd, Nat.reduceLeDiff, Nat.reduceMul, Nat.reduceSub, Int.reduceLE, Int.reduceLT, Int.reduceEq, Int.reduceToNat, Int.reducePow, Int.reduceNeg])
      | (refine dCallK_pure (k1) rfl rfl ?_; simp -implicitDefEqProofs only [go_sem, ↓reduceIte, Nat.reduceEqDiff, Nat.reduceAdd, Nat.reduceLeDiff, Nat.reduceMul, Nat.reduceSub, Int.reduceLE, Int.reduceLT, Int.reduceEq, Int.reduceToNat, Int.reducePow, Int.reduceNeg])
      | (rw [if_pos (by (try simp only [List.length_append, List.length_cons, List.length_nil, List.length_map]); omega)]; simp -implicitDefEqProofs only [go_sem, ↓reduceIte, Nat.reduceEqDiff, Nat.reduceAdd, Nat.reduceLeDiff, Nat.reduceMul, Nat.reduceSub, Int.reduceLE, Int.reduceLT, Int.reduceEq, Int.reduceToNat, Int.reducePow, Int.reduceNeg]))
    refine hK _ ?_; clear hK
    refine bwp_seq fun K1 hK1 => ?_
    refine bwp_seq fun K hK => bwp_region rfl ?_
    simp -implicitDefEqProofs only [go_sem, ↓reduceIte, Nat.reduceEqDiff, Nat.reduceAdd, Nat.reduceLeDiff, Nat.reduceMul, Nat.reduceSub, Int.reduceLE, Int.reduceLT, Int.reduceEq, Int.reduceToNat, Int.reducePow, Int.reduceNeg]
    refine hK _ ?_; clear hK
    refine bwp_cond false (by simp [ev, fget]) (fun h => nomatch h) (fun _ => ?_)
    refine bwp_skip ?_
    refine hK1 _ ?_; clear hK1
    refine bwp_seq fun K hK => bwp_region rfl ?_
    simp -implicitDefEqProofs only [go_sem, ↓reduceIte, Nat.reduceEqDiff, Nat.reduceAdd, Nat.reduceLeDiff, Nat.reduceMul, Nat.reduceSub, Int.reduceLE, Int.reduceLT, Int.reduceEq, Int.reduceToNat, Int.reducePow, Int.reduceNeg, htk, List.length_append, List.length_map, List.length_cons, List.length_nil, b1, toks_cell]
    refine hK _ ?_; clear hK
    by_cases h4 : t.kd = 4
    · have hF1 : allW s = (acc ++ [t], 0, 0) := by
        rw [hA, toksW, he, if_pos rfl, if_pos h4]; rfl
      refine bwp_seq fun K1 hK1 => ?_
      refine bwp_seq fun K hK => bwp_region rfl ?_
      simp -implicitDefEqProofs only [go_sem, ↓reduceIte, Nat.reduceEqDiff, Nat.reduceAdd, Nat.reduceLeDiff, Nat.reduceMul, Nat.reduceSub, Int.reduceLE, Int.reduceLT, Int.reduceEq, Int.reduceToNat, Int.reducePow, Int.reduceNeg, h4]
      refine hK _ ?_; clear hK
      refine bwp_cond true (by simp [ev, fget]) (fun _ => ?_) (fun h => nomatch h)
      refine bwp_seq fun K hK => bwp_region rfl ?_
      simp -implicitDefEqProofs only [go_sem, ↓reduceIte, Nat.reduceEqDiff, Nat.reduceAdd, Nat.reduceLeDiff, Nat.reduceMul, Nat.reduceSub, Int.reduceLE, Int.reduceLT, Int.reduceEq, Int.reduceToNat, Int.reducePow, Int.reduceNeg]
      refine hK _ ?_; clear hK
      refine bwp_leads (S' := ⟨[(2, .sl 1 3 0 (acc ++ [t]).length), (3, .ptr 0 0)], [(0, [.d (.int .i64 0), .d (.int .i64 0)]), (1, ((acc ++ [t]).flatMap Tok.cells).map .d)], 2⟩) (Leads.ent [(0, 0), (5, 1)] ⟨by simp [entT, fget, AV.ren, renL, pget], by simp [entM, pinv, mget, mset, renL, AV.ren, pget, renL_append, -List.map_map, Tok.cells, h4], rfl, rfl⟩) ?_
      have htk2 := toks_cell (acc ++ [t])
      have hne : acc ++ [t] ≠ [] := by simp
      have htd := tokD_ne hne
      generalize hds : (acc ++ [t]).flatMap Tok.cells = ds at htk2 htd
      have htk3 : ds.take ((acc ++ [t]).length * 3) = ds := List.take_of_length_le (by omega)
      refine bwp_leads (Leads.frz (S' := ⟨[(2, .d (.sl (acc ++ [t]).length ds)), (3, .ptr 0 0)], [(0, [.d (.int .i64 0), .d (.int .i64 0)])], 1⟩) [(0, 0)] [(1, ds)] ⟨?_, ?_, rfl, rfl, ?_⟩) ?_
      · simp only [List.length_append, List.length_cons, List.length_nil, Nat.zero_add] at htk3 ⊢
        simp [frzT, fget, AV.cv, cvL, zget, pget, htk3]
      · simp [frzM, pinv, zget, mget, cvL, AV.cv]
      · simp [zokFrom, mget, cvL_d]
      refine bwp_ret ?_
      simp -implicitDefEqProofs only [go_sem, ↓reduceIte, Nat.reduceEqDiff, Nat.reduceAdd, Nat.reduceLeDiff, Nat.reduceMul, Nat.reduceSub, Int.reduceLE, Int.reduceLT, Int.reduceEq, Int.reduceToNat, Int.reducePow, Int.reduceNeg]
      refine aend_ret (allV (allW s)) ?_ hren ⟨rfl, rfl⟩
      rw [hF1]
      simp only [allV, htd]
      simp [resA, resVs, resV, fget, mget, mset, loadA, h26]
    · have hst := toks_step ha he h4 acc
      have hto2 : a < e := hto.2.2 (by rw [he]) h4
      have hto1 : e ≤ s.length := hto.2.1
      refine bwp_seq fun K1 hK1 => ?_
      refine bwp_seq fun K hK => bwp_region rfl ?_
      simp -implicitDefEqProofs only [go_sem, ↓reduceIte, Nat.reduceEqDiff, Nat.reduceAdd, Nat.reduceLeDiff, Nat.reduceMul, Nat.reduceSub, Int.reduceLE, Int.reduceLT, Int.reduceEq, Int.reduceToNat, Int.reducePow, Int.reduceNeg, h4]
      refine hK _ ?_; clear hK
      refine bwp_cond false (by simp [ev, fget]) (fun h => nomatch h) (fun _ => ?_)
      refine bwp_skip ?_
      refine hK1 _ ?_; clear hK1
      refine bwp_region rfl ?_
      simp -implicitDefEqProofs only [go_sem, ↓reduceIte, Nat.reduceEqDiff, Nat.reduceAdd, Nat.reduceLeDiff, Nat.reduceMul, Nat.reduceSub, Int.reduceLE, Int.reduceLT, Int.reduceEq, Int.reduceToNat, Int.reducePow, Int.reduceNeg]
      refine ⟨⟨(acc ++ [t], e), by simp only [List.length_append, List.length_cons, List.length_nil]; omega, hto1, by rw [hA, hst]⟩, by simp only; omega, ?_⟩
      exact Leads.ent [(0, 0), (5, 1)] ⟨by simp [alS, entT, fget, AV.ren, renL, pget], by simp [alS, entM, pinv, mget, mset, renL, AV.ren, pget, renL_append, -List.map_map, Tok.cells], rfl, rfl⟩
  · have hF1 : allW s = ([], (nextW s a).2.2, skipA s a) := by
      rw [hA, toks_err h0]
      unfold joinR
      rw [if_neg h0]
    have hbad : nextW s a = (noTok, (nextW s a).2.1, (nextW s a).2.2) := by
      have := tokAt_bad (a := skipA s a) (l := s.drop (skipA s a)) h0
      unfold nextW
      rw [← this]
    rw [nxV_bad h0 hbad] at k1
    generalize (nextW s a).2.1 = e at k1
    generalize (nextW s a).2.2 = code at k1 hF1 h0
    refine bwp_seq fun K hK => bwp_region rfl ?_
    simp -implicitDefEqProofs only [go_sem, ↓reduceIte, Nat.reduceEqDiff, Nat.reduceAdd, Nat.reduceLeDiff, Nat.reduceMul, Nat.reduceSub, Int.reduceLE, Int.reduceLT, Int.reduceEq, Int.reduceToNat, Int.reducePow, Int.reduceNeg]
    repeat' (first
      | (refine gateK_split (fun hb => ?_) (fun hb => ?_) <;> simp -implicitDefEqProofs only [go_sem, ↓reduceIte, Nat.reduceEqDiff, Nat.reduceAdd, Nat.reduceLeDiff, Nat.reduceMul, Nat.reduceSub, Int.reduceLE, Int.reduceLT, Int.reduceEq, Int.reduceToNat, Int.reducePow, Int.reduceNeg, hb])
      | (refine dGateK_split (fun hb => ?_) (fun hb => ?_) <;> simp -implicitDefEqProofs only [go_sem, ↓reduceIte, Nat.reduceEqDiff, Nat.reduceAdd, Nat.reduceLeDiff, Nat.reduceMul, Nat.reduceSub, Int.reduceLE, Int.reduceLT, Int.reduceEq, Int.reduceToNat, Int.reducePow, Int.reduceNeg, hb])
      | (refine callK_pure (k1) rfl rfl ?_; simp -implicitDefEqProofs only [go_sem, ↓reduceIte, Nat.reduceEqDiff, Nat.reduceAdd, Nat.reduceLeDiff, Nat.reduceMul, Nat.reduceSub, Int.reduceLE, Int.reduceLT, Int.reduceEq, Int.reduceToNat, Int.reducePow, Int.reduceNeg])
      | (refine dCallK_pure (k1) rfl rfl ?_; simp -implicitDefEqProofs only [go_sem, ↓reduceIte, Nat.reduceEqDiff, Nat.reduceAdd, Nat.reduceLeDiff, Nat.reduceMul, Nat.reduceSub, Int.reduceLE, Int.reduceLT, Int.reduceEq, Int.reduceToNat, Int.reducePow, Int.reduceNeg])
      | (rw [if_pos (by (try simp only [List.length_append, List.length_cons, List.length_nil, List.length_map]); omega)]; simp -implicitDefEqProofs only [go_sem, ↓reduceIte, Nat.reduceEqDiff, Nat.reduceAdd, Nat.reduceLeDiff, Nat.reduceMul, Nat.reduceSub, Int.reduceLE, Int.reduceLT, Int.reduceEq, Int.reduceToNat, Int.reducePow, Int.reduceNeg]))
    refine hK _ ?_; clear hK
    refine bwp_seq fun K1 hK1 => ?_
    refine bwp_seq fun K hK => bwp_region rfl ?_
    simp -implicitDefEqProofs only [go_sem, ↓reduceIte, Nat.reduceEqDiff, Nat.reduceAdd, Nat.reduceLeDiff, Nat.reduceMul, Nat.reduceSub, Int.reduceLE, Int.reduceLT, Int.reduceEq, Int.reduceToNat, Int.reducePow, Int.reduceNeg, h0]
    refine hK _ ?_; clear hK
    refine bwp_cond true (by simp [ev, fget]) (fun _ => ?_) (fun h => nomatch h)
    refine bwp_seq fun K hK => bwp_region_draw rfl rfl ?_
    simp -implicitDefEqProofs only [go_sem, ↓reduceIte, Nat.reduceEqDiff, Nat.reduceAdd, Nat.reduceLeDiff, Nat.reduceMul, Nat.reduceSub, Int.reduceLE, Int.reduceLT, Int.reduceEq, Int.reduceToNat, Int.reducePow, Int.reduceNeg]
    refine ⟨rfl, hK _ ?_⟩; clear hK
    refine bwp_ret ?_
    simp -implicitDefEqProofs only [go_sem, ↓reduceIte, Nat.reduceEqDiff, Nat.reduceAdd, Nat.reduceLeDiff, Nat.reduceMul, Nat.reduceSub, Int.reduceLE, Int.reduceLT, Int.reduceEq, Int.reduceToNat, Int.reducePow, Int.reduceNeg]
    refine aend_ret (allV (allW s)) ?_ hren ⟨rfl, rfl⟩
    rw [hF1]
    simp [resA, resVs, resV, fget, mget, mset, loadA, h26, allV, tokD]

end Go.Proofs.YtpfbljkfbjjlkaaDoor
