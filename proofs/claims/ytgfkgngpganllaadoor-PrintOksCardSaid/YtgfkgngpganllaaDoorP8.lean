/- print.Test's contract. -/
import Derived.Test.YtgfkgngpganllaaDoorP7
namespace Go.Proofs.YtgfkgngpganllaaDoor
open Go Go.Jq
set_option maxRecDepth 100000
set_option linter.unusedSimpArgs false

theorem initsL_len {l : List Init} (h : l.length ≤ 41) (hv : ∀ x ∈ l, I64 x.value) : (l.flatMap initL).length ≤ 1230 := by
  have h1 := flat_len initL 30 l (fun x hx => initL_len (hv x hx))
  have h2 : l.length * 30 ≤ 41 * 30 := Nat.mul_le_mul_right _ h
  omega

set_option maxHeartbeats 4000000 in
theorem test_pure {t : Test} {cs : List DV} (hT : IsTest t cs) (hf : FewT t) : Pure Tryd.prog 11 [.agg (cs.map .d)] (.d (.str (testT t))) := by
  have hn := hf.name
  have hok := ok_pure hT (by omega)
  obtain ⟨I, T, A, rfl, hI, hTh, hA⟩ := hT
  simp only [List.map_cons, List.map_nil] at hok ⊢
  refine acalls_of Tryd.func11 ac11_ok Tryd.ntmps11 Tryd.results11 rfl ?_
  unfold ac11
  refine bwp_seq fun K hK => bwp_region rfl ?_
  simp -implicitDefEqProofs only [go_sem, ↓reduceIte, Nat.reduceEqDiff, Nat.reduceAdd, Nat.reduceLeDiff, Nat.reduceMul, Nat.reduceSub, Int.reduceLE, Int.reduceLT, Int.reduceEq, Int.reduceToNat, Int.reducePow, Int.reduceNeg]
  refine hK _ ?_; clear hK
  refine bwp_seq fun K1 hK1 => ?_
  refine bwp_seq fun K hK => bwp_region rfl ?_
  simp -implicitDefEqProofs only [go_sem, ↓reduceIte, Nat.reduceEqDiff, Nat.reduceAdd, Nat.reduceLeDiff, Nat.reduceMul, Nat.reduceSub, Int.reduceLE, Int.reduceLT, Int.reduceEq, Int.reduceToNat, Int.reducePow, Int.reduceNeg]
  refine callK_pure hok rfl rfl ?_
  cases hokb : okB t with
  | false =>
    simp -implicitDefEqProofs only [go_sem, ↓reduceIte, Nat.reduceEqDiff, Nat.reduceAdd, Nat.reduceLeDiff, Nat.reduceMul, Nat.reduceSub, Int.reduceLE, Int.reduceLT, Int.reduceEq, Int.reduceToNat, Int.reducePow, Int.reduceNeg]
    refine hK _ ?_; clear hK
    refine bwp_cond true (by simp [ev, fget]) (fun _ => ?_) (fun h => nomatch h)
    refine bwp_seq fun K hK => bwp_region rfl ?_
    simp -implicitDefEqProofs only [go_sem, ↓reduceIte, Nat.reduceEqDiff, Nat.reduceAdd, Nat.reduceLeDiff, Nat.reduceMul, Nat.reduceSub, Int.reduceLE, Int.reduceLT, Int.reduceEq, Int.reduceToNat, Int.reducePow, Int.reduceNeg]
    refine hK _ ?_; clear hK
    refine bwp_ret ?_
    simp only [go_sem]
    refine aend_ret _ rfl rfl ⟨?_, rfl⟩
    simp [fget, testT, hokb]
  | true =>
    simp -implicitDefEqProofs only [go_sem, ↓reduceIte, Nat.reduceEqDiff, Nat.reduceAdd, Nat.reduceLeDiff, Nat.reduceMul, Nat.reduceSub, Int.reduceLE, Int.reduceLT, Int.reduceEq, Int.reduceToNat, Int.reducePow, Int.reduceNeg]
    refine hK _ ?_; clear hK
    refine bwp_cond false (by simp [ev, fget]) (fun h => nomatch h) (fun _ => ?_)
    refine bwp_skip ?_
    refine hK1 _ ?_; clear hK1
    refine bwp_seq fun K hK => bwp_region rfl ?_
    simp -implicitDefEqProofs only [go_sem, ↓reduceIte, Nat.reduceEqDiff, Nat.reduceAdd, Nat.reduceLeDiff, Nat.reduceMul, Nat.reduceSub, Int.reduceLE, Int.reduceLT, Int.reduceEq, Int.reduceToNat, Int.reducePow, Int.reduceNeg]
    refine hK _ ?_; clear hK
    refine bwp_seq fun K hK => bwp_region rfl ?_
    simp -implicitDefEqProofs only [go_sem, ↓reduceIte, Nat.reduceEqDiff, Nat.reduceAdd, Nat.reduceLeDiff, Nat.reduceMul, Nat.reduceSub, Int.reduceLE, Int.reduceLT, Int.reduceEq, Int.reduceToNat, Int.reducePow, Int.reduceNeg]
    refine hK _ ?_; clear hK
    refine bwp_leads (Leads.nilCellT 1 1 5 rfl rfl rfl rfl) ?_
    have b1 : 5 + t.name.length ≤ 9223372036854775807 := by omega
    have b2 : 5 + t.name.length + 2 ≤ 9223372036854775807 := by omega
    have b3 : t.name.length ≤ 9223372036854775800 := by omega
    refine bwp_seq fun K hK => bwp_region rfl ?_
    simp -implicitDefEqProofs only [go_sem, ↓reduceIte, Nat.reduceEqDiff, Nat.reduceAdd, Nat.reduceLeDiff, Nat.reduceMul, Nat.reduceSub, Int.reduceLE, Int.reduceLT, Int.reduceEq, Int.reduceToNat, Int.reducePow, Int.reduceNeg, List.length_append, List.length_cons, List.length_nil, Nat.zero_add, b1, b2, b3]
    refine ⟨rfl, ?_⟩
    refine line_fresh_callK (i := 1) (j := 2) (by simp only [List.length_append, List.length_cons, List.length_nil]; omega) rfl rfl (by decide) ?_
    simp -implicitDefEqProofs only [go_sem, ↓reduceIte, Nat.reduceEqDiff, Nat.reduceAdd, Nat.reduceLeDiff, Nat.reduceMul, Nat.reduceSub, Int.reduceLE, Int.reduceLT, Int.reduceEq, Int.reduceToNat, Int.reducePow, Int.reduceNeg]
    refine hK _ ?_; clear hK
    have hh : (headL t).length ≤ 1000 := by simp only [headL, List.length_append, List.length_cons, List.length_nil]; omega
    refine bwp_leads (S' := tsS [.str t.name, I, T, .int .i64 t.kind, A] (headL t) []) (Leads.ent [(0, 0), (1, 1), (5, 2)] ⟨by simp [entT, fget, AV.ren, renL, pget, tsS, bytesAV, renB, headL], by simp [entM, pinv, mget, mset, renL, AV.ren, pget, renL_append, -List.map_map, tsS, bytesAV, renB, headL], rfl, rfl⟩) ?_
    have hil := initsL_len hf.inits hf.values
    refine bwp_seq fun K2 hK2 => ?_
    have fin2 : ∀ S : St, Leads (mbound []) 83 S (tsS [.str t.name, I, T, .int .i64 t.kind, A] (headL t ++ initsL t.inits) []) → K2 S := by
      intro S hS
      refine hK2 _ ?_; clear hK2
      refine bwp_leads hS ?_
      generalize hX : headL t ++ initsL t.inits = X
      have hXl : X.length ≤ 900000 := by
        rw [← hX, List.length_append]
        unfold initsL
        split
        · simp; omega
        · simp only [List.length_append, List.length_cons, List.length_nil]; omega
      unfold tsS
      simp only [List.nil_append, List.map_cons, List.map_nil]
      refine bwp_seq fun K3 hK3 => ?_
      refine bwp_seq fun K hK => bwp_region rfl ?_
      simp -implicitDefEqProofs only [go_sem, ↓reduceIte, Nat.reduceEqDiff, Nat.reduceAdd, Nat.reduceLeDiff, Nat.reduceMul, Nat.reduceSub, Int.reduceLE, Int.reduceLT, Int.reduceEq, Int.reduceToNat, Int.reducePow, Int.reduceNeg, hTh.len]
      refine hK _ ?_; clear hK
      refine bwp_block ?_
      refine bwp_leads (S' := tsS [.str t.name, I, T, .int .i64 t.kind, A] X [(52, .d (.int .i64 (0 : Nat))), (50, .d T), (51, .d (.int .i64 t.threads.length))]) (Leads.ent [(0, 0), (1, 1), (2, 2)] ⟨by simp [entT, fget, AV.ren, renL, pget, tsS, bytesAV, renB], by simp [entM, pinv, mget, mset, renL, AV.ren, pget, renL_append, -List.map_map, tsS, bytesAV, renB], rfl, rfl⟩) ?_
      refine ts_threads hTh hf.ins hf.threads hXl ?_
      have h1 := flat_len threadL 4661 t.threads (fun l hl => threadL_len (hf.ins l hl).1 (hf.ins l hl).2)
      have h2 : t.threads.length * 4661 ≤ 7 * 4661 := Nat.mul_le_mul_right _ hf.threads
      generalize hY : X ++ t.threads.flatMap threadL = Y
      have hYl : Y.length ≤ 1000000 := by rw [← hY, List.length_append]; omega
      unfold tsS
      simp only [List.cons_append, List.nil_append, List.map_cons, List.map_nil]
      simp -implicitDefEqProofs only [go_sem, ↓reduceIte, Nat.reduceEqDiff, Nat.reduceAdd, Nat.reduceLeDiff, Nat.reduceMul, Nat.reduceSub, Int.reduceLE, Int.reduceLT, Int.reduceEq, Int.reduceToNat, Int.reducePow, Int.reduceNeg]
      refine hK3 _ ?_; clear hK3
      refine bwp_seq fun K4 hK4 => ?_
      have hcl := condT_len (kind := t.kind) hf.rows
      have fin4 : ∀ S : St, Leads (mbound []) 83 S (tsS [.str t.name, I, T, .int .i64 t.kind, A] (Y ++ condL t) []) → K4 S := by
        intro S hS
        refine hK4 _ ?_; clear hK4
        refine bwp_leads hS ?_
        generalize hZ : Y ++ condL t = Z
        have hZl : Z.length ≤ 1020000 := by
          rw [← hZ, List.length_append]
          unfold condL
          split
          · simp; omega
          · simp only [List.length_append, List.length_cons, List.length_nil]; omega
        unfold tsS
        simp only [List.nil_append, List.map_cons, List.map_nil]
        refine bwp_seq fun K hK => bwp_region rfl ?_
        simp -implicitDefEqProofs only [go_sem, ↓reduceIte, Nat.reduceEqDiff, Nat.reduceAdd, Nat.reduceLeDiff, Nat.reduceMul, Nat.reduceSub, Int.reduceLE, Int.reduceLT, Int.reduceEq, Int.reduceToNat, Int.reducePow, Int.reduceNeg]
        refine ⟨rfl, ?_⟩
        refine line_used_callK (s := Z) (i := 1) (j := 2) (by simp only [List.length_cons, List.length_nil]; omega) rfl rfl (by decide) ?_
        simp -implicitDefEqProofs only [go_sem, ↓reduceIte, Nat.reduceEqDiff, Nat.reduceAdd, Nat.reduceLeDiff, Nat.reduceMul, Nat.reduceSub, Int.reduceLE, Int.reduceLT, Int.reduceEq, Int.reduceToNat, Int.reducePow, Int.reduceNeg]
        refine hK _ ?_; clear hK
        have ht : testT t = Z ++ ([125] ++ [10]) := by rw [← hZ, ← hY, ← hX]; simp [testT, hokb]
        generalize hW : Z ++ ([125] ++ [10]) = W at ht
        have hWl : W.length ≤ 1030000 := by rw [← hW]; simp only [List.length_append, List.length_cons, List.length_nil]; omega
        have hW0 : W ≠ [] := by rw [← hW]; simp
        refine bwp_leads (S' := tsS [.str t.name, I, T, .int .i64 t.kind, A] W []) (Leads.ent [(0, 0), (1, 1), (5, 2)] ⟨by simp [entT, fget, AV.ren, renL, pget, tsS, bytesAV, renB, ← hW], by simp [entM, pinv, mget, mset, renL, AV.ren, pget, renL_append, -List.map_map, tsS, bytesAV, renB, ← hW], rfl, rfl⟩) ?_
        unfold tsS
        simp only [List.nil_append, List.map_cons, List.map_nil]
        refine bwp_seq fun K hK => bwp_region rfl ?_
        simp -implicitDefEqProofs only [go_sem, ↓reduceIte, Nat.reduceEqDiff, Nat.reduceAdd, Nat.reduceLeDiff, Nat.reduceMul, Nat.reduceSub, Int.reduceLE, Int.reduceLT, Int.reduceEq, Int.reduceToNat, Int.reducePow, Int.reduceNeg]
        refine callK_gen [(0, 1), (1, 2)] [.ptr 0 0] (bldM W) (nb := 3) (string_built hW0 (by omega)) (by simp [okRen]) (by simp [renL, AV.ren, pget]) (by simp [inL, inB, pget]) ?_ rfl ?_
        · simp [bldM, handed, pget, mget, renL, AV.ren, inL, inB, renB, bytesAV]
          exact inL_bytes _ W
        rintro r0 m' ⟨rfl, rfl⟩
        simp -implicitDefEqProofs only [go_sem, ↓reduceIte, Nat.reduceEqDiff, Nat.reduceAdd, Nat.reduceLeDiff, Nat.reduceMul, Nat.reduceSub, Int.reduceLE, Int.reduceLT, Int.reduceEq, Int.reduceToNat, Int.reducePow, Int.reduceNeg, AV.ren]
        refine hK _ ?_; clear hK
        refine bwp_ret ?_
        simp only [go_sem]
        refine aend_ret _ rfl rfl ⟨?_, rfl⟩
        simp [fget, ht]
      have hcp := cond_pure (kind := t.kind) hA hf.rows
      refine bwp_seq fun K hK => bwp_region rfl ?_
      simp -implicitDefEqProofs only [go_sem, ↓reduceIte, Nat.reduceEqDiff, Nat.reduceAdd, Nat.reduceLeDiff, Nat.reduceMul, Nat.reduceSub, Int.reduceLE, Int.reduceLT, Int.reduceEq, Int.reduceToNat, Int.reducePow, Int.reduceNeg]
      refine callK_pure hcp rfl rfl ?_
      simp -implicitDefEqProofs only [go_sem, ↓reduceIte, Nat.reduceEqDiff, Nat.reduceAdd, Nat.reduceLeDiff, Nat.reduceMul, Nat.reduceSub, Int.reduceLE, Int.reduceLT, Int.reduceEq, Int.reduceToNat, Int.reducePow, Int.reduceNeg]
      refine hK _ ?_; clear hK
      by_cases hc : condT t.kind t.rows = []
      · refine bwp_seq fun K hK => bwp_region rfl ?_
        simp -implicitDefEqProofs only [go_sem, ↓reduceIte, Nat.reduceEqDiff, Nat.reduceAdd, Nat.reduceLeDiff, Nat.reduceMul, Nat.reduceSub, Int.reduceLE, Int.reduceLT, Int.reduceEq, Int.reduceToNat, Int.reducePow, Int.reduceNeg, hc]
        refine hK _ ?_; clear hK
        refine bwp_cond false (by simp [ev, fget, hc]) (fun h => nomatch h) (fun _ => ?_)
        refine bwp_skip ?_
        exact fin4 _ (Leads.ent [(0, 0), (1, 1), (2, 2)] ⟨by simp [entT, fget, AV.ren, renL, pget, tsS, bytesAV, renB, condL, hc], by simp [entM, pinv, mget, mset, mdel, renL, AV.ren, pget, renL_append, -List.map_map, tsS, bytesAV, renB, condL, hc], rfl, rfl⟩)
      · refine bwp_seq fun K hK => bwp_region rfl ?_
        simp -implicitDefEqProofs only [go_sem, ↓reduceIte, Nat.reduceEqDiff, Nat.reduceAdd, Nat.reduceLeDiff, Nat.reduceMul, Nat.reduceSub, Int.reduceLE, Int.reduceLT, Int.reduceEq, Int.reduceToNat, Int.reducePow, Int.reduceNeg, hc]
        refine hK _ ?_; clear hK
        refine bwp_cond true (by simp [ev, fget, hc]) (fun _ => ?_) (fun h => nomatch h)
        refine bwp_region rfl ?_
        simp -implicitDefEqProofs only [go_sem, ↓reduceIte, Nat.reduceEqDiff, Nat.reduceAdd, Nat.reduceLeDiff, Nat.reduceMul, Nat.reduceSub, Int.reduceLE, Int.reduceLT, Int.reduceEq, Int.reduceToNat, Int.reducePow, Int.reduceNeg]
        refine ⟨rfl, ?_⟩
        refine line_used_callK (s := Y) (i := 1) (j := 2) (by omega) rfl rfl (by decide) ?_
        simp -implicitDefEqProofs only [go_sem, ↓reduceIte, Nat.reduceEqDiff, Nat.reduceAdd, Nat.reduceLeDiff, Nat.reduceMul, Nat.reduceSub, Int.reduceLE, Int.reduceLT, Int.reduceEq, Int.reduceToNat, Int.reducePow, Int.reduceNeg]
        exact fin4 _ (Leads.ent [(0, 0), (1, 1), (5, 2)] ⟨by simp [entT, fget, AV.ren, renL, pget, tsS, bytesAV, renB, condL, hc], by simp [entM, pinv, mget, mset, mdel, renL, AV.ren, pget, renL_append, -List.map_map, tsS, bytesAV, renB, condL, hc], rfl, rfl⟩)
    by_cases hi : t.inits = []
    · have hl : t.inits.length = 0 := by simp [hi]
      unfold tsS
      simp only [List.nil_append, List.map_cons, List.map_nil]
      refine bwp_seq fun K hK => bwp_region rfl ?_
      simp -implicitDefEqProofs only [go_sem, ↓reduceIte, Nat.reduceEqDiff, Nat.reduceAdd, Nat.reduceLeDiff, Nat.reduceMul, Nat.reduceSub, Int.reduceLE, Int.reduceLT, Int.reduceEq, Int.reduceToNat, Int.reducePow, Int.reduceNeg, hI.len, hl]
      refine hK _ ?_; clear hK
      refine bwp_cond false (by simp [ev, fget, hl]) (fun h => nomatch h) (fun _ => ?_)
      refine bwp_skip ?_
      exact fin2 _ (Leads.ent [(0, 0), (1, 1), (2, 2)] ⟨by simp [entT, fget, AV.ren, renL, pget, tsS, bytesAV, renB, initsL, hi], by simp [entM, pinv, mget, mset, mdel, renL, AV.ren, pget, renL_append, -List.map_map, tsS, bytesAV, renB, initsL, hi], rfl, rfl⟩)
    · have hl : (0 : Int) < t.inits.length := by
        have := List.length_pos_iff.2 hi
        omega
      unfold tsS
      simp only [List.nil_append, List.map_cons, List.map_nil]
      refine bwp_seq fun K hK => bwp_region rfl ?_
      simp -implicitDefEqProofs only [go_sem, ↓reduceIte, Nat.reduceEqDiff, Nat.reduceAdd, Nat.reduceLeDiff, Nat.reduceMul, Nat.reduceSub, Int.reduceLE, Int.reduceLT, Int.reduceEq, Int.reduceToNat, Int.reducePow, Int.reduceNeg, hI.len, hl]
      refine hK _ ?_; clear hK
      refine bwp_cond true (by simp [ev, fget, hl]) (fun _ => ?_) (fun h => nomatch h)
      refine bwp_seq fun K hK => bwp_region rfl ?_
      simp -implicitDefEqProofs only [go_sem, ↓reduceIte, Nat.reduceEqDiff, Nat.reduceAdd, Nat.reduceLeDiff, Nat.reduceMul, Nat.reduceSub, Int.reduceLE, Int.reduceLT, Int.reduceEq, Int.reduceToNat, Int.reducePow, Int.reduceNeg]
      refine ⟨rfl, ?_⟩
      refine line_used_callK (s := headL t) (i := 1) (j := 2) (by simp only [List.length_cons, List.length_nil]; omega) rfl rfl (by decide) ?_
      simp -implicitDefEqProofs only [go_sem, ↓reduceIte, Nat.reduceEqDiff, Nat.reduceAdd, Nat.reduceLeDiff, Nat.reduceMul, Nat.reduceSub, Int.reduceLE, Int.reduceLT, Int.reduceEq, Int.reduceToNat, Int.reducePow, Int.reduceNeg]
      refine hK _ ?_; clear hK
      refine bwp_seq fun K3 hK3 => ?_
      refine bwp_seq fun K hK => bwp_region rfl ?_
      simp -implicitDefEqProofs only [go_sem, ↓reduceIte, Nat.reduceEqDiff, Nat.reduceAdd, Nat.reduceLeDiff, Nat.reduceMul, Nat.reduceSub, Int.reduceLE, Int.reduceLT, Int.reduceEq, Int.reduceToNat, Int.reducePow, Int.reduceNeg, hI.len]
      refine hK _ ?_; clear hK
      refine bwp_block ?_
      refine bwp_leads (S' := tsS [.str t.name, I, T, .int .i64 t.kind, A] (headL t ++ ([105, 110, 105, 116, 32, 123] ++ [10])) [(31, .d (.int .i64 (0 : Nat))), (29, .d I), (30, .d (.int .i64 t.inits.length))]) (Leads.ent [(0, 0), (1, 1), (5, 2)] ⟨by simp [entT, fget, AV.ren, renL, pget, tsS, bytesAV, renB], by simp [entM, pinv, mget, mset, renL, AV.ren, pget, renL_append, -List.map_map, tsS, bytesAV, renB], rfl, rfl⟩) ?_
      refine ts_inits hI hf.values hf.inits (by simp only [List.length_append, List.length_cons, List.length_nil]; omega) ?_
      generalize hY : headL t ++ ([105, 110, 105, 116, 32, 123] ++ [10]) ++ t.inits.flatMap initL = Y
      have hYl : Y.length ≤ 10000 := by rw [← hY]; simp only [List.length_append, List.length_cons, List.length_nil]; omega
      unfold tsS
      simp only [List.cons_append, List.nil_append, List.map_cons, List.map_nil]
      simp -implicitDefEqProofs only [go_sem, ↓reduceIte, Nat.reduceEqDiff, Nat.reduceAdd, Nat.reduceLeDiff, Nat.reduceMul, Nat.reduceSub, Int.reduceLE, Int.reduceLT, Int.reduceEq, Int.reduceToNat, Int.reducePow, Int.reduceNeg]
      refine hK3 _ ?_; clear hK3
      refine bwp_region rfl ?_
      simp -implicitDefEqProofs only [go_sem, ↓reduceIte, Nat.reduceEqDiff, Nat.reduceAdd, Nat.reduceLeDiff, Nat.reduceMul, Nat.reduceSub, Int.reduceLE, Int.reduceLT, Int.reduceEq, Int.reduceToNat, Int.reducePow, Int.reduceNeg]
      refine ⟨rfl, ?_⟩
      refine line_used_callK (s := Y) (i := 1) (j := 2) (by simp only [List.length_cons, List.length_nil]; omega) rfl rfl (by decide) ?_
      simp -implicitDefEqProofs only [go_sem, ↓reduceIte, Nat.reduceEqDiff, Nat.reduceAdd, Nat.reduceLeDiff, Nat.reduceMul, Nat.reduceSub, Int.reduceLE, Int.reduceLT, Int.reduceEq, Int.reduceToNat, Int.reducePow, Int.reduceNeg]
      have he : headL t ++ initsL t.inits = Y ++ ([125] ++ [10]) := by rw [← hY]; simp [initsL, hi]
      rw [he] at fin2
      exact fin2 _ (Leads.ent [(0, 0), (1, 1), (5, 2)] ⟨by simp [entT, fget, AV.ren, renL, pget, tsS, bytesAV, renB], by simp [entM, pinv, mget, mset, mdel, renL, AV.ren, pget, renL_append, -List.map_map, tsS, bytesAV, renB], rfl, rfl⟩)

end Go.Proofs.YtgfkgngpganllaaDoor
