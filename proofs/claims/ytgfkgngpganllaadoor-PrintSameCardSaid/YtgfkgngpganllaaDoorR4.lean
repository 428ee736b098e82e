/- Which tests may be, by the document's answer, told without a heap. -/
import Derived.Test.YtgfkgngpganllaaDoorR3
namespace Go.Proofs.YtgfkgngpganllaaDoor
open Go Go.Jq
set_option maxRecDepth 100000
set_option linter.unusedSimpArgs false

theorem refInits {l : List Init} {nm : List UInt8} {I T A : DV} {kd : Int} (hI : IsSl Init.cells l I) {Q : Exit → St → Prop}
    (hbad : badInitB l = true → ∀ S, fget S.t 2 = .d (.bool false) → Q .ret S) (hgood : badInitB l = false → Q (.exit 0) (rcS [.str nm, I, T, .int .i64 kd, A] [])) :
    BWP Tryd.prog (mbound []) 58 (.loop ac18L0) (rcS [.str nm, I, T, .int .i64 kd, A] [(3, .d (.int .i64 (0 : Nat)))]) Q := by
  have hbig := hI.1
  have hlen' := hI.len
  refine bwp_countI (fun k => rcS [.str nm, I, T, .int .i64 kd, A] [(3, .d (.int .i64 (k : Nat)))]) (fun k => ∀ a ∈ l.take k, isLocB a.loc = true) l.length (by simp) ?_
  intro k hk hp
  unfold ac18L0 rcS
  refine bwp_seq fun K1 hK1 => ?_
  by_cases hlt : k < l.length
  · have hlt' : (k : Int) < l.length := by omega
    obtain ⟨cs, rest, hIe, hdrop, hcs⟩ := hI.at init_len (by omega) k hlt
    have hw : IntKind.i64.wrap ((k : Int) + 1) = ((k + 1 : Nat) : Int) := by rw [wrap_i64 (by omega) (by omega)]; rfl
    have hmem : l[k] ∈ l := List.getElem_mem hlt
    have htk := take_snoc l k hlt
    generalize l[k] = a at *
    refine bwp_seq fun K hK => bwp_region rfl ?_
    simp -implicitDefEqProofs only [go_sem, ↓reduceIte, Nat.reduceEqDiff, Nat.reduceAdd, Nat.reduceLeDiff, Nat.reduceMul, Nat.reduceSub, Int.reduceLE, Int.reduceLT, Int.reduceEq, Int.reduceToNat, Int.reducePow, Int.reduceNeg, hlen', hlt']
    refine hK _ ?_; clear hK
    refine bwp_cond true (by simp [ev, fget]) (fun _ => ?_) (fun h => nomatch h)
    refine bwp_skip ?_
    refine hK1 _ ?_; clear hK1
    refine bwp_seq fun K1 hK1 => ?_
    refine bwp_block ?_
    refine bwp_seq fun K hK => bwp_region rfl ?_
    simp -implicitDefEqProofs only [go_sem, ↓reduceIte, Nat.reduceEqDiff, Nat.reduceAdd, Nat.reduceLeDiff, Nat.reduceMul, Nat.reduceSub, Int.reduceLE, Int.reduceLT, Int.reduceEq, Int.reduceToNat, Int.reducePow, Int.reduceNeg, hIe, hlt', Int.natCast_nonneg, Int.toNat_natCast, hcs, hdrop, Init.cells]
    refine callK_pure (refNamed_pure a.loc) rfl rfl ?_
    simp -implicitDefEqProofs only [go_sem, ↓reduceIte, Nat.reduceEqDiff, Nat.reduceAdd, Nat.reduceLeDiff, Nat.reduceMul, Nat.reduceSub, Int.reduceLE, Int.reduceLT, Int.reduceEq, Int.reduceToNat, Int.reducePow, Int.reduceNeg]
    refine hK _ ?_; clear hK
    cases hok : isLocB a.loc
    · refine bwp_cond true (by simp [ev, fget]) (fun _ => ?_) (fun h => nomatch h)
      refine bwp_seq fun K hK => bwp_region rfl ?_
      simp -implicitDefEqProofs only [go_sem, ↓reduceIte, Nat.reduceEqDiff, Nat.reduceAdd, Nat.reduceLeDiff, Nat.reduceMul, Nat.reduceSub, Int.reduceLE, Int.reduceLT, Int.reduceEq, Int.reduceToNat, Int.reducePow, Int.reduceNeg]
      refine hK _ ?_; clear hK
      refine bwp_ret ?_
      simp -implicitDefEqProofs only [go_sem, ↓reduceIte, Nat.reduceEqDiff, Nat.reduceAdd, Nat.reduceLeDiff, Nat.reduceMul, Nat.reduceSub, Int.reduceLE, Int.reduceLT, Int.reduceEq, Int.reduceToNat, Int.reducePow, Int.reduceNeg]
      exact hbad (List.any_eq_true.2 ⟨a, hmem, by simp [hok]⟩) _ rfl
    · refine bwp_cond false (by simp [ev, fget]) (fun h => nomatch h) (fun _ => ?_)
      refine bwp_skip ?_
      simp -implicitDefEqProofs only [go_sem, ↓reduceIte, Nat.reduceEqDiff, Nat.reduceAdd, Nat.reduceLeDiff, Nat.reduceMul, Nat.reduceSub, Int.reduceLE, Int.reduceLT, Int.reduceEq, Int.reduceToNat, Int.reducePow, Int.reduceNeg]
      refine hK1 _ ?_; clear hK1
      refine bwp_region rfl ?_
      simp -implicitDefEqProofs only [go_sem, ↓reduceIte, Nat.reduceEqDiff, Nat.reduceAdd, Nat.reduceLeDiff, Nat.reduceMul, Nat.reduceSub, Int.reduceLE, Int.reduceLT, Int.reduceEq, Int.reduceToNat, Int.reducePow, Int.reduceNeg, hw]
      refine ⟨hlt, ?_, Leads.ent [] ⟨by simp [entT, fget, AV.ren, pget, hIe], by simp [entM], rfl, rfl⟩⟩
      intro b hb
      rw [htk, List.mem_append] at hb
      rcases hb with hb | hb
      · exact hp b hb
      · simp only [List.mem_singleton] at hb; rw [hb]; exact hok
  · have hlt' : ¬ (k : Int) < l.length := by omega
    have hin : k = l.length := by omega
    subst hin
    rw [List.take_of_length_le (Nat.le_refl _)] at hp
    refine bwp_seq fun K hK => bwp_region rfl ?_
    simp -implicitDefEqProofs only [go_sem, ↓reduceIte, Nat.reduceEqDiff, Nat.reduceAdd, Nat.reduceLeDiff, Nat.reduceMul, Nat.reduceSub, Int.reduceLE, Int.reduceLT, Int.reduceEq, Int.reduceToNat, Int.reducePow, Int.reduceNeg, hlen', hlt']
    refine hK _ ?_; clear hK
    refine bwp_cond false (by simp [ev, fget]) (fun h => nomatch h) (fun _ => ?_)
    refine bwp_leads (S' := rcS [.str nm, I, T, .int .i64 kd, A] []) (Leads.ent [] ⟨by simp [entT, fget, AV.ren, renL, pget, rcS], by simp [entM, pinv, mget, mset, renL, AV.ren, pget, renL_append, -List.map_map, rcS], rfl, rfl⟩) ?_
    refine bwp_exit (hgood ?_)
    unfold badInitB
    rw [List.any_eq_false]
    intro a ha
    rw [hp a ha]; decide

theorem refThread {rows : List (List Ins)} {nm : List UInt8} {I T A : DV} {kd : Int} (hT : IsSl2 Ins.cells rows T) {j : Nat} (hj : j < rows.length) {Q : Exit → St → Prop}
    (hbad : badThreadB rows[j] = true → ∀ S, fget S.t 2 = .d (.bool false) → Q .ret S) (hgood : badThreadB rows[j] = false → Q (.exit 4) (rcS [.str nm, I, T, .int .i64 kd, A] [(4, .d (.int .i64 j))])) :
    BWP Tryd.prog (mbound []) 58 (.loop ac18L1) (rcS [.str nm, I, T, .int .i64 kd, A] [(5, .d (.int .i64 (0 : Nat))), (4, .d (.int .i64 j))]) Q := by
  obtain ⟨cs2, d, rest2, hTe, hd, hjc, hD⟩ := hT.at j hj
  have hjl : (j : Int) < rows.length := by omega
  generalize rows[j] = l at hD hbad hgood
  have hbig := hD.1
  have hlen' := hD.len
  refine bwp_countI (fun k => rcS [.str nm, I, T, .int .i64 kd, A] [(5, .d (.int .i64 (k : Nat))), (4, .d (.int .i64 j))]) (fun k => ∀ a ∈ l.take k, okInsB a = true) l.length (by simp) ?_
  intro k hk hp
  unfold ac18L1 rcS
  refine bwp_seq fun K1 hK1 => ?_
  by_cases hlt : k < l.length
  · have hlt' : (k : Int) < l.length := by omega
    obtain ⟨cs, rest, hIe, hdrop, hcs⟩ := hD.at ins_len (by omega) k hlt
    have hw : IntKind.i64.wrap ((k : Int) + 1) = ((k + 1 : Nat) : Int) := by rw [wrap_i64 (by omega) (by omega)]; rfl
    have hl9 : ∀ (n : Nat), (9 ≤ (n + 1 + 1 + 1 + 1 + 1 + 1 + 1 + 1 + 1)) = True := fun n => by simp
    have hmem : l[k] ∈ l := List.getElem_mem hlt
    have htk := take_snoc l k hlt
    generalize l[k] = a at *
    refine bwp_seq fun K hK => bwp_region rfl ?_
    simp -implicitDefEqProofs only [go_sem, ↓reduceIte, Nat.reduceEqDiff, Nat.reduceAdd, Nat.reduceLeDiff, Nat.reduceMul, Nat.reduceSub, Int.reduceLE, Int.reduceLT, Int.reduceEq, Int.reduceToNat, Int.reducePow, Int.reduceNeg, hTe, hjl, Int.natCast_nonneg, Int.toNat_natCast, Nat.mul_one, hjc, hd, hlen', hlt']
    refine hK _ ?_; clear hK
    refine bwp_cond true (by simp [ev, fget]) (fun _ => ?_) (fun h => nomatch h)
    refine bwp_skip ?_
    refine hK1 _ ?_; clear hK1
    refine bwp_seq fun K1 hK1 => ?_
    refine bwp_block ?_
    refine bwp_seq fun K hK => bwp_region rfl ?_
    simp -implicitDefEqProofs only [go_sem, ↓reduceIte, Nat.reduceEqDiff, Nat.reduceAdd, Nat.reduceLeDiff, Nat.reduceMul, Nat.reduceSub, Int.reduceLE, Int.reduceLT, Int.reduceEq, Int.reduceToNat, Int.reducePow, Int.reduceNeg, hTe, hjl, Nat.mul_one, hjc, hd, hIe, hlt', Int.natCast_nonneg, Int.toNat_natCast, hcs, hdrop, Ins.cells, hl9]
    refine callK_pure (refIns_pure a) rfl rfl ?_
    rw [refIns_eq]
    simp -implicitDefEqProofs only [go_sem, ↓reduceIte, Nat.reduceEqDiff, Nat.reduceAdd, Nat.reduceLeDiff, Nat.reduceMul, Nat.reduceSub, Int.reduceLE, Int.reduceLT, Int.reduceEq, Int.reduceToNat, Int.reducePow, Int.reduceNeg]
    refine hK _ ?_; clear hK
    cases hok : okInsB a
    · refine bwp_cond true (by simp [ev, fget]) (fun _ => ?_) (fun h => nomatch h)
      refine bwp_seq fun K hK => bwp_region rfl ?_
      simp -implicitDefEqProofs only [go_sem, ↓reduceIte, Nat.reduceEqDiff, Nat.reduceAdd, Nat.reduceLeDiff, Nat.reduceMul, Nat.reduceSub, Int.reduceLE, Int.reduceLT, Int.reduceEq, Int.reduceToNat, Int.reducePow, Int.reduceNeg]
      refine hK _ ?_; clear hK
      refine bwp_ret ?_
      simp -implicitDefEqProofs only [go_sem, ↓reduceIte, Nat.reduceEqDiff, Nat.reduceAdd, Nat.reduceLeDiff, Nat.reduceMul, Nat.reduceSub, Int.reduceLE, Int.reduceLT, Int.reduceEq, Int.reduceToNat, Int.reducePow, Int.reduceNeg]
      exact hbad (List.any_eq_true.2 ⟨a, hmem, by simp [hok]⟩) _ rfl
    · refine bwp_cond false (by simp [ev, fget]) (fun h => nomatch h) (fun _ => ?_)
      refine bwp_skip ?_
      simp -implicitDefEqProofs only [go_sem, ↓reduceIte, Nat.reduceEqDiff, Nat.reduceAdd, Nat.reduceLeDiff, Nat.reduceMul, Nat.reduceSub, Int.reduceLE, Int.reduceLT, Int.reduceEq, Int.reduceToNat, Int.reducePow, Int.reduceNeg]
      refine hK1 _ ?_; clear hK1
      refine bwp_region rfl ?_
      simp -implicitDefEqProofs only [go_sem, ↓reduceIte, Nat.reduceEqDiff, Nat.reduceAdd, Nat.reduceLeDiff, Nat.reduceMul, Nat.reduceSub, Int.reduceLE, Int.reduceLT, Int.reduceEq, Int.reduceToNat, Int.reducePow, Int.reduceNeg, hw]
      refine ⟨hlt, ?_, Leads.ent [] ⟨by simp [entT, fget, AV.ren, pget, hTe], by simp [entM], rfl, rfl⟩⟩
      intro b hb
      rw [htk, List.mem_append] at hb
      rcases hb with hb | hb
      · exact hp b hb
      · simp only [List.mem_singleton] at hb; rw [hb]; exact hok
  · have hlt' : ¬ (k : Int) < l.length := by omega
    have hin : k = l.length := by omega
    subst hin
    rw [List.take_of_length_le (Nat.le_refl _)] at hp
    refine bwp_seq fun K hK => bwp_region rfl ?_
    simp -implicitDefEqProofs only [go_sem, ↓reduceIte, Nat.reduceEqDiff, Nat.reduceAdd, Nat.reduceLeDiff, Nat.reduceMul, Nat.reduceSub, Int.reduceLE, Int.reduceLT, Int.reduceEq, Int.reduceToNat, Int.reducePow, Int.reduceNeg, hTe, hjl, Int.natCast_nonneg, Int.toNat_natCast, Nat.mul_one, hjc, hd, hlen', hlt']
    refine hK _ ?_; clear hK
    refine bwp_cond false (by simp [ev, fget]) (fun h => nomatch h) (fun _ => ?_)
    refine bwp_leads (S' := rcS [.str nm, I, T, .int .i64 kd, A] [(4, .d (.int .i64 j))]) (Leads.ent [] ⟨by simp [entT, fget, AV.ren, renL, pget, rcS, hTe], by simp [entM, pinv, mget, mset, renL, AV.ren, pget, renL_append, -List.map_map, rcS, hTe], rfl, rfl⟩) ?_
    refine bwp_exit (hgood ?_)
    unfold badThreadB
    rw [List.any_eq_false]
    intro a ha
    rw [hp a ha]; decide

theorem refThreads {rows : List (List Ins)} {nm : List UInt8} {I T A : DV} {kd : Int} (hT : IsSl2 Ins.cells rows T) {Q : Exit → St → Prop}
    (hbad : rows.any badThreadB = true → ∀ S, fget S.t 2 = .d (.bool false) → Q .ret S) (hgood : rows.any badThreadB = false → ∀ S, Q (.exit 2) S) :
    BWP Tryd.prog (mbound []) 58 (.loop ac18L2) (rcS [.str nm, I, T, .int .i64 kd, A] [(4, .d (.int .i64 (0 : Nat)))]) Q := by
  have hbig := hT.big
  have hlen' := hT.len
  refine bwp_countI (fun j => rcS [.str nm, I, T, .int .i64 kd, A] [(4, .d (.int .i64 (j : Nat)))]) (fun j => ∀ l ∈ rows.take j, badThreadB l = false) rows.length (by simp) ?_
  intro j hj hp
  unfold ac18L2
  refine bwp_seq fun K1 hK1 => ?_
  by_cases hlt : j < rows.length
  · have hlt' : (j : Int) < rows.length := by omega
    have hw : IntKind.i64.wrap ((j : Int) + 1) = ((j + 1 : Nat) : Int) := by rw [wrap_i64 (by omega) (by omega)]; rfl
    have hmem : rows[j] ∈ rows := List.getElem_mem hlt
    have htk := take_snoc rows j hlt
    have hrow := @refThread rows nm I T A kd hT j hlt
    unfold rcS
    refine bwp_seq fun K hK => bwp_region rfl ?_
    simp -implicitDefEqProofs only [go_sem, ↓reduceIte, Nat.reduceEqDiff, Nat.reduceAdd, Nat.reduceLeDiff, Nat.reduceMul, Nat.reduceSub, Int.reduceLE, Int.reduceLT, Int.reduceEq, Int.reduceToNat, Int.reducePow, Int.reduceNeg, hlen', hlt']
    refine hK _ ?_; clear hK
    refine bwp_cond true (by simp [ev, fget]) (fun _ => ?_) (fun h => nomatch h)
    refine bwp_skip ?_
    refine hK1 _ ?_; clear hK1
    refine bwp_seq fun K1 hK1 => ?_
    refine bwp_block ?_
    refine bwp_seq fun K hK => bwp_region rfl ?_
    simp -implicitDefEqProofs only [go_sem, ↓reduceIte, Nat.reduceEqDiff, Nat.reduceAdd, Nat.reduceLeDiff, Nat.reduceMul, Nat.reduceSub, Int.reduceLE, Int.reduceLT, Int.reduceEq, Int.reduceToNat, Int.reducePow, Int.reduceNeg]
    refine hK _ ?_; clear hK
    refine bwp_block ?_
    refine bwp_leads (S' := rcS [.str nm, I, T, .int .i64 kd, A] [(5, .d (.int .i64 (0 : Nat))), (4, .d (.int .i64 j))]) (Leads.ent [] ⟨by simp [entT, fget, AV.ren, renL, pget, rcS], by simp [entM, pinv, mget, mset, renL, AV.ren, pget, renL_append, -List.map_map, rcS], rfl, rfl⟩) ?_
    refine hrow ?_ ?_
    · intro hb S hS
      simp -implicitDefEqProofs only [go_sem, ↓reduceIte, Nat.reduceEqDiff, Nat.reduceAdd, Nat.reduceLeDiff, Nat.reduceMul, Nat.reduceSub, Int.reduceLE, Int.reduceLT, Int.reduceEq, Int.reduceToNat, Int.reducePow, Int.reduceNeg]
      exact hbad (List.any_eq_true.2 ⟨_, hmem, hb⟩) _ hS
    · intro hb
      unfold rcS
      simp -implicitDefEqProofs only [go_sem, ↓reduceIte, Nat.reduceEqDiff, Nat.reduceAdd, Nat.reduceLeDiff, Nat.reduceMul, Nat.reduceSub, Int.reduceLE, Int.reduceLT, Int.reduceEq, Int.reduceToNat, Int.reducePow, Int.reduceNeg]
      refine hK1 _ ?_; clear hK1
      refine bwp_region rfl ?_
      simp -implicitDefEqProofs only [go_sem, ↓reduceIte, Nat.reduceEqDiff, Nat.reduceAdd, Nat.reduceLeDiff, Nat.reduceMul, Nat.reduceSub, Int.reduceLE, Int.reduceLT, Int.reduceEq, Int.reduceToNat, Int.reducePow, Int.reduceNeg, hw]
      refine ⟨hlt, ?_, Leads.ent [] ⟨by simp [rcS, entT, fget, AV.ren, pget], by simp [rcS, entM], rfl, rfl⟩⟩
      intro l hl
      rw [htk, List.mem_append] at hl
      rcases hl with hl | hl
      · exact hp l hl
      · simp only [List.mem_singleton] at hl
        subst hl
        exact hb
  · have hlt' : ¬ (j : Int) < rows.length := by omega
    have hin : j = rows.length := by omega
    subst hin
    rw [List.take_of_length_le (Nat.le_refl _)] at hp
    unfold rcS
    refine bwp_seq fun K hK => bwp_region rfl ?_
    simp -implicitDefEqProofs only [go_sem, ↓reduceIte, Nat.reduceEqDiff, Nat.reduceAdd, Nat.reduceLeDiff, Nat.reduceMul, Nat.reduceSub, Int.reduceLE, Int.reduceLT, Int.reduceEq, Int.reduceToNat, Int.reducePow, Int.reduceNeg, hlen', hlt']
    refine hK _ ?_; clear hK
    refine bwp_cond false (by simp [ev, fget]) (fun h => nomatch h) (fun _ => ?_)
    refine bwp_exit (hgood ?_ _)
    rw [List.any_eq_false]
    intro l hl
    rw [hp l hl]; decide

theorem refTest_pure {t : Test} {cs : List DV} (hT : IsTest t cs) (hn : t.name.length ≤ 9223372036854775807) : Pure Tryd.prog 18 [.agg (cs.map .d)] (.d (.bool (okB t))) := by
  obtain ⟨I, T, A, rfl, hI, hTh, hA⟩ := hT
  refine acalls_of Tryd.func18 ac18_ok Tryd.ntmps18 Tryd.results18 rfl ?_
  unfold ac18
  refine bwp_seq fun K hK => bwp_region rfl ?_
  simp -implicitDefEqProofs only [go_sem, ↓reduceIte, Nat.reduceEqDiff, Nat.reduceAdd, Nat.reduceLeDiff, Nat.reduceMul, Nat.reduceSub, Int.reduceLE, Int.reduceLT, Int.reduceEq, Int.reduceToNat, Int.reducePow, Int.reduceNeg]
  refine hK _ ?_; clear hK
  refine bwp_leads (S' := rcS [.str t.name, I, T, .int .i64 t.kind, A] []) (Leads.frz [] [(0, [.str t.name, I, T, .int .i64 t.kind, A])] ⟨?_, ?_, rfl, rfl, ?_⟩) ?_
  · simp [rcS, frzT, fget, AV.cv, cvL, zget, pget]
  · simp [rcS, frzM, pinv, zget, mget, cvL, AV.cv]
  · simp [zokFrom, mget, cvL, AV.cv]
  unfold rcS
  refine bwp_seq fun K1 hK1 => ?_
  refine bwp_seq fun K hK => bwp_region rfl ?_
  have rest : ∀ (t' : Fr) (b : Bool), fget t' 15 = .d (.bool b) → fget t' 1 = .dptr [.str t.name, I, T, .int .i64 t.kind, A] → fget t' 2 = .d (.bool false) → b = !(isWordB t.name && okCondB t.kind t.rows) → K ⟨t', [], 0⟩ := by
    intro t' b h15 h1 h2 hb
    refine hK _ ?_; clear hK
    cases b
    · have hwc : isWordB t.name = true ∧ okCondB t.kind t.rows = true := by
        have := hb.symm
        simpa using this
      refine bwp_cond false (by simp [ev, fget, h15]) (fun h => nomatch h) (fun _ => ?_)
      refine bwp_skip ?_
      simp -implicitDefEqProofs only [go_sem, ↓reduceIte, Nat.reduceEqDiff, Nat.reduceAdd, Nat.reduceLeDiff, Nat.reduceMul, Nat.reduceSub, Int.reduceLE, Int.reduceLT, Int.reduceEq, Int.reduceToNat, Int.reducePow, Int.reduceNeg]
      refine hK1 _ ?_; clear hK1
      refine bwp_seq fun K2 hK2 => ?_
      refine bwp_seq fun K3 hK3 => ?_
      refine bwp_region rfl ?_
      simp -implicitDefEqProofs only [go_sem, ↓reduceIte, Nat.reduceEqDiff, Nat.reduceAdd, Nat.reduceLeDiff, Nat.reduceMul, Nat.reduceSub, Int.reduceLE, Int.reduceLT, Int.reduceEq, Int.reduceToNat, Int.reducePow, Int.reduceNeg]
      refine hK3 _ ?_; clear hK3
      refine bwp_block ?_
      refine bwp_leads (S' := rcS [.str t.name, I, T, .int .i64 t.kind, A] [(3, .d (.int .i64 (0 : Nat)))]) (Leads.ent [] ⟨by simp [entT, fget, AV.ren, renL, pget, rcS, h1, h2], by simp [entM, pinv, mget, mset, renL, AV.ren, pget, renL_append, -List.map_map, rcS, h1, h2], rfl, rfl⟩) ?_
      refine refInits hI ?_ ?_
      · intro hbad S hS
        simp -implicitDefEqProofs only [go_sem, ↓reduceIte, Nat.reduceEqDiff, Nat.reduceAdd, Nat.reduceLeDiff, Nat.reduceMul, Nat.reduceSub, Int.reduceLE, Int.reduceLT, Int.reduceEq, Int.reduceToNat, Int.reducePow, Int.reduceNeg]
        exact aend_ret (.d (.bool false)) (by simp [resA, resVs, resV, hS]) rfl ⟨by simp [okB, hbad], rfl⟩
      · intro hi
        simp -implicitDefEqProofs only [go_sem, ↓reduceIte, Nat.reduceEqDiff, Nat.reduceAdd, Nat.reduceLeDiff, Nat.reduceMul, Nat.reduceSub, Int.reduceLE, Int.reduceLT, Int.reduceEq, Int.reduceToNat, Int.reducePow, Int.reduceNeg]
        refine hK2 _ ?_; clear hK2
        unfold rcS
        refine bwp_seq fun K2 hK2 => ?_
        refine bwp_seq fun K3 hK3 => ?_
        refine bwp_region rfl ?_
        simp -implicitDefEqProofs only [go_sem, ↓reduceIte, Nat.reduceEqDiff, Nat.reduceAdd, Nat.reduceLeDiff, Nat.reduceMul, Nat.reduceSub, Int.reduceLE, Int.reduceLT, Int.reduceEq, Int.reduceToNat, Int.reducePow, Int.reduceNeg]
        refine hK3 _ ?_; clear hK3
        refine bwp_block ?_
        refine bwp_leads (S' := rcS [.str t.name, I, T, .int .i64 t.kind, A] [(4, .d (.int .i64 (0 : Nat)))]) (Leads.ent [] ⟨by simp [entT, fget, AV.ren, renL, pget, rcS], by simp [entM, pinv, mget, mset, renL, AV.ren, pget, renL_append, -List.map_map, rcS], rfl, rfl⟩) ?_
        refine refThreads hTh ?_ ?_
        · intro hbad S hS
          simp -implicitDefEqProofs only [go_sem, ↓reduceIte, Nat.reduceEqDiff, Nat.reduceAdd, Nat.reduceLeDiff, Nat.reduceMul, Nat.reduceSub, Int.reduceLE, Int.reduceLT, Int.reduceEq, Int.reduceToNat, Int.reducePow, Int.reduceNeg]
          exact aend_ret (.d (.bool false)) (by simp [resA, resVs, resV, hS]) rfl ⟨by simp [okB, hbad], rfl⟩
        · rintro hth ⟨t2, m2, n2⟩
          simp -implicitDefEqProofs only [go_sem, ↓reduceIte, Nat.reduceEqDiff, Nat.reduceAdd, Nat.reduceLeDiff, Nat.reduceMul, Nat.reduceSub, Int.reduceLE, Int.reduceLT, Int.reduceEq, Int.reduceToNat, Int.reducePow, Int.reduceNeg]
          refine hK2 _ ?_; clear hK2
          refine bwp_seq fun K hK => bwp_region (by simp [mbound]) ?_
          simp -implicitDefEqProofs only [go_sem, ↓reduceIte, Nat.reduceEqDiff, Nat.reduceAdd, Nat.reduceLeDiff, Nat.reduceMul, Nat.reduceSub, Int.reduceLE, Int.reduceLT, Int.reduceEq, Int.reduceToNat, Int.reducePow, Int.reduceNeg]
          refine hK _ ?_; clear hK
          refine bwp_ret ?_
          simp only [go_sem]
          refine aend_ret _ rfl rfl ⟨?_, rfl⟩
          simp [fget, okB, hwc.1, hwc.2, hi, hth]
    · refine bwp_cond true (by simp [ev, fget, h15]) (fun _ => ?_) (fun h => nomatch h)
      refine bwp_seq fun K hK => bwp_region rfl ?_
      simp -implicitDefEqProofs only [go_sem, ↓reduceIte, Nat.reduceEqDiff, Nat.reduceAdd, Nat.reduceLeDiff, Nat.reduceMul, Nat.reduceSub, Int.reduceLE, Int.reduceLT, Int.reduceEq, Int.reduceToNat, Int.reducePow, Int.reduceNeg]
      refine hK _ ?_; clear hK
      refine bwp_ret ?_
      simp only [go_sem]
      refine aend_ret _ rfl rfl ⟨?_, rfl⟩
      have : okB t = false := by
        have h := hb.symm
        simp only [Bool.not_eq_true', Bool.and_eq_false_iff] at h
        rcases h with h | h <;> simp [okB, h]
      simp [fget, this]
  clear hK
  simp -implicitDefEqProofs only [go_sem, ↓reduceIte, Nat.reduceEqDiff, Nat.reduceAdd, Nat.reduceLeDiff, Nat.reduceMul, Nat.reduceSub, Int.reduceLE, Int.reduceLT, Int.reduceEq, Int.reduceToNat, Int.reducePow, Int.reduceNeg]
  refine callK_pure (refWord_pure t.name hn) rfl rfl ?_
  simp -implicitDefEqProofs only [go_sem, ↓reduceIte, Nat.reduceEqDiff, Nat.reduceAdd, Nat.reduceLeDiff, Nat.reduceMul, Nat.reduceSub, Int.reduceLE, Int.reduceLT, Int.reduceEq, Int.reduceToNat, Int.reducePow, Int.reduceNeg]
  repeat' (first
    | (refine gateK_split (fun hb => ?_) (fun hb => ?_) <;> simp -implicitDefEqProofs only [go_sem, ↓reduceIte, Nat.reduceEqDiff, Nat.reduceAdd, Nat.reduceLeDiff, Nat.reduceMul, Nat.reduceSub, Int.reduceLE, Int.reduceLT, Int.reduceEq, Int.reduceToNat, Int.reducePow, Int.reduceNeg, hb])
    | (refine dGateK_split (fun hb => ?_) (fun hb => ?_) <;> simp -implicitDefEqProofs only [go_sem, ↓reduceIte, Nat.reduceEqDiff, Nat.reduceAdd, Nat.reduceLeDiff, Nat.reduceMul, Nat.reduceSub, Int.reduceLE, Int.reduceLT, Int.reduceEq, Int.reduceToNat, Int.reducePow, Int.reduceNeg, hb])
    | (refine callK_pure (refCond_pure hA t.kind) rfl rfl ?_; simp -implicitDefEqProofs only [go_sem, ↓reduceIte, Nat.reduceEqDiff, Nat.reduceAdd, Nat.reduceLeDiff, Nat.reduceMul, Nat.reduceSub, Int.reduceLE, Int.reduceLT, Int.reduceEq, Int.reduceToNat, Int.reducePow, Int.reduceNeg])
    | (refine dCallK_pure (refCond_pure hA t.kind) rfl rfl ?_; simp -implicitDefEqProofs only [go_sem, ↓reduceIte, Nat.reduceEqDiff, Nat.reduceAdd, Nat.reduceLeDiff, Nat.reduceMul, Nat.reduceSub, Int.reduceLE, Int.reduceLT, Int.reduceEq, Int.reduceToNat, Int.reducePow, Int.reduceNeg])
    | (rw [if_pos (by (try simp only [List.length_append, List.length_cons, List.length_nil]); omega)]; simp -implicitDefEqProofs only [go_sem, ↓reduceIte, Nat.reduceEqDiff, Nat.reduceAdd, Nat.reduceLeDiff, Nat.reduceMul, Nat.reduceSub, Int.reduceLE, Int.reduceLT, Int.reduceEq, Int.reduceToNat, Int.reducePow, Int.reduceNeg]))
  all_goals exact rest _ _ rfl rfl rfl (by clear rest hK1; simp_all)

end Go.Proofs.YtgfkgngpganllaaDoor
