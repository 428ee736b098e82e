/- Few: whether a test is small enough to be looked at. -/
import Derived.Test.YtgfkgngpganllaaDoorV3
namespace Go.Proofs.YtgfkgngpganllaaDoor
open Go Go.Jq
set_option maxRecDepth 100000
set_option linter.unusedSimpArgs false

def fewB (t : Test) : Bool :=
  decide (t.threads.length ≤ 6) && decide (t.inits.length ≤ 40) && decide (t.name.length ≤ 60) && decide (t.rows.length ≤ 12) && t.threads.all (fun l => decide (l.length ≤ 30)) && t.rows.all (fun l => decide (l.length ≤ 12))

def fwS (cs : List DV) (ex : Fr) : St := ⟨ex ++ [(1, .ptr 0 0)], [(0, cs.map .d)], 1⟩

set_option maxHeartbeats 2000000 in
theorem fw_threads {nm : List UInt8} {I T A : DV} {kd : Int} {ls : List (List Ins)} (hT : IsSl2 Ins.cells ls T) {Q : Exit → St → Prop}
    (hbad : ls.all (fun l => decide (l.length ≤ 30)) = false → ∀ S, fget S.t 2 = .d (.bool false) → Q .ret S) (hgood : ls.all (fun l => decide (l.length ≤ 30)) = true → Q (.exit 0) (fwS [.str nm, I, T, .int .i64 kd, A] [])) :
    BWP Tryd.prog (mbound []) 58 (.loop ac17L0) (fwS [.str nm, I, T, .int .i64 kd, A] [(3, .d (.int .i64 (0 : Nat)))]) Q := by
  have hb := hT.big
  refine bwp_countI (fun k => fwS [.str nm, I, T, .int .i64 kd, A] [(3, .d (.int .i64 (k : Nat)))]) (fun k => ∀ a ∈ ls.take k, a.length ≤ 30) ls.length (by simp) ?_
  intro k hk hp
  unfold ac17L0 fwS
  simp only [List.cons_append, List.nil_append, List.map_cons, List.map_nil]
  refine bwp_seq fun K1 hK1 => ?_
  by_cases hlt : k < ls.length
  · have hlt' : (k : Int) < ls.length := by omega
    obtain ⟨cs1, d, rest1, hTe, hd1, hjc, hD⟩ := hT.at k hlt
    have hw : IntKind.i64.wrap ((k : Int) + 1) = ((k + 1 : Nat) : Int) := by rw [wrap_i64 (by omega) (by omega)]; rfl
    have hmem : ls[k] ∈ ls := List.getElem_mem hlt
    have htk := take_snoc ls k hlt
    generalize ls[k] = a at *
    refine bwp_seq fun K hK => bwp_region rfl ?_
    simp -implicitDefEqProofs only [go_sem, ↓reduceIte, Nat.reduceEqDiff, Nat.reduceAdd, Nat.reduceLeDiff, Nat.reduceMul, Nat.reduceSub, Int.reduceLE, Int.reduceLT, Int.reduceEq, Int.reduceToNat, Int.reducePow, Int.reduceNeg, hT.len, hlt']
    refine hK _ ?_; clear hK
    refine bwp_cond true (by simp [ev, fget, hlt']) (fun _ => ?_) (fun h => nomatch h)
    refine bwp_skip ?_
    refine hK1 _ ?_; clear hK1
    refine bwp_seq fun K1 hK1 => ?_
    refine bwp_block ?_
    refine bwp_seq fun K hK => bwp_region rfl ?_
    simp -implicitDefEqProofs only [go_sem, ↓reduceIte, Nat.reduceEqDiff, Nat.reduceAdd, Nat.reduceLeDiff, Nat.reduceMul, Nat.reduceSub, Int.reduceLE, Int.reduceLT, Int.reduceEq, Int.reduceToNat, Int.reducePow, Int.reduceNeg, hTe, hlt', Int.natCast_nonneg, Int.toNat_natCast, hd1, hjc, hD.len]
    refine hK _ ?_; clear hK
    by_cases h30 : 30 < a.length
    · have h30' : (30 : Int) < a.length := by omega
      refine bwp_cond true (by simp [ev, fget, h30']) (fun _ => ?_) (fun h => nomatch h)
      refine bwp_seq fun K hK => bwp_region rfl ?_
      simp -implicitDefEqProofs only [go_sem, ↓reduceIte, Nat.reduceEqDiff, Nat.reduceAdd, Nat.reduceLeDiff, Nat.reduceMul, Nat.reduceSub, Int.reduceLE, Int.reduceLT, Int.reduceEq, Int.reduceToNat, Int.reducePow, Int.reduceNeg]
      refine hK _ ?_; clear hK
      refine bwp_ret ?_
      simp -implicitDefEqProofs only [go_sem, ↓reduceIte, Nat.reduceEqDiff, Nat.reduceAdd, Nat.reduceLeDiff, Nat.reduceMul, Nat.reduceSub, Int.reduceLE, Int.reduceLT, Int.reduceEq, Int.reduceToNat, Int.reducePow, Int.reduceNeg]
      refine hbad ?_ _ rfl
      rw [List.all_eq_false]
      exact ⟨a, hmem, by simp; omega⟩
    · have h30' : ¬ (30 : Int) < a.length := by omega
      refine bwp_cond false (by simp [ev, fget, h30']) (fun h => nomatch h) (fun _ => ?_)
      refine bwp_skip ?_
      simp -implicitDefEqProofs only [go_sem, ↓reduceIte, Nat.reduceEqDiff, Nat.reduceAdd, Nat.reduceLeDiff, Nat.reduceMul, Nat.reduceSub, Int.reduceLE, Int.reduceLT, Int.reduceEq, Int.reduceToNat, Int.reducePow, Int.reduceNeg]
      refine hK1 _ ?_; clear hK1
      refine bwp_region rfl ?_
      simp -implicitDefEqProofs only [go_sem, ↓reduceIte, Nat.reduceEqDiff, Nat.reduceAdd, Nat.reduceLeDiff, Nat.reduceMul, Nat.reduceSub, Int.reduceLE, Int.reduceLT, Int.reduceEq, Int.reduceToNat, Int.reducePow, Int.reduceNeg, hw]
      refine ⟨hlt, ?_, Leads.ent [(0, 0)] ⟨by simp [entT, fget, AV.ren, renL, pget], by simp [entM, pinv, mget, renL, AV.ren, pget, hTe], rfl, rfl⟩⟩
      intro b hb
      rw [htk, List.mem_append] at hb
      rcases hb with hb | hb
      · exact hp b hb
      · simp only [List.mem_singleton] at hb; rw [hb]; omega
  · have hlt' : ¬ (k : Int) < ls.length := by omega
    have hin : k = ls.length := by omega
    subst hin
    rw [List.take_of_length_le (Nat.le_refl _)] at hp
    refine bwp_seq fun K hK => bwp_region rfl ?_
    simp -implicitDefEqProofs only [go_sem, ↓reduceIte, Nat.reduceEqDiff, Nat.reduceAdd, Nat.reduceLeDiff, Nat.reduceMul, Nat.reduceSub, Int.reduceLE, Int.reduceLT, Int.reduceEq, Int.reduceToNat, Int.reducePow, Int.reduceNeg, hT.len, hlt']
    refine hK _ ?_; clear hK
    refine bwp_cond false (by simp [ev, fget, hlt']) (fun h => nomatch h) (fun _ => ?_)
    refine bwp_leads (S' := fwS [.str nm, I, T, .int .i64 kd, A] []) (Leads.ent [(0, 0)] ⟨by simp [entT, fget, AV.ren, renL, pget, fwS], by simp [entM, pinv, mget, mset, renL, AV.ren, pget, renL_append, -List.map_map, fwS], rfl, rfl⟩) ?_
    refine bwp_exit (hgood ?_)
    rw [List.all_eq_true]
    intro a ha
    exact decide_eq_true (hp a ha)

set_option maxHeartbeats 2000000 in
theorem fw_rows {nm : List UInt8} {I T A : DV} {kd : Int} {ls : List (List Atom)} (hA : IsSl2 Atom.cells ls A) {Q : Exit → St → Prop}
    (hbad : ls.all (fun l => decide (l.length ≤ 12)) = false → ∀ S, fget S.t 2 = .d (.bool false) → Q .ret S) (hgood : ls.all (fun l => decide (l.length ≤ 12)) = true → Q (.exit 2) (fwS [.str nm, I, T, .int .i64 kd, A] [])) :
    BWP Tryd.prog (mbound []) 58 (.loop ac17L1) (fwS [.str nm, I, T, .int .i64 kd, A] [(4, .d (.int .i64 (0 : Nat)))]) Q := by
  have hb := hA.big
  refine bwp_countI (fun k => fwS [.str nm, I, T, .int .i64 kd, A] [(4, .d (.int .i64 (k : Nat)))]) (fun k => ∀ a ∈ ls.take k, a.length ≤ 12) ls.length (by simp) ?_
  intro k hk hp
  unfold ac17L1 fwS
  simp only [List.cons_append, List.nil_append, List.map_cons, List.map_nil]
  refine bwp_seq fun K1 hK1 => ?_
  by_cases hlt : k < ls.length
  · have hlt' : (k : Int) < ls.length := by omega
    obtain ⟨cs1, d, rest1, hAe, hd1, hjc, hD⟩ := hA.at k hlt
    have hw : IntKind.i64.wrap ((k : Int) + 1) = ((k + 1 : Nat) : Int) := by rw [wrap_i64 (by omega) (by omega)]; rfl
    have hmem : ls[k] ∈ ls := List.getElem_mem hlt
    have htk := take_snoc ls k hlt
    generalize ls[k] = a at *
    refine bwp_seq fun K hK => bwp_region rfl ?_
    simp -implicitDefEqProofs only [go_sem, ↓reduceIte, Nat.reduceEqDiff, Nat.reduceAdd, Nat.reduceLeDiff, Nat.reduceMul, Nat.reduceSub, Int.reduceLE, Int.reduceLT, Int.reduceEq, Int.reduceToNat, Int.reducePow, Int.reduceNeg, hA.len, hlt']
    refine hK _ ?_; clear hK
    refine bwp_cond true (by simp [ev, fget, hlt']) (fun _ => ?_) (fun h => nomatch h)
    refine bwp_skip ?_
    refine hK1 _ ?_; clear hK1
    refine bwp_seq fun K1 hK1 => ?_
    refine bwp_block ?_
    refine bwp_seq fun K hK => bwp_region rfl ?_
    simp -implicitDefEqProofs only [go_sem, ↓reduceIte, Nat.reduceEqDiff, Nat.reduceAdd, Nat.reduceLeDiff, Nat.reduceMul, Nat.reduceSub, Int.reduceLE, Int.reduceLT, Int.reduceEq, Int.reduceToNat, Int.reducePow, Int.reduceNeg, hAe, hlt', Int.natCast_nonneg, Int.toNat_natCast, hd1, hjc, hD.len]
    refine hK _ ?_; clear hK
    by_cases h30 : 12 < a.length
    · have h30' : (12 : Int) < a.length := by omega
      refine bwp_cond true (by simp [ev, fget, h30']) (fun _ => ?_) (fun h => nomatch h)
      refine bwp_seq fun K hK => bwp_region rfl ?_
      simp -implicitDefEqProofs only [go_sem, ↓reduceIte, Nat.reduceEqDiff, Nat.reduceAdd, Nat.reduceLeDiff, Nat.reduceMul, Nat.reduceSub, Int.reduceLE, Int.reduceLT, Int.reduceEq, Int.reduceToNat, Int.reducePow, Int.reduceNeg]
      refine hK _ ?_; clear hK
      refine bwp_ret ?_
      simp -implicitDefEqProofs only [go_sem, ↓reduceIte, Nat.reduceEqDiff, Nat.reduceAdd, Nat.reduceLeDiff, Nat.reduceMul, Nat.reduceSub, Int.reduceLE, Int.reduceLT, Int.reduceEq, Int.reduceToNat, Int.reducePow, Int.reduceNeg]
      refine hbad ?_ _ rfl
      rw [List.all_eq_false]
      exact ⟨a, hmem, by simp; omega⟩
    · have h30' : ¬ (12 : Int) < a.length := by omega
      refine bwp_cond false (by simp [ev, fget, h30']) (fun h => nomatch h) (fun _ => ?_)
      refine bwp_skip ?_
      simp -implicitDefEqProofs only [go_sem, ↓reduceIte, Nat.reduceEqDiff, Nat.reduceAdd, Nat.reduceLeDiff, Nat.reduceMul, Nat.reduceSub, Int.reduceLE, Int.reduceLT, Int.reduceEq, Int.reduceToNat, Int.reducePow, Int.reduceNeg]
      refine hK1 _ ?_; clear hK1
      refine bwp_region rfl ?_
      simp -implicitDefEqProofs only [go_sem, ↓reduceIte, Nat.reduceEqDiff, Nat.reduceAdd, Nat.reduceLeDiff, Nat.reduceMul, Nat.reduceSub, Int.reduceLE, Int.reduceLT, Int.reduceEq, Int.reduceToNat, Int.reducePow, Int.reduceNeg, hw]
      refine ⟨hlt, ?_, Leads.ent [(0, 0)] ⟨by simp [entT, fget, AV.ren, renL, pget], by simp [entM, pinv, mget, renL, AV.ren, pget, hAe], rfl, rfl⟩⟩
      intro b hb
      rw [htk, List.mem_append] at hb
      rcases hb with hb | hb
      · exact hp b hb
      · simp only [List.mem_singleton] at hb; rw [hb]; omega
  · have hlt' : ¬ (k : Int) < ls.length := by omega
    have hin : k = ls.length := by omega
    subst hin
    rw [List.take_of_length_le (Nat.le_refl _)] at hp
    refine bwp_seq fun K hK => bwp_region rfl ?_
    simp -implicitDefEqProofs only [go_sem, ↓reduceIte, Nat.reduceEqDiff, Nat.reduceAdd, Nat.reduceLeDiff, Nat.reduceMul, Nat.reduceSub, Int.reduceLE, Int.reduceLT, Int.reduceEq, Int.reduceToNat, Int.reducePow, Int.reduceNeg, hA.len, hlt']
    refine hK _ ?_; clear hK
    refine bwp_cond false (by simp [ev, fget, hlt']) (fun h => nomatch h) (fun _ => ?_)
    refine bwp_leads (S' := fwS [.str nm, I, T, .int .i64 kd, A] []) (Leads.ent [(0, 0)] ⟨by simp [entT, fget, AV.ren, renL, pget, fwS], by simp [entM, pinv, mget, mset, renL, AV.ren, pget, renL_append, -List.map_map, fwS], rfl, rfl⟩) ?_
    refine bwp_exit (hgood ?_)
    rw [List.all_eq_true]
    intro a ha
    exact decide_eq_true (hp a ha)

set_option maxHeartbeats 2000000 in
theorem few_pure {t : Test} {cs : List DV} (hT : IsTest t cs) : Pure Tryd.prog 17 [.agg (cs.map .d)] (.d (.bool (fewB t))) := by
  obtain ⟨I, T, A, rfl, hI, hTh, hA⟩ := hT
  have hs : fewB t = (decide (t.threads.length ≤ 6) && decide (t.inits.length ≤ 40) && decide (t.name.length ≤ 60) && decide (t.rows.length ≤ 12) && t.threads.all (fun l => decide (l.length ≤ 30)) && t.rows.all (fun l => decide (l.length ≤ 12))) := rfl
  simp only [List.map_cons, List.map_nil]
  refine acalls_of Tryd.func17 ac17_ok Tryd.ntmps17 Tryd.results17 rfl ?_
  unfold ac17
  refine bwp_seq fun K hK => bwp_region rfl ?_
  simp -implicitDefEqProofs only [go_sem, ↓reduceIte, Nat.reduceEqDiff, Nat.reduceAdd, Nat.reduceLeDiff, Nat.reduceMul, Nat.reduceSub, Int.reduceLE, Int.reduceLT, Int.reduceEq, Int.reduceToNat, Int.reducePow, Int.reduceNeg]
  refine hK _ ?_; clear hK
  refine bwp_seq fun K1 hK1 => ?_
  have no : ∀ S : St, fewB t = false → decide (mbound [] ≤ S.n) = true → BWP Tryd.prog (mbound []) 58 ((ACode.region false [⟨some 2, .mv (.c (.d (.bool false))), none⟩] []).seq ACode.ret) S (Exit.thenA K1 (AEnd Tryd.prog #[.tmp 2] (mbound []) fun r m' => r = .d (.bool (fewB t)) ∧ m' = [])) := by
    intro S h0 hn
    rw [h0]
    refine bwp_seq fun K hK => bwp_region hn ?_
    simp -implicitDefEqProofs only [go_sem, ↓reduceIte, Nat.reduceEqDiff, Nat.reduceAdd, Nat.reduceLeDiff, Nat.reduceMul, Nat.reduceSub, Int.reduceLE, Int.reduceLT, Int.reduceEq, Int.reduceToNat, Int.reducePow, Int.reduceNeg]
    refine hK _ ?_; clear hK
    refine bwp_ret ?_
    simp only [go_sem]
    refine aend_ret _ rfl rfl ⟨?_, rfl⟩
    simp [fget]
  by_cases h1 : 6 < t.threads.length
  · have h1' : (6 : Int) < t.threads.length := by omega
    refine bwp_seq fun K hK => bwp_region rfl ?_
    simp -implicitDefEqProofs only [go_sem, ↓reduceIte, Nat.reduceEqDiff, Nat.reduceAdd, Nat.reduceLeDiff, Nat.reduceMul, Nat.reduceSub, Int.reduceLE, Int.reduceLT, Int.reduceEq, Int.reduceToNat, Int.reducePow, Int.reduceNeg, hTh.len, h1']
    refine hK _ ?_; clear hK
    refine bwp_cond true (by simp [ev, fget, h1']) (fun _ => ?_) (fun h => nomatch h)
    exact no _ (by have : ¬ t.threads.length ≤ 6 := by omega
                   simp [hs, this]) rfl
  have h1' : ¬ (6 : Int) < t.threads.length := by omega
  by_cases h2 : 40 < t.inits.length
  · have h2' : (40 : Int) < t.inits.length := by omega
    refine bwp_seq fun K hK => bwp_region rfl ?_
    simp -implicitDefEqProofs only [go_sem, ↓reduceIte, Nat.reduceEqDiff, Nat.reduceAdd, Nat.reduceLeDiff, Nat.reduceMul, Nat.reduceSub, Int.reduceLE, Int.reduceLT, Int.reduceEq, Int.reduceToNat, Int.reducePow, Int.reduceNeg, hTh.len, h1', hI.len, h2']
    refine hK _ ?_; clear hK
    refine bwp_cond true (by simp [ev, fget, h1', h2']) (fun _ => ?_) (fun h => nomatch h)
    exact no _ (by have : ¬ t.inits.length ≤ 40 := by omega
                   simp [hs, this]) rfl
  have h2' : ¬ (40 : Int) < t.inits.length := by omega
  by_cases h3 : 60 < t.name.length
  · have h3' : (60 : Int) < t.name.length := by omega
    refine bwp_seq fun K hK => bwp_region rfl ?_
    simp -implicitDefEqProofs only [go_sem, ↓reduceIte, Nat.reduceEqDiff, Nat.reduceAdd, Nat.reduceLeDiff, Nat.reduceMul, Nat.reduceSub, Int.reduceLE, Int.reduceLT, Int.reduceEq, Int.reduceToNat, Int.reducePow, Int.reduceNeg, hTh.len, h1', hI.len, h2', h3']
    refine hK _ ?_; clear hK
    refine bwp_cond true (by simp [ev, fget, h1', h2', h3']) (fun _ => ?_) (fun h => nomatch h)
    exact no _ (by have : ¬ t.name.length ≤ 60 := by omega
                   simp [hs, this]) rfl
  have h3' : ¬ (60 : Int) < t.name.length := by omega
  by_cases h4 : 12 < t.rows.length
  · have h4' : (12 : Int) < t.rows.length := by omega
    refine bwp_seq fun K hK => bwp_region rfl ?_
    simp -implicitDefEqProofs only [go_sem, ↓reduceIte, Nat.reduceEqDiff, Nat.reduceAdd, Nat.reduceLeDiff, Nat.reduceMul, Nat.reduceSub, Int.reduceLE, Int.reduceLT, Int.reduceEq, Int.reduceToNat, Int.reducePow, Int.reduceNeg, hTh.len, h1', hI.len, h2', h3', hA.len, h4']
    refine hK _ ?_; clear hK
    refine bwp_cond true (by simp [ev, fget, h1', h2', h3', h4']) (fun _ => ?_) (fun h => nomatch h)
    exact no _ (by have : ¬ t.rows.length ≤ 12 := by omega
                   simp [hs, this]) rfl
  have h4' : ¬ (12 : Int) < t.rows.length := by omega
  have g1 : t.threads.length ≤ 6 := by omega
  have g2 : t.inits.length ≤ 40 := by omega
  have g3 : t.name.length ≤ 60 := by omega
  have g4 : t.rows.length ≤ 12 := by omega
  refine bwp_seq fun K hK => bwp_region rfl ?_
  simp -implicitDefEqProofs only [go_sem, ↓reduceIte, Nat.reduceEqDiff, Nat.reduceAdd, Nat.reduceLeDiff, Nat.reduceMul, Nat.reduceSub, Int.reduceLE, Int.reduceLT, Int.reduceEq, Int.reduceToNat, Int.reducePow, Int.reduceNeg, hTh.len, h1', hI.len, h2', h3', hA.len, h4']
  refine hK _ ?_; clear hK
  refine bwp_cond false (by simp [ev, fget, h1', h2', h3', h4']) (fun h => nomatch h) (fun _ => ?_)
  refine bwp_skip ?_
  refine hK1 _ ?_; clear hK1
  refine bwp_seq fun K2 hK2 => ?_
  refine bwp_seq fun K hK => bwp_region rfl ?_
  simp -implicitDefEqProofs only [go_sem, ↓reduceIte, Nat.reduceEqDiff, Nat.reduceAdd, Nat.reduceLeDiff, Nat.reduceMul, Nat.reduceSub, Int.reduceLE, Int.reduceLT, Int.reduceEq, Int.reduceToNat, Int.reducePow, Int.reduceNeg]
  refine hK _ ?_; clear hK
  refine bwp_block ?_
  refine bwp_leads (S' := fwS [.str t.name, I, T, .int .i64 t.kind, A] [(3, .d (.int .i64 (0 : Nat)))]) (Leads.ent [(0, 0)] ⟨by simp [entT, fget, AV.ren, renL, pget, fwS], by simp [entM, pinv, mget, mset, renL, AV.ren, pget, renL_append, -List.map_map, fwS], rfl, rfl⟩) ?_
  refine fw_threads hTh ?_ ?_
  · intro he S hS
    simp -implicitDefEqProofs only [go_sem, ↓reduceIte, Nat.reduceEqDiff, Nat.reduceAdd, Nat.reduceLeDiff, Nat.reduceMul, Nat.reduceSub, Int.reduceLE, Int.reduceLT, Int.reduceEq, Int.reduceToNat, Int.reducePow, Int.reduceNeg]
    exact aend_ret (.d (.bool false)) (by simp [resA, resVs, resV, hS]) rfl ⟨by rw [hs, he]; simp, rfl⟩
  · intro he1
    simp -implicitDefEqProofs only [go_sem, ↓reduceIte, Nat.reduceEqDiff, Nat.reduceAdd, Nat.reduceLeDiff, Nat.reduceMul, Nat.reduceSub, Int.reduceLE, Int.reduceLT, Int.reduceEq, Int.reduceToNat, Int.reducePow, Int.reduceNeg]
    refine hK2 _ ?_; clear hK2
    unfold fwS
    simp only [List.nil_append, List.map_cons, List.map_nil]
    refine bwp_seq fun K2 hK2 => ?_
    refine bwp_seq fun K hK => bwp_region rfl ?_
    simp -implicitDefEqProofs only [go_sem, ↓reduceIte, Nat.reduceEqDiff, Nat.reduceAdd, Nat.reduceLeDiff, Nat.reduceMul, Nat.reduceSub, Int.reduceLE, Int.reduceLT, Int.reduceEq, Int.reduceToNat, Int.reducePow, Int.reduceNeg]
    refine hK _ ?_; clear hK
    refine bwp_block ?_
    refine bwp_leads (S' := fwS [.str t.name, I, T, .int .i64 t.kind, A] [(4, .d (.int .i64 (0 : Nat)))]) (Leads.ent [(0, 0)] ⟨by simp [entT, fget, AV.ren, renL, pget, fwS], by simp [entM, pinv, mget, mset, renL, AV.ren, pget, renL_append, -List.map_map, fwS], rfl, rfl⟩) ?_
    refine fw_rows hA ?_ ?_
    · intro he S hS
      simp -implicitDefEqProofs only [go_sem, ↓reduceIte, Nat.reduceEqDiff, Nat.reduceAdd, Nat.reduceLeDiff, Nat.reduceMul, Nat.reduceSub, Int.reduceLE, Int.reduceLT, Int.reduceEq, Int.reduceToNat, Int.reducePow, Int.reduceNeg]
      exact aend_ret (.d (.bool false)) (by simp [resA, resVs, resV, hS]) rfl ⟨by rw [hs, he]; simp, rfl⟩
    · intro he2
      simp -implicitDefEqProofs only [go_sem, ↓reduceIte, Nat.reduceEqDiff, Nat.reduceAdd, Nat.reduceLeDiff, Nat.reduceMul, Nat.reduceSub, Int.reduceLE, Int.reduceLT, Int.reduceEq, Int.reduceToNat, Int.reducePow, Int.reduceNeg]
      refine hK2 _ ?_; clear hK2
      unfold fwS
      refine bwp_seq fun K hK => bwp_region rfl ?_
      simp -implicitDefEqProofs only [go_sem, ↓reduceIte, Nat.reduceEqDiff, Nat.reduceAdd, Nat.reduceLeDiff, Nat.reduceMul, Nat.reduceSub, Int.reduceLE, Int.reduceLT, Int.reduceEq, Int.reduceToNat, Int.reducePow, Int.reduceNeg]
      refine hK _ ?_; clear hK
      refine bwp_ret ?_
      simp only [go_sem]
      refine aend_ret _ rfl rfl ⟨?_, rfl⟩
      rw [hs, he1, he2]
      simp [fget, g1, g2, g3, g4]

end Go.Proofs.YtgfkgngpganllaaDoor
