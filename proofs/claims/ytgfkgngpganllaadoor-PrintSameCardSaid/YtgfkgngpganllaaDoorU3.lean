/- Whether two tests are the same, told without a heap. -/
import Derived.Test.YtgfkgngpganllaaDoorU2
namespace Go.Proofs.YtgfkgngpganllaaDoor
open Go Go.Jq
set_option maxRecDepth 100000
set_option linter.unusedSimpArgs false

def sameB (t u : Test) : Bool := decide (t.name = u.name) && (eqL eqInit t.inits u.inits && (eqL (eqL eqIns) t.threads u.threads && (decide (t.kind = u.kind) && eqL (eqL eqAtom) t.rows u.rows)))

theorem sameB_iff (t u : Test) : sameB t u = true ↔ t = u := by
  cases t; cases u
  simp [sameB, eqL_iff eqInit_iff, eqL_iff (eqL_iff eqIns_iff), eqL_iff (eqL_iff eqAtom_iff)]

set_option maxHeartbeats 2000000 in
theorem same_pure {t u : Test} {cs cu : List DV} (hT : IsTest t cs) (hU : IsTest u cu) : Pure Tryd.prog 15 [.agg (cs.map .d), .agg (cu.map .d)] (.d (.bool (sameB t u))) := by
  obtain ⟨I, T, A, rfl, hI, hTh, hA⟩ := hT
  obtain ⟨I', T', A', rfl, hI', hTh', hA'⟩ := hU
  have k1 := equalInit_pure hI hI'
  have k2 := equalFuncIns_pure hTh hTh'
  have k3 := equalFuncAtom_pure hA hA'
  have hs : sameB t u = (decide (t.name = u.name) && (eqL eqInit t.inits u.inits && (eqL (eqL eqIns) t.threads u.threads && (decide (t.kind = u.kind) && eqL (eqL eqAtom) t.rows u.rows)))) := rfl
  generalize eqL eqInit t.inits u.inits = e1 at *
  generalize eqL (eqL eqIns) t.threads u.threads = e2 at *
  generalize eqL (eqL eqAtom) t.rows u.rows = e3 at *
  simp only [List.map_cons, List.map_nil]
  refine acalls_of Tryd.func15 ac15_ok Tryd.ntmps15 Tryd.results15 rfl ?_
  unfold ac15
  refine bwp_seq fun K hK => bwp_region rfl ?_
  simp -implicitDefEqProofs only [go_sem, ↓reduceIte, Nat.reduceEqDiff, Nat.reduceAdd, Nat.reduceLeDiff, Nat.reduceMul, Nat.reduceSub, Int.reduceLE, Int.reduceLT, Int.reduceEq, Int.reduceToNat, Int.reducePow, Int.reduceNeg]
  refine hK _ ?_; clear hK
  by_cases h1 : t.name = u.name
  · refine bwp_seq fun K hK => bwp_region rfl ?_
    simp -implicitDefEqProofs only [go_sem, ↓reduceIte, Nat.reduceEqDiff, Nat.reduceAdd, Nat.reduceLeDiff, Nat.reduceMul, Nat.reduceSub, Int.reduceLE, Int.reduceLT, Int.reduceEq, Int.reduceToNat, Int.reducePow, Int.reduceNeg, h1]
    refine callK_pure k1 rfl rfl ?_
    cases e1 with
    | false =>
      simp -implicitDefEqProofs only [go_sem, ↓reduceIte, Nat.reduceEqDiff, Nat.reduceAdd, Nat.reduceLeDiff, Nat.reduceMul, Nat.reduceSub, Int.reduceLE, Int.reduceLT, Int.reduceEq, Int.reduceToNat, Int.reducePow, Int.reduceNeg]
      refine hK _ ?_; clear hK
      refine bwp_ret ?_
      simp only [go_sem]
      refine aend_ret _ rfl rfl ⟨?_, rfl⟩
      simp [fget, hs]
    | true =>
      simp -implicitDefEqProofs only [go_sem, ↓reduceIte, Nat.reduceEqDiff, Nat.reduceAdd, Nat.reduceLeDiff, Nat.reduceMul, Nat.reduceSub, Int.reduceLE, Int.reduceLT, Int.reduceEq, Int.reduceToNat, Int.reducePow, Int.reduceNeg]
      refine callK_pure k2 rfl rfl ?_
      cases e2 with
      | false =>
        simp -implicitDefEqProofs only [go_sem, ↓reduceIte, Nat.reduceEqDiff, Nat.reduceAdd, Nat.reduceLeDiff, Nat.reduceMul, Nat.reduceSub, Int.reduceLE, Int.reduceLT, Int.reduceEq, Int.reduceToNat, Int.reducePow, Int.reduceNeg]
        refine hK _ ?_; clear hK
        refine bwp_ret ?_
        simp only [go_sem]
        refine aend_ret _ rfl rfl ⟨?_, rfl⟩
        simp [fget, hs]
      | true =>
        by_cases h2 : t.kind = u.kind
        · simp -implicitDefEqProofs only [go_sem, ↓reduceIte, Nat.reduceEqDiff, Nat.reduceAdd, Nat.reduceLeDiff, Nat.reduceMul, Nat.reduceSub, Int.reduceLE, Int.reduceLT, Int.reduceEq, Int.reduceToNat, Int.reducePow, Int.reduceNeg, h2]
          refine callK_pure k3 rfl rfl ?_
          simp -implicitDefEqProofs only [go_sem, ↓reduceIte, Nat.reduceEqDiff, Nat.reduceAdd, Nat.reduceLeDiff, Nat.reduceMul, Nat.reduceSub, Int.reduceLE, Int.reduceLT, Int.reduceEq, Int.reduceToNat, Int.reducePow, Int.reduceNeg]
          refine hK _ ?_; clear hK
          refine bwp_ret ?_
          simp only [go_sem]
          refine aend_ret _ rfl rfl ⟨?_, rfl⟩
          simp [fget, hs, h1, h2]
        · simp -implicitDefEqProofs only [go_sem, ↓reduceIte, Nat.reduceEqDiff, Nat.reduceAdd, Nat.reduceLeDiff, Nat.reduceMul, Nat.reduceSub, Int.reduceLE, Int.reduceLT, Int.reduceEq, Int.reduceToNat, Int.reducePow, Int.reduceNeg, h2]
          refine hK _ ?_; clear hK
          refine bwp_ret ?_
          simp only [go_sem]
          refine aend_ret _ rfl rfl ⟨?_, rfl⟩
          simp [fget, hs, h2]
  · refine bwp_seq fun K hK => bwp_region rfl ?_
    simp -implicitDefEqProofs only [go_sem, ↓reduceIte, Nat.reduceEqDiff, Nat.reduceAdd, Nat.reduceLeDiff, Nat.reduceMul, Nat.reduceSub, Int.reduceLE, Int.reduceLT, Int.reduceEq, Int.reduceToNat, Int.reducePow, Int.reduceNeg, h1]
    refine hK _ ?_; clear hK
    refine bwp_ret ?_
    simp only [go_sem]
    refine aend_ret _ rfl rfl ⟨?_, rfl⟩
    simp [fget, hs, h1]

set_option maxHeartbeats 2000000 in
theorem refSameCond_pure {kd kd' : Int} {rows rows' : List (List Atom)} {A A' : DV} (hA : IsSl2 Atom.cells rows A) (hA' : IsSl2 Atom.cells rows' A') :
    Pure Tryd.prog 55 [.agg [.d (.int .i64 kd), .d A], .agg [.d (.int .i64 kd'), .d A']] (.d (.bool (decide (kd = kd') && eqL (eqL eqAtom) rows rows'))) := by
  have hb := hA.big
  refine acalls_of Tryd.func55 ac55_ok Tryd.ntmps55 Tryd.results55 rfl ?_
  unfold ac55
  refine bwp_seq fun K hK => bwp_region rfl ?_
  simp -implicitDefEqProofs only [go_sem, ↓reduceIte, Nat.reduceEqDiff, Nat.reduceAdd, Nat.reduceLeDiff, Nat.reduceMul, Nat.reduceSub, Int.reduceLE, Int.reduceLT, Int.reduceEq, Int.reduceToNat, Int.reducePow, Int.reduceNeg]
  refine hK _ ?_; clear hK
  refine bwp_seq fun K1 hK1 => ?_
  have no : ∀ S : St, (decide (kd = kd') && eqL (eqL eqAtom) rows rows') = false → decide (mbound [] ≤ S.n) = true → BWP Tryd.prog (mbound []) 68 ((ACode.region false [⟨some 4, .mv (.c (.d (.bool false))), none⟩] []).seq ACode.ret) S (Exit.thenA K1 (AEnd Tryd.prog #[.tmp 4] (mbound []) fun r m' => r = .d (.bool (decide (kd = kd') && eqL (eqL eqAtom) rows rows')) ∧ m' = [])) := by
    intro S h0 hn
    rw [h0]
    refine bwp_seq fun K hK => bwp_region hn ?_
    simp -implicitDefEqProofs only [go_sem, ↓reduceIte, Nat.reduceEqDiff, Nat.reduceAdd, Nat.reduceLeDiff, Nat.reduceMul, Nat.reduceSub, Int.reduceLE, Int.reduceLT, Int.reduceEq, Int.reduceToNat, Int.reducePow, Int.reduceNeg]
    refine hK _ ?_; clear hK
    refine bwp_ret ?_
    simp only [go_sem]
    refine aend_ret _ rfl rfl ⟨?_, rfl⟩
    simp [fget]
  by_cases h1 : kd = kd'
  · by_cases hl : rows.length = rows'.length
    · have hl1 : ((rows.length : Int) = (rows'.length : Int)) := by omega
      refine bwp_seq fun K hK => bwp_region rfl ?_
      simp -implicitDefEqProofs only [go_sem, ↓reduceIte, Nat.reduceEqDiff, Nat.reduceAdd, Nat.reduceLeDiff, Nat.reduceMul, Nat.reduceSub, Int.reduceLE, Int.reduceLT, Int.reduceEq, Int.reduceToNat, Int.reducePow, Int.reduceNeg, h1, hA.len, hA'.len, hl1]
      refine hK _ ?_; clear hK
      refine bwp_cond false (by simp [ev, fget, hl1]) (fun h => nomatch h) (fun _ => ?_)
      refine bwp_skip ?_
      refine hK1 _ ?_; clear hK1
      refine bwp_seq fun K2 hK2 => ?_
      refine bwp_seq fun K hK => bwp_region rfl ?_
      simp -implicitDefEqProofs only [go_sem, ↓reduceIte, Nat.reduceEqDiff, Nat.reduceAdd, Nat.reduceLeDiff, Nat.reduceMul, Nat.reduceSub, Int.reduceLE, Int.reduceLT, Int.reduceEq, Int.reduceToNat, Int.reducePow, Int.reduceNeg]
      refine hK _ ?_; clear hK
      refine bwp_block ?_
      refine bwp_leads (S' := rsS [.int .i64 kd, A] [.int .i64 kd', A'] [(5, .d (.int .i64 (0 : Nat)))]) (Leads.ent [(0, 0), (1, 1)] ⟨by simp [entT, fget, AV.ren, renL, pget, rsS, h1], by simp [entM, pinv, mget, mset, renL, AV.ren, pget, renL_append, -List.map_map, rsS, h1], rfl, rfl⟩) ?_
      refine rs_outAtom hA hA' hl ?_ ?_
      · intro he S hS
        simp -implicitDefEqProofs only [go_sem, ↓reduceIte, Nat.reduceEqDiff, Nat.reduceAdd, Nat.reduceLeDiff, Nat.reduceMul, Nat.reduceSub, Int.reduceLE, Int.reduceLT, Int.reduceEq, Int.reduceToNat, Int.reducePow, Int.reduceNeg]
        exact aend_ret (.d (.bool false)) (by simp [resA, resVs, resV, hS]) rfl ⟨by simp [he], rfl⟩
      · intro he
        simp -implicitDefEqProofs only [go_sem, ↓reduceIte, Nat.reduceEqDiff, Nat.reduceAdd, Nat.reduceLeDiff, Nat.reduceMul, Nat.reduceSub, Int.reduceLE, Int.reduceLT, Int.reduceEq, Int.reduceToNat, Int.reducePow, Int.reduceNeg]
        refine hK2 _ ?_; clear hK2
        unfold rsS
        refine bwp_seq fun K hK => bwp_region rfl ?_
        simp -implicitDefEqProofs only [go_sem, ↓reduceIte, Nat.reduceEqDiff, Nat.reduceAdd, Nat.reduceLeDiff, Nat.reduceMul, Nat.reduceSub, Int.reduceLE, Int.reduceLT, Int.reduceEq, Int.reduceToNat, Int.reducePow, Int.reduceNeg]
        refine hK _ ?_; clear hK
        refine bwp_ret ?_
        simp only [go_sem]
        refine aend_ret _ rfl rfl ⟨?_, rfl⟩
        simp [fget, he, h1]
    · have hl1 : ¬ ((rows.length : Int) = (rows'.length : Int)) := by omega
      refine bwp_seq fun K hK => bwp_region rfl ?_
      simp -implicitDefEqProofs only [go_sem, ↓reduceIte, Nat.reduceEqDiff, Nat.reduceAdd, Nat.reduceLeDiff, Nat.reduceMul, Nat.reduceSub, Int.reduceLE, Int.reduceLT, Int.reduceEq, Int.reduceToNat, Int.reducePow, Int.reduceNeg, h1, hA.len, hA'.len, hl1]
      refine hK _ ?_; clear hK
      refine bwp_cond true (by simp [ev, fget, h1, hl1]) (fun _ => ?_) (fun h => nomatch h)
      exact no _ (by rw [eqL_len _ _ _ hl]; simp) rfl
  · refine bwp_seq fun K hK => bwp_region rfl ?_
    simp -implicitDefEqProofs only [go_sem, ↓reduceIte, Nat.reduceEqDiff, Nat.reduceAdd, Nat.reduceLeDiff, Nat.reduceMul, Nat.reduceSub, Int.reduceLE, Int.reduceLT, Int.reduceEq, Int.reduceToNat, Int.reducePow, Int.reduceNeg, h1]
    refine hK _ ?_; clear hK
    refine bwp_cond true (by simp [ev, fget, h1]) (fun _ => ?_) (fun h => nomatch h)
    exact no _ (by simp [h1]) rfl

set_option maxHeartbeats 4000000 in
theorem rs_inits {nm nm' : List UInt8} {kd kd' : Int} {T T' A A' : DV} {l l' : List Init} {I I' : DV} (hI : IsSl Init.cells l I) (hI' : IsSl Init.cells l' I') (hln : l.length = l'.length) {Q : Exit → St → Prop}
    (hbad : eqL eqInit l l' = false → ∀ S, fget S.t 4 = .d (.bool false) → Q .ret S) (hgood : eqL eqInit l l' = true → Q (.exit 0) (rsS [.str nm, I, T, .int .i64 kd, A] [.str nm', I', T', .int .i64 kd', A'] [])) :
    BWP Tryd.prog (mbound []) 104 (.loop ac21L0) (rsS [.str nm, I, T, .int .i64 kd, A] [.str nm', I', T', .int .i64 kd', A'] [(5, .d (.int .i64 (0 : Nat)))]) Q := by
  have hb := hI.1
  refine bwp_countI (fun k => rsS [.str nm, I, T, .int .i64 kd, A] [.str nm', I', T', .int .i64 kd', A'] [(5, .d (.int .i64 (k : Nat)))]) (fun k => ∀ j (h : j < l.length) (h' : j < l'.length), j < k → eqInit l[j] l'[j] = true) l.length (fun j _ _ h => absurd h (Nat.not_lt_zero _)) ?_
  intro k hk hp
  unfold ac21L0 rsS
  simp only [List.cons_append, List.nil_append, List.map_cons, List.map_nil]
  refine bwp_seq fun K1 hK1 => ?_
  by_cases hlt : k < l.length
  · have hlt' : (k : Int) < l.length := by omega
    have hlt2 : (k : Int) < l'.length := by omega
    obtain ⟨cs, rest, hDe, hdrop, hcs⟩ := hI.at init_len (by omega) k hlt
    obtain ⟨cs', rest', hDe', hdrop', hcs'⟩ := hI'.at init_len (by omega) k (by omega)
    have hw : IntKind.i64.wrap ((k : Int) + 1) = ((k + 1 : Nat) : Int) := by rw [wrap_i64 (by omega) (by omega)]; rfl
    have hno := eqL_at eqInit l l' k hlt (by omega)
    have hnext : eqInit l[k] (l'[k]'(by omega)) = true → ∀ j (h : j < l.length) (h' : j < l'.length), j < k + 1 → eqInit l[j] l'[j] = true := fun he j h h' hj => by
      rcases Nat.lt_succ_iff_lt_or_eq.1 hj with h1 | h1
      · exact hp j h h' h1
      · subst h1; exact he
    generalize l[k] = x at hdrop hno hnext
    generalize l'[k]'(by omega) = y at hdrop' hno hnext
    refine bwp_seq fun K hK => bwp_region rfl ?_
    simp -implicitDefEqProofs only [go_sem, ↓reduceIte, Nat.reduceEqDiff, Nat.reduceAdd, Nat.reduceLeDiff, Nat.reduceMul, Nat.reduceSub, Int.reduceLE, Int.reduceLT, Int.reduceEq, Int.reduceToNat, Int.reducePow, Int.reduceNeg, hI.len, hlt']
    refine hK _ ?_; clear hK
    refine bwp_cond true (by simp [ev, fget, hlt']) (fun _ => ?_) (fun h => nomatch h)
    refine bwp_skip ?_
    refine hK1 _ ?_; clear hK1
    refine bwp_seq fun K1 hK1 => ?_
    refine bwp_block ?_
    refine bwp_seq fun K hK => bwp_region_draw rfl rfl ?_
    simp -implicitDefEqProofs only [go_sem, ↓reduceIte, Nat.reduceEqDiff, Nat.reduceAdd, Nat.reduceLeDiff, Nat.reduceMul, Nat.reduceSub, Int.reduceLE, Int.reduceLT, Int.reduceEq, Int.reduceToNat, Int.reducePow, Int.reduceNeg, hDe, hDe', hlt', hlt2, Int.natCast_nonneg, Int.toNat_natCast, hcs, hcs', hdrop, hdrop', Init.cells]
    refine ⟨rfl, hK _ ?_⟩; clear hK
    cases he : eqInit x y with
    | false =>
      have he' : ¬ (x.loc = y.loc ∧ x.value = y.value) := fun h => by
        have : eqInit x y = true := by simp [eqInit, h]
        rw [this] at he
        cases he
      refine bwp_cond true (by simp [ev, fget]; omega) (fun _ => ?_) (fun h => nomatch h)
      refine bwp_seq fun K hK => bwp_region rfl ?_
      simp -implicitDefEqProofs only [go_sem, ↓reduceIte, Nat.reduceEqDiff, Nat.reduceAdd, Nat.reduceLeDiff, Nat.reduceMul, Nat.reduceSub, Int.reduceLE, Int.reduceLT, Int.reduceEq, Int.reduceToNat, Int.reducePow, Int.reduceNeg]
      refine hK _ ?_; clear hK
      refine bwp_ret ?_
      simp -implicitDefEqProofs only [go_sem, ↓reduceIte, Nat.reduceEqDiff, Nat.reduceAdd, Nat.reduceLeDiff, Nat.reduceMul, Nat.reduceSub, Int.reduceLE, Int.reduceLT, Int.reduceEq, Int.reduceToNat, Int.reducePow, Int.reduceNeg]
      exact hbad (hno he) _ rfl
    | true =>
      have he' : x.loc = y.loc ∧ x.value = y.value := by simpa [eqInit, and_assoc] using he
      refine bwp_cond false (by simp [ev, fget]; omega) (fun h => nomatch h) (fun _ => ?_)
      refine bwp_skip ?_
      simp -implicitDefEqProofs only [go_sem, ↓reduceIte, Nat.reduceEqDiff, Nat.reduceAdd, Nat.reduceLeDiff, Nat.reduceMul, Nat.reduceSub, Int.reduceLE, Int.reduceLT, Int.reduceEq, Int.reduceToNat, Int.reducePow, Int.reduceNeg]
      refine hK1 _ ?_; clear hK1
      refine bwp_region rfl ?_
      simp -implicitDefEqProofs only [go_sem, ↓reduceIte, Nat.reduceEqDiff, Nat.reduceAdd, Nat.reduceLeDiff, Nat.reduceMul, Nat.reduceSub, Int.reduceLE, Int.reduceLT, Int.reduceEq, Int.reduceToNat, Int.reducePow, Int.reduceNeg, hw]
      refine ⟨hlt, hnext he, Leads.ent [(0, 0), (1, 1)] ⟨by simp [entT, fget, AV.ren, renL, pget], by simp [entM, pinv, mget, renL, AV.ren, hDe, hDe', pget], rfl, rfl⟩⟩
  · have hlt' : ¬ (k : Int) < l.length := by omega
    have hin : k = l.length := by omega
    refine bwp_seq fun K hK => bwp_region rfl ?_
    simp -implicitDefEqProofs only [go_sem, ↓reduceIte, Nat.reduceEqDiff, Nat.reduceAdd, Nat.reduceLeDiff, Nat.reduceMul, Nat.reduceSub, Int.reduceLE, Int.reduceLT, Int.reduceEq, Int.reduceToNat, Int.reducePow, Int.reduceNeg, hI.len, hlt']
    refine hK _ ?_; clear hK
    refine bwp_cond false (by simp [ev, fget, hlt']) (fun h => nomatch h) (fun _ => ?_)
    refine bwp_leads (S' := rsS [.str nm, I, T, .int .i64 kd, A] [.str nm', I', T', .int .i64 kd', A'] []) (Leads.ent [(0, 0), (1, 1)] ⟨by simp [entT, fget, AV.ren, renL, pget, rsS], by simp [entM, pinv, mget, mset, renL, AV.ren, pget, renL_append, -List.map_map, rsS], rfl, rfl⟩) ?_
    exact bwp_exit (hgood (eqL_all eqInit l l' hln fun j h h' => hp j h h' (by omega)))

set_option maxHeartbeats 4000000 in
theorem refSame_pure {t u : Test} {cs cu : List DV} (hT : IsTest t cs) (hU : IsTest u cu) : Pure Tryd.prog 21 [.agg (cs.map .d), .agg (cu.map .d)] (.d (.bool (sameB t u))) := by
  obtain ⟨I, T, A, rfl, hI, hTh, hA⟩ := hT
  obtain ⟨I', T', A', rfl, hI', hTh', hA'⟩ := hU
  have kc := refSameCond_pure (kd := t.kind) (kd' := u.kind) hA hA'
  have hs : sameB t u = (decide (t.name = u.name) && (eqL eqInit t.inits u.inits && (eqL (eqL eqIns) t.threads u.threads && (decide (t.kind = u.kind) && eqL (eqL eqAtom) t.rows u.rows)))) := rfl
  generalize (decide (t.kind = u.kind) && eqL (eqL eqAtom) t.rows u.rows) = e3 at *
  simp only [List.map_cons, List.map_nil]
  refine acalls_of Tryd.func21 ac21_ok Tryd.ntmps21 Tryd.results21 rfl ?_
  unfold ac21
  refine bwp_seq fun K hK => bwp_region rfl ?_
  simp -implicitDefEqProofs only [go_sem, ↓reduceIte, Nat.reduceEqDiff, Nat.reduceAdd, Nat.reduceLeDiff, Nat.reduceMul, Nat.reduceSub, Int.reduceLE, Int.reduceLT, Int.reduceEq, Int.reduceToNat, Int.reducePow, Int.reduceNeg]
  refine hK _ ?_; clear hK
  refine bwp_seq fun K1 hK1 => ?_
  have no : ∀ S : St, sameB t u = false → decide (mbound [] ≤ S.n) = true → BWP Tryd.prog (mbound []) 104 ((ACode.region false [⟨some 4, .mv (.c (.d (.bool false))), none⟩] []).seq ACode.ret) S (Exit.thenA K1 (AEnd Tryd.prog #[.tmp 4] (mbound []) fun r m' => r = .d (.bool (sameB t u)) ∧ m' = [])) := by
    intro S h0 hn
    rw [h0]
    refine bwp_seq fun K hK => bwp_region hn ?_
    simp -implicitDefEqProofs only [go_sem, ↓reduceIte, Nat.reduceEqDiff, Nat.reduceAdd, Nat.reduceLeDiff, Nat.reduceMul, Nat.reduceSub, Int.reduceLE, Int.reduceLT, Int.reduceEq, Int.reduceToNat, Int.reducePow, Int.reduceNeg]
    refine hK _ ?_; clear hK
    refine bwp_ret ?_
    simp only [go_sem]
    refine aend_ret _ rfl rfl ⟨?_, rfl⟩
    simp [fget]
  by_cases h1 : t.name = u.name
  · by_cases h2 : t.inits.length = u.inits.length
    · have h2' : (t.inits.length : Int) = u.inits.length := by omega
      by_cases h3 : t.threads.length = u.threads.length
      · have h3' : (t.threads.length : Int) = u.threads.length := by omega
        refine bwp_seq fun K hK => bwp_region rfl ?_
        simp -implicitDefEqProofs only [go_sem, ↓reduceIte, Nat.reduceEqDiff, Nat.reduceAdd, Nat.reduceLeDiff, Nat.reduceMul, Nat.reduceSub, Int.reduceLE, Int.reduceLT, Int.reduceEq, Int.reduceToNat, Int.reducePow, Int.reduceNeg, h1, hI.len, hI'.len, h2', hTh.len, hTh'.len, h3']
        refine callK_pure kc rfl rfl ?_
        cases e3 with
        | false =>
          simp -implicitDefEqProofs only [go_sem, ↓reduceIte, Nat.reduceEqDiff, Nat.reduceAdd, Nat.reduceLeDiff, Nat.reduceMul, Nat.reduceSub, Int.reduceLE, Int.reduceLT, Int.reduceEq, Int.reduceToNat, Int.reducePow, Int.reduceNeg]
          refine hK _ ?_; clear hK
          refine bwp_cond true (by simp [ev, fget]) (fun _ => ?_) (fun h => nomatch h)
          exact no _ (by simp [hs]) rfl
        | true =>
          simp -implicitDefEqProofs only [go_sem, ↓reduceIte, Nat.reduceEqDiff, Nat.reduceAdd, Nat.reduceLeDiff, Nat.reduceMul, Nat.reduceSub, Int.reduceLE, Int.reduceLT, Int.reduceEq, Int.reduceToNat, Int.reducePow, Int.reduceNeg]
          refine hK _ ?_; clear hK
          refine bwp_cond false (by simp [ev, fget]) (fun h => nomatch h) (fun _ => ?_)
          refine bwp_skip ?_
          refine hK1 _ ?_; clear hK1
          refine bwp_seq fun K2 hK2 => ?_
          refine bwp_seq fun K hK => bwp_region rfl ?_
          simp -implicitDefEqProofs only [go_sem, ↓reduceIte, Nat.reduceEqDiff, Nat.reduceAdd, Nat.reduceLeDiff, Nat.reduceMul, Nat.reduceSub, Int.reduceLE, Int.reduceLT, Int.reduceEq, Int.reduceToNat, Int.reducePow, Int.reduceNeg]
          refine hK _ ?_; clear hK
          refine bwp_block ?_
          refine bwp_leads (S' := rsS [.str t.name, I, T, .int .i64 t.kind, A] [.str u.name, I', T', .int .i64 u.kind, A'] [(5, .d (.int .i64 (0 : Nat)))]) (Leads.ent [(0, 0), (1, 1)] ⟨by simp [entT, fget, AV.ren, renL, pget, rsS, h1], by simp [entM, pinv, mget, mset, renL, AV.ren, pget, renL_append, -List.map_map, rsS, h1], rfl, rfl⟩) ?_
          refine rs_inits hI hI' h2 ?_ ?_
          · intro he S hS
            simp -implicitDefEqProofs only [go_sem, ↓reduceIte, Nat.reduceEqDiff, Nat.reduceAdd, Nat.reduceLeDiff, Nat.reduceMul, Nat.reduceSub, Int.reduceLE, Int.reduceLT, Int.reduceEq, Int.reduceToNat, Int.reducePow, Int.reduceNeg]
            exact aend_ret (.d (.bool false)) (by simp [resA, resVs, resV, hS]) rfl ⟨by simp [hs, he], rfl⟩
          · intro he1
            simp -implicitDefEqProofs only [go_sem, ↓reduceIte, Nat.reduceEqDiff, Nat.reduceAdd, Nat.reduceLeDiff, Nat.reduceMul, Nat.reduceSub, Int.reduceLE, Int.reduceLT, Int.reduceEq, Int.reduceToNat, Int.reducePow, Int.reduceNeg]
            refine hK2 _ ?_; clear hK2
            unfold rsS
            simp only [List.nil_append, List.map_cons, List.map_nil]
            refine bwp_seq fun K2 hK2 => ?_
            refine bwp_seq fun K hK => bwp_region rfl ?_
            simp -implicitDefEqProofs only [go_sem, ↓reduceIte, Nat.reduceEqDiff, Nat.reduceAdd, Nat.reduceLeDiff, Nat.reduceMul, Nat.reduceSub, Int.reduceLE, Int.reduceLT, Int.reduceEq, Int.reduceToNat, Int.reducePow, Int.reduceNeg]
            refine hK _ ?_; clear hK
            refine bwp_block ?_
            refine bwp_leads (S' := rsS [.str t.name, I, T, .int .i64 t.kind, A] [.str u.name, I', T', .int .i64 u.kind, A'] [(6, .d (.int .i64 (0 : Nat)))]) (Leads.ent [(0, 0), (1, 1)] ⟨by simp [entT, fget, AV.ren, renL, pget, rsS], by simp [entM, pinv, mget, mset, renL, AV.ren, pget, renL_append, -List.map_map, rsS], rfl, rfl⟩) ?_
            refine rs_outIns hTh hTh' h3 ?_ ?_
            · intro he S hS
              simp -implicitDefEqProofs only [go_sem, ↓reduceIte, Nat.reduceEqDiff, Nat.reduceAdd, Nat.reduceLeDiff, Nat.reduceMul, Nat.reduceSub, Int.reduceLE, Int.reduceLT, Int.reduceEq, Int.reduceToNat, Int.reducePow, Int.reduceNeg]
              exact aend_ret (.d (.bool false)) (by simp [resA, resVs, resV, hS]) rfl ⟨by simp [hs, he], rfl⟩
            · intro he2
              simp -implicitDefEqProofs only [go_sem, ↓reduceIte, Nat.reduceEqDiff, Nat.reduceAdd, Nat.reduceLeDiff, Nat.reduceMul, Nat.reduceSub, Int.reduceLE, Int.reduceLT, Int.reduceEq, Int.reduceToNat, Int.reducePow, Int.reduceNeg]
              refine hK2 _ ?_; clear hK2
              unfold rsS
              refine bwp_seq fun K hK => bwp_region rfl ?_
              simp -implicitDefEqProofs only [go_sem, ↓reduceIte, Nat.reduceEqDiff, Nat.reduceAdd, Nat.reduceLeDiff, Nat.reduceMul, Nat.reduceSub, Int.reduceLE, Int.reduceLT, Int.reduceEq, Int.reduceToNat, Int.reducePow, Int.reduceNeg]
              refine hK _ ?_; clear hK
              refine bwp_ret ?_
              simp only [go_sem]
              refine aend_ret _ rfl rfl ⟨?_, rfl⟩
              simp [fget, hs, he1, he2, h1]
      · have h3' : ¬ (t.threads.length : Int) = u.threads.length := by omega
        refine bwp_seq fun K hK => bwp_region rfl ?_
        simp -implicitDefEqProofs only [go_sem, ↓reduceIte, Nat.reduceEqDiff, Nat.reduceAdd, Nat.reduceLeDiff, Nat.reduceMul, Nat.reduceSub, Int.reduceLE, Int.reduceLT, Int.reduceEq, Int.reduceToNat, Int.reducePow, Int.reduceNeg, h1, hI.len, hI'.len, h2', hTh.len, hTh'.len, h3']
        refine hK _ ?_; clear hK
        refine bwp_cond true (by simp [ev, fget, h3', h1, h2']) (fun _ => ?_) (fun h => nomatch h)
        exact no _ (by simp [hs, eqL_len (eqL eqIns) _ _ h3]) rfl
    · have h2' : ¬ (t.inits.length : Int) = u.inits.length := by omega
      refine bwp_seq fun K hK => bwp_region rfl ?_
      simp -implicitDefEqProofs only [go_sem, ↓reduceIte, Nat.reduceEqDiff, Nat.reduceAdd, Nat.reduceLeDiff, Nat.reduceMul, Nat.reduceSub, Int.reduceLE, Int.reduceLT, Int.reduceEq, Int.reduceToNat, Int.reducePow, Int.reduceNeg, h1, hI.len, hI'.len, h2']
      refine hK _ ?_; clear hK
      refine bwp_cond true (by simp [ev, fget, h2', h1]) (fun _ => ?_) (fun h => nomatch h)
      exact no _ (by simp [hs, eqL_len eqInit _ _ h2]) rfl
  · refine bwp_seq fun K hK => bwp_region rfl ?_
    simp -implicitDefEqProofs only [go_sem, ↓reduceIte, Nat.reduceEqDiff, Nat.reduceAdd, Nat.reduceLeDiff, Nat.reduceMul, Nat.reduceSub, Int.reduceLE, Int.reduceLT, Int.reduceEq, Int.reduceToNat, Int.reducePow, Int.reduceNeg, h1]
    refine hK _ ?_; clear hK
    refine bwp_cond true (by simp [ev, fget, h1]) (fun _ => ?_) (fun h => nomatch h)
    exact no _ (by simp [hs, h1]) rfl

end Go.Proofs.YtgfkgngpganllaaDoor
