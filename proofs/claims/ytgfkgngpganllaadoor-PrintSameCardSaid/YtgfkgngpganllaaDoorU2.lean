/- The document's Same: its loops. -/
import Derived.Test.YtgfkgngpganllaaDoorU1
namespace Go.Proofs.YtgfkgngpganllaaDoor
open Go Go.Jq
set_option maxRecDepth 100000
set_option linter.unusedSimpArgs false

/-- The state in Same: both tests' cells. -/
def rsS (c1 c2 : List DV) (ex : Fr) : St := ⟨ex ++ [(2, .ptr 0 0), (3, .ptr 1 0)], [(0, c1.map .d), (1, c2.map .d)], 2⟩

set_option maxHeartbeats 4000000 in
theorem rs_inAtom {kd kd' : Int} {rows rows' : List (List Atom)} {T T' : DV} (hT : IsSl2 Atom.cells rows T) (hT' : IsSl2 Atom.cells rows' T') {i : Nat} (hi : i < rows.length) (hi' : i < rows'.length) (hln : rows[i].length = rows'[i].length) {Q : Exit → St → Prop}
    (hbad : eqL eqAtom rows[i] rows'[i] = false → ∀ S, fget S.t 4 = .d (.bool false) → Q .ret S) (hgood : eqL eqAtom rows[i] rows'[i] = true → Q (.exit 2) (rsS [.int .i64 kd, T] [.int .i64 kd', T'] [(5, .d (.int .i64 i))])) :
    BWP Tryd.prog (mbound []) 68 (.loop ac55L0) (rsS [.int .i64 kd, T] [.int .i64 kd', T'] [(6, .d (.int .i64 (0 : Nat))), (5, .d (.int .i64 i))]) Q := by
  obtain ⟨ts, d, rest0, hTe, hd1, hjc, hD⟩ := hT.at i hi
  obtain ⟨ts', d', rest0', hTe', hd1', hjc', hD'⟩ := hT'.at i hi'
  have hiT : (i : Int) < rows.length := by omega
  have hiT' : (i : Int) < rows'.length := by omega
  generalize rows[i] = l at *
  generalize rows'[i] = l' at *
  have hb := hD.1
  refine bwp_countI (fun k => rsS [.int .i64 kd, T] [.int .i64 kd', T'] [(6, .d (.int .i64 (k : Nat))), (5, .d (.int .i64 i))]) (fun k => ∀ j (h : j < l.length) (h' : j < l'.length), j < k → eqAtom l[j] l'[j] = true) l.length (fun j _ _ h => absurd h (Nat.not_lt_zero _)) ?_
  intro k hk hp
  unfold ac55L0 rsS
  simp only [List.cons_append, List.nil_append, List.map_cons, List.map_nil]
  refine bwp_seq fun K1 hK1 => ?_
  by_cases hlt : k < l.length
  · have hlt' : (k : Int) < l.length := by omega
    have hlt2 : (k : Int) < l'.length := by omega
    obtain ⟨cs, rest, hDe, hdrop, hcs⟩ := hD.at atom_len (by omega) k hlt
    obtain ⟨cs', rest', hDe', hdrop', hcs'⟩ := hD'.at atom_len (by omega) k (by omega)
    have hw : IntKind.i64.wrap ((k : Int) + 1) = ((k + 1 : Nat) : Int) := by rw [wrap_i64 (by omega) (by omega)]; rfl
    have hno := eqL_at eqAtom l l' k hlt (by omega)
    have hnext : eqAtom l[k] (l'[k]'(by omega)) = true → ∀ j (h : j < l.length) (h' : j < l'.length), j < k + 1 → eqAtom l[j] l'[j] = true := fun he j h h' hj => by
      rcases Nat.lt_succ_iff_lt_or_eq.1 hj with h1 | h1
      · exact hp j h h' h1
      · subst h1; exact he
    generalize l[k] = x at hdrop hno hnext
    generalize l'[k]'(by omega) = y at hdrop' hno hnext
    refine bwp_seq fun K hK => bwp_region rfl ?_
    simp -implicitDefEqProofs only [go_sem, ↓reduceIte, Nat.reduceEqDiff, Nat.reduceAdd, Nat.reduceLeDiff, Nat.reduceMul, Nat.reduceSub, Int.reduceLE, Int.reduceLT, Int.reduceEq, Int.reduceToNat, Int.reducePow, Int.reduceNeg, hTe, hiT, Int.natCast_nonneg, Int.toNat_natCast, hd1, hjc, hD.len, hlt']
    refine hK _ ?_; clear hK
    refine bwp_cond true (by simp [ev, fget, hlt']) (fun _ => ?_) (fun h => nomatch h)
    refine bwp_skip ?_
    refine hK1 _ ?_; clear hK1
    refine bwp_seq fun K1 hK1 => ?_
    refine bwp_block ?_
    refine bwp_seq fun K hK => bwp_region_draw rfl rfl ?_
    simp -implicitDefEqProofs only [go_sem, ↓reduceIte, Nat.reduceEqDiff, Nat.reduceAdd, Nat.reduceLeDiff, Nat.reduceMul, Nat.reduceSub, Int.reduceLE, Int.reduceLT, Int.reduceEq, Int.reduceToNat, Int.reducePow, Int.reduceNeg, hTe, hTe', hiT, hiT', Int.natCast_nonneg, Int.toNat_natCast, hd1, hjc, hd1', hjc', hDe, hDe', hlt', hlt2, hcs, hcs', hdrop, hdrop', Atom.cells]
    refine ⟨rfl, hK _ ?_⟩; clear hK
    cases he : eqAtom x y with
    | false =>
      have he' : ¬ (x.thread = y.thread ∧ x.reg = y.reg ∧ x.loc = y.loc ∧ x.value = y.value) := fun h => by
        have : eqAtom x y = true := by simp [eqAtom, h]
        rw [this] at he
        cases he
      refine bwp_cond true (by simp [ev, fget]; omega) (fun _ => ?_) (fun h => nomatch h)
      refine bwp_seq fun K hK => bwp_region rfl ?_
      simp -implicitDefEqProofs only [go_sem, ↓reduceIte, Nat.reduceEqDiff, Nat.reduceAdd, Nat.reduceLeDiff, Nat.reduceMul, Nat.reduceSub, Int.reduceLE, Int.reduceLT, Int.reduceEq, Int.reduceToNat, Int.reducePow, Int.reduceNeg]
      refine hK _ ?_; clear hK
      refine bwp_ret ?_
      simp -implicitDefEqProofs only [go_sem, ↓reduceIte, Nat.reduceEqDiff, Nat.reduceAdd, Nat.reduceLeDiff, Nat.reduceMul, Nat.reduceSub, Int.reduceLE, Int.reduceLT, Int.reduceEq, Int.reduceToNat, Int.reducePow, Int.reduceNeg]
      exact hbad (hno he) _ rfl
    | true =>
      have he' : x.thread = y.thread ∧ x.reg = y.reg ∧ x.loc = y.loc ∧ x.value = y.value := by simpa [eqAtom, and_assoc] using he
      refine bwp_cond false (by simp [ev, fget]; omega) (fun h => nomatch h) (fun _ => ?_)
      refine bwp_skip ?_
      simp -implicitDefEqProofs only [go_sem, ↓reduceIte, Nat.reduceEqDiff, Nat.reduceAdd, Nat.reduceLeDiff, Nat.reduceMul, Nat.reduceSub, Int.reduceLE, Int.reduceLT, Int.reduceEq, Int.reduceToNat, Int.reducePow, Int.reduceNeg]
      refine hK1 _ ?_; clear hK1
      refine bwp_region rfl ?_
      simp -implicitDefEqProofs only [go_sem, ↓reduceIte, Nat.reduceEqDiff, Nat.reduceAdd, Nat.reduceLeDiff, Nat.reduceMul, Nat.reduceSub, Int.reduceLE, Int.reduceLT, Int.reduceEq, Int.reduceToNat, Int.reducePow, Int.reduceNeg, hw]
      refine ⟨hlt, hnext he, Leads.ent [(0, 0), (1, 1)] ⟨by simp [entT, fget, AV.ren, renL, pget], by simp [entM, pinv, mget, renL, AV.ren, hTe, hTe', pget], rfl, rfl⟩⟩
  · have hlt' : ¬ (k : Int) < l.length := by omega
    have hin : k = l.length := by omega
    refine bwp_seq fun K hK => bwp_region rfl ?_
    simp -implicitDefEqProofs only [go_sem, ↓reduceIte, Nat.reduceEqDiff, Nat.reduceAdd, Nat.reduceLeDiff, Nat.reduceMul, Nat.reduceSub, Int.reduceLE, Int.reduceLT, Int.reduceEq, Int.reduceToNat, Int.reducePow, Int.reduceNeg, hTe, hiT, Int.natCast_nonneg, Int.toNat_natCast, hd1, hjc, hD.len, hlt']
    refine hK _ ?_; clear hK
    refine bwp_cond false (by simp [ev, fget, hlt']) (fun h => nomatch h) (fun _ => ?_)
    refine bwp_leads (S' := rsS [.int .i64 kd, T] [.int .i64 kd', T'] [(5, .d (.int .i64 i))]) (Leads.ent [(0, 0), (1, 1)] ⟨by simp [entT, fget, AV.ren, renL, pget, rsS, hTe, hTe'], by simp [entM, pinv, mget, mset, renL, AV.ren, pget, renL_append, -List.map_map, rsS, hTe, hTe'], rfl, rfl⟩) ?_
    exact bwp_exit (hgood (eqL_all eqAtom l l' hln fun j h h' => hp j h h' (by omega)))

set_option maxHeartbeats 4000000 in
theorem rs_outAtom {kd kd' : Int} {rows rows' : List (List Atom)} {T T' : DV} (hT : IsSl2 Atom.cells rows T) (hT' : IsSl2 Atom.cells rows' T') (hlr : rows.length = rows'.length) {Q : Exit → St → Prop}
    (hbad : eqL (eqL eqAtom) rows rows' = false → ∀ S, fget S.t 4 = .d (.bool false) → Q .ret S) (hgood : eqL (eqL eqAtom) rows rows' = true → Q (.exit 0) (rsS [.int .i64 kd, T] [.int .i64 kd', T'] [])) :
    BWP Tryd.prog (mbound []) 68 (.loop ac55L1) (rsS [.int .i64 kd, T] [.int .i64 kd', T'] [(5, .d (.int .i64 (0 : Nat)))]) Q := by
  have hb := hT.big
  refine bwp_countI (fun k => rsS [.int .i64 kd, T] [.int .i64 kd', T'] [(5, .d (.int .i64 (k : Nat)))]) (fun k => ∀ j (h : j < rows.length) (h' : j < rows'.length), j < k → eqL eqAtom rows[j] rows'[j] = true) rows.length (fun j _ _ h => absurd h (Nat.not_lt_zero _)) ?_
  intro i hi hp
  unfold ac55L1 rsS
  simp only [List.cons_append, List.nil_append, List.map_cons, List.map_nil]
  refine bwp_seq fun K1 hK1 => ?_
  by_cases hlt : i < rows.length
  · have hlt' : (i : Int) < rows.length := by omega
    have hlt2 : (i : Int) < rows'.length := by omega
    have hi2 : i < rows'.length := by omega
    obtain ⟨ts, d, rest0, hTe, hd1, hjc, hD⟩ := hT.at i hlt
    obtain ⟨ts', d', rest0', hTe', hd1', hjc', hD'⟩ := hT'.at i hi2
    have hw : IntKind.i64.wrap ((i : Int) + 1) = ((i + 1 : Nat) : Int) := by rw [wrap_i64 (by omega) (by omega)]; rfl
    have hno := eqL_at (eqL eqAtom) rows rows' i hlt hi2
    have hnext : eqL eqAtom rows[i] rows'[i] = true → ∀ j (h : j < rows.length) (h' : j < rows'.length), j < i + 1 → eqL eqAtom rows[j] rows'[j] = true := fun he j h h' hj => by
      rcases Nat.lt_succ_iff_lt_or_eq.1 hj with h1 | h1
      · exact hp j h h' h1
      · subst h1; exact he
    refine bwp_seq fun K hK => bwp_region rfl ?_
    simp -implicitDefEqProofs only [go_sem, ↓reduceIte, Nat.reduceEqDiff, Nat.reduceAdd, Nat.reduceLeDiff, Nat.reduceMul, Nat.reduceSub, Int.reduceLE, Int.reduceLT, Int.reduceEq, Int.reduceToNat, Int.reducePow, Int.reduceNeg, hT.len, hlt']
    refine hK _ ?_; clear hK
    refine bwp_cond true (by simp [ev, fget, hlt']) (fun _ => ?_) (fun h => nomatch h)
    refine bwp_skip ?_
    refine hK1 _ ?_; clear hK1
    refine bwp_seq fun K1 hK1 => ?_
    refine bwp_block ?_
    refine bwp_seq fun K2 hK2 => ?_
    refine bwp_seq fun K hK => bwp_region_draw rfl rfl ?_
    simp -implicitDefEqProofs only [go_sem, ↓reduceIte, Nat.reduceEqDiff, Nat.reduceAdd, Nat.reduceLeDiff, Nat.reduceMul, Nat.reduceSub, Int.reduceLE, Int.reduceLT, Int.reduceEq, Int.reduceToNat, Int.reducePow, Int.reduceNeg, hTe, hTe', hlt', hlt2, Int.natCast_nonneg, Int.toNat_natCast, hd1, hjc, hd1', hjc', hD.len, hD'.len]
    refine ⟨rfl, hK _ ?_⟩; clear hK
    by_cases hln : rows[i].length = rows'[i].length
    · have hln' : ((rows[i].length : Nat) : Int) = (rows'[i].length : Nat) := by omega
      refine bwp_cond false (by simp [ev, fget, hln']) (fun h => nomatch h) (fun _ => ?_)
      refine bwp_skip ?_
      refine hK2 _ ?_; clear hK2
      refine bwp_seq fun K hK => bwp_region rfl ?_
      simp -implicitDefEqProofs only [go_sem, ↓reduceIte, Nat.reduceEqDiff, Nat.reduceAdd, Nat.reduceLeDiff, Nat.reduceMul, Nat.reduceSub, Int.reduceLE, Int.reduceLT, Int.reduceEq, Int.reduceToNat, Int.reducePow, Int.reduceNeg]
      refine hK _ ?_; clear hK
      refine bwp_block ?_
      refine bwp_leads (S' := rsS [.int .i64 kd, T] [.int .i64 kd', T'] [(6, .d (.int .i64 (0 : Nat))), (5, .d (.int .i64 i))]) (Leads.ent [(0, 0), (1, 1)] ⟨by simp [entT, fget, AV.ren, renL, pget, rsS, hTe, hTe'], by simp [entM, pinv, mget, mset, renL, AV.ren, pget, renL_append, -List.map_map, rsS, hTe, hTe'], rfl, rfl⟩) ?_
      refine rs_inAtom hT hT' hlt hi2 hln ?_ ?_
      · intro he S hS
        simp -implicitDefEqProofs only [go_sem, ↓reduceIte, Nat.reduceEqDiff, Nat.reduceAdd, Nat.reduceLeDiff, Nat.reduceMul, Nat.reduceSub, Int.reduceLE, Int.reduceLT, Int.reduceEq, Int.reduceToNat, Int.reducePow, Int.reduceNeg]
        exact hbad (hno he) S hS
      · intro he
        unfold rsS
        simp only [List.cons_append, List.nil_append, List.map_cons, List.map_nil]
        simp -implicitDefEqProofs only [go_sem, ↓reduceIte, Nat.reduceEqDiff, Nat.reduceAdd, Nat.reduceLeDiff, Nat.reduceMul, Nat.reduceSub, Int.reduceLE, Int.reduceLT, Int.reduceEq, Int.reduceToNat, Int.reducePow, Int.reduceNeg]
        refine hK1 _ ?_; clear hK1
        refine bwp_region rfl ?_
        simp -implicitDefEqProofs only [go_sem, ↓reduceIte, Nat.reduceEqDiff, Nat.reduceAdd, Nat.reduceLeDiff, Nat.reduceMul, Nat.reduceSub, Int.reduceLE, Int.reduceLT, Int.reduceEq, Int.reduceToNat, Int.reducePow, Int.reduceNeg, hw]
        refine ⟨hlt, hnext he, Leads.ent [(0, 0), (1, 1)] ⟨by simp [entT, fget, AV.ren, renL, pget], by simp [entM, pinv, mget, renL, AV.ren, pget], rfl, rfl⟩⟩
    · have hln' : ¬ ((rows[i].length : Nat) : Int) = (rows'[i].length : Nat) := by omega
      refine bwp_cond true (by simp [ev, fget, hln']) (fun _ => ?_) (fun h => nomatch h)
      refine bwp_seq fun K hK => bwp_region rfl ?_
      simp -implicitDefEqProofs only [go_sem, ↓reduceIte, Nat.reduceEqDiff, Nat.reduceAdd, Nat.reduceLeDiff, Nat.reduceMul, Nat.reduceSub, Int.reduceLE, Int.reduceLT, Int.reduceEq, Int.reduceToNat, Int.reducePow, Int.reduceNeg]
      refine hK _ ?_; clear hK
      refine bwp_ret ?_
      simp -implicitDefEqProofs only [go_sem, ↓reduceIte, Nat.reduceEqDiff, Nat.reduceAdd, Nat.reduceLeDiff, Nat.reduceMul, Nat.reduceSub, Int.reduceLE, Int.reduceLT, Int.reduceEq, Int.reduceToNat, Int.reducePow, Int.reduceNeg]
      exact hbad (hno (eqL_len eqAtom _ _ hln)) _ rfl
  · have hlt' : ¬ (i : Int) < rows.length := by omega
    refine bwp_seq fun K hK => bwp_region rfl ?_
    simp -implicitDefEqProofs only [go_sem, ↓reduceIte, Nat.reduceEqDiff, Nat.reduceAdd, Nat.reduceLeDiff, Nat.reduceMul, Nat.reduceSub, Int.reduceLE, Int.reduceLT, Int.reduceEq, Int.reduceToNat, Int.reducePow, Int.reduceNeg, hT.len, hlt']
    refine hK _ ?_; clear hK
    refine bwp_cond false (by simp [ev, fget, hlt']) (fun h => nomatch h) (fun _ => ?_)
    refine bwp_leads (S' := rsS [.int .i64 kd, T] [.int .i64 kd', T'] []) (Leads.ent [(0, 0), (1, 1)] ⟨by simp [entT, fget, AV.ren, renL, pget, rsS], by simp [entM, pinv, mget, mset, renL, AV.ren, pget, renL_append, -List.map_map, rsS], rfl, rfl⟩) ?_
    exact bwp_exit (hgood (eqL_all (eqL eqAtom) rows rows' hlr fun j h h' => hp j h h' (by omega)))

set_option maxHeartbeats 4000000 in
theorem rs_inIns {nm nm' : List UInt8} {kd kd' : Int} {I I' A A' : DV} {rows rows' : List (List Ins)} {T T' : DV} (hT : IsSl2 Ins.cells rows T) (hT' : IsSl2 Ins.cells rows' T') {i : Nat} (hi : i < rows.length) (hi' : i < rows'.length) (hln : rows[i].length = rows'[i].length) {Q : Exit → St → Prop}
    (hbad : eqL eqIns rows[i] rows'[i] = false → ∀ S, fget S.t 4 = .d (.bool false) → Q .ret S) (hgood : eqL eqIns rows[i] rows'[i] = true → Q (.exit 4) (rsS [.str nm, I, T, .int .i64 kd, A] [.str nm', I', T', .int .i64 kd', A'] [(6, .d (.int .i64 i))])) :
    BWP Tryd.prog (mbound []) 104 (.loop ac21L1) (rsS [.str nm, I, T, .int .i64 kd, A] [.str nm', I', T', .int .i64 kd', A'] [(7, .d (.int .i64 (0 : Nat))), (6, .d (.int .i64 i))]) Q := by
  obtain ⟨ts, d, rest0, hTe, hd1, hjc, hD⟩ := hT.at i hi
  obtain ⟨ts', d', rest0', hTe', hd1', hjc', hD'⟩ := hT'.at i hi'
  have hiT : (i : Int) < rows.length := by omega
  have hiT' : (i : Int) < rows'.length := by omega
  generalize rows[i] = l at *
  generalize rows'[i] = l' at *
  have hb := hD.1
  refine bwp_countI (fun k => rsS [.str nm, I, T, .int .i64 kd, A] [.str nm', I', T', .int .i64 kd', A'] [(7, .d (.int .i64 (k : Nat))), (6, .d (.int .i64 i))]) (fun k => ∀ j (h : j < l.length) (h' : j < l'.length), j < k → eqIns l[j] l'[j] = true) l.length (fun j _ _ h => absurd h (Nat.not_lt_zero _)) ?_
  intro k hk hp
  unfold ac21L1 rsS
  simp only [List.cons_append, List.nil_append, List.map_cons, List.map_nil]
  refine bwp_seq fun K1 hK1 => ?_
  by_cases hlt : k < l.length
  · have hlt' : (k : Int) < l.length := by omega
    have hlt2 : (k : Int) < l'.length := by omega
    obtain ⟨cs, rest, hDe, hdrop, hcs⟩ := hD.at ins_len (by omega) k hlt
    obtain ⟨cs', rest', hDe', hdrop', hcs'⟩ := hD'.at ins_len (by omega) k (by omega)
    have hw : IntKind.i64.wrap ((k : Int) + 1) = ((k + 1 : Nat) : Int) := by rw [wrap_i64 (by omega) (by omega)]; rfl
    have hno := eqL_at eqIns l l' k hlt (by omega)
    have hnext : eqIns l[k] (l'[k]'(by omega)) = true → ∀ j (h : j < l.length) (h' : j < l'.length), j < k + 1 → eqIns l[j] l'[j] = true := fun he j h h' hj => by
      rcases Nat.lt_succ_iff_lt_or_eq.1 hj with h1 | h1
      · exact hp j h h' h1
      · subst h1; exact he
    generalize l[k] = x at hdrop hno hnext
    generalize l'[k]'(by omega) = y at hdrop' hno hnext
    refine bwp_seq fun K hK => bwp_region rfl ?_
    simp -implicitDefEqProofs only [go_sem, ↓reduceIte, Nat.reduceEqDiff, Nat.reduceAdd, Nat.reduceLeDiff, Nat.reduceMul, Nat.reduceSub, Int.reduceLE, Int.reduceLT, Int.reduceEq, Int.reduceToNat, Int.reducePow, Int.reduceNeg, hTe, hiT, Int.natCast_nonneg, Int.toNat_natCast, hd1, hjc, hD.len, hlt']
    refine hK _ ?_; clear hK
    refine bwp_cond true (by simp [ev, fget, hlt']) (fun _ => ?_) (fun h => nomatch h)
    refine bwp_skip ?_
    refine hK1 _ ?_; clear hK1
    refine bwp_seq fun K1 hK1 => ?_
    refine bwp_block ?_
    refine bwp_seq fun K hK => bwp_region_draw rfl rfl ?_
    simp -implicitDefEqProofs only [go_sem, ↓reduceIte, Nat.reduceEqDiff, Nat.reduceAdd, Nat.reduceLeDiff, Nat.reduceMul, Nat.reduceSub, Int.reduceLE, Int.reduceLT, Int.reduceEq, Int.reduceToNat, Int.reducePow, Int.reduceNeg, hTe, hTe', hiT, hiT', Int.natCast_nonneg, Int.toNat_natCast, hd1, hjc, hd1', hjc', hDe, hDe', hlt', hlt2, hcs, hcs', hdrop, hdrop', Ins.cells]
    refine ⟨rfl, hK _ ?_⟩; clear hK
    cases he : eqIns x y with
    | false =>
      have he' : ¬ (x.kind = y.kind ∧ x.reg = y.reg ∧ x.loc = y.loc ∧ x.a.reg = y.a.reg ∧ x.a.value = y.a.value ∧ x.op = y.op ∧ x.b.reg = y.b.reg ∧ x.b.value = y.b.value ∧ x.n = y.n) := fun h => by
        have : eqIns x y = true := by simp [eqIns, h]
        rw [this] at he
        cases he
      refine bwp_cond true (by simp [ev, fget]; omega) (fun _ => ?_) (fun h => nomatch h)
      refine bwp_seq fun K hK => bwp_region rfl ?_
      simp -implicitDefEqProofs only [go_sem, ↓reduceIte, Nat.reduceEqDiff, Nat.reduceAdd, Nat.reduceLeDiff, Nat.reduceMul, Nat.reduceSub, Int.reduceLE, Int.reduceLT, Int.reduceEq, Int.reduceToNat, Int.reducePow, Int.reduceNeg]
      refine hK _ ?_; clear hK
      refine bwp_ret ?_
      simp -implicitDefEqProofs only [go_sem, ↓reduceIte, Nat.reduceEqDiff, Nat.reduceAdd, Nat.reduceLeDiff, Nat.reduceMul, Nat.reduceSub, Int.reduceLE, Int.reduceLT, Int.reduceEq, Int.reduceToNat, Int.reducePow, Int.reduceNeg]
      exact hbad (hno he) _ rfl
    | true =>
      have he' : x.kind = y.kind ∧ x.reg = y.reg ∧ x.loc = y.loc ∧ x.a.reg = y.a.reg ∧ x.a.value = y.a.value ∧ x.op = y.op ∧ x.b.reg = y.b.reg ∧ x.b.value = y.b.value ∧ x.n = y.n := by simpa [eqIns, and_assoc] using he
      refine bwp_cond false (by simp [ev, fget]; omega) (fun h => nomatch h) (fun _ => ?_)
      refine bwp_skip ?_
      simp -implicitDefEqProofs only [go_sem, ↓reduceIte, Nat.reduceEqDiff, Nat.reduceAdd, Nat.reduceLeDiff, Nat.reduceMul, Nat.reduceSub, Int.reduceLE, Int.reduceLT, Int.reduceEq, Int.reduceToNat, Int.reducePow, Int.reduceNeg]
      refine hK1 _ ?_; clear hK1
      refine bwp_region rfl ?_
      simp -implicitDefEqProofs only [go_sem, ↓reduceIte, Nat.reduceEqDiff, Nat.reduceAdd, Nat.reduceLeDiff, Nat.reduceMul, Nat.reduceSub, Int.reduceLE, Int.reduceLT, Int.reduceEq, Int.reduceToNat, Int.reducePow, Int.reduceNeg, hw]
      refine ⟨hlt, hnext he, Leads.ent [(0, 0), (1, 1)] ⟨by simp [entT, fget, AV.ren, renL, pget], by simp [entM, pinv, mget, renL, AV.ren, hTe, hTe', pget], rfl, rfl⟩⟩
  · have hlt' : ¬ (k : Int) < l.length := by omega
    have hin : k = l.length := by omega
    refine bwp_seq fun K hK => bwp_region rfl ?_
    simp -implicitDefEqProofs only [go_sem, ↓reduceIte, Nat.reduceEqDiff, Nat.reduceAdd, Nat.reduceLeDiff, Nat.reduceMul, Nat.reduceSub, Int.reduceLE, Int.reduceLT, Int.reduceEq, Int.reduceToNat, Int.reducePow, Int.reduceNeg, hTe, hiT, Int.natCast_nonneg, Int.toNat_natCast, hd1, hjc, hD.len, hlt']
    refine hK _ ?_; clear hK
    refine bwp_cond false (by simp [ev, fget, hlt']) (fun h => nomatch h) (fun _ => ?_)
    refine bwp_leads (S' := rsS [.str nm, I, T, .int .i64 kd, A] [.str nm', I', T', .int .i64 kd', A'] [(6, .d (.int .i64 i))]) (Leads.ent [(0, 0), (1, 1)] ⟨by simp [entT, fget, AV.ren, renL, pget, rsS, hTe, hTe'], by simp [entM, pinv, mget, mset, renL, AV.ren, pget, renL_append, -List.map_map, rsS, hTe, hTe'], rfl, rfl⟩) ?_
    exact bwp_exit (hgood (eqL_all eqIns l l' hln fun j h h' => hp j h h' (by omega)))

set_option maxHeartbeats 4000000 in
theorem rs_outIns {nm nm' : List UInt8} {kd kd' : Int} {I I' A A' : DV} {rows rows' : List (List Ins)} {T T' : DV} (hT : IsSl2 Ins.cells rows T) (hT' : IsSl2 Ins.cells rows' T') (hlr : rows.length = rows'.length) {Q : Exit → St → Prop}
    (hbad : eqL (eqL eqIns) rows rows' = false → ∀ S, fget S.t 4 = .d (.bool false) → Q .ret S) (hgood : eqL (eqL eqIns) rows rows' = true → Q (.exit 2) (rsS [.str nm, I, T, .int .i64 kd, A] [.str nm', I', T', .int .i64 kd', A'] [])) :
    BWP Tryd.prog (mbound []) 104 (.loop ac21L2) (rsS [.str nm, I, T, .int .i64 kd, A] [.str nm', I', T', .int .i64 kd', A'] [(6, .d (.int .i64 (0 : Nat)))]) Q := by
  have hb := hT.big
  refine bwp_countI (fun k => rsS [.str nm, I, T, .int .i64 kd, A] [.str nm', I', T', .int .i64 kd', A'] [(6, .d (.int .i64 (k : Nat)))]) (fun k => ∀ j (h : j < rows.length) (h' : j < rows'.length), j < k → eqL eqIns rows[j] rows'[j] = true) rows.length (fun j _ _ h => absurd h (Nat.not_lt_zero _)) ?_
  intro i hi hp
  unfold ac21L2 rsS
  simp only [List.cons_append, List.nil_append, List.map_cons, List.map_nil]
  refine bwp_seq fun K1 hK1 => ?_
  by_cases hlt : i < rows.length
  · have hlt' : (i : Int) < rows.length := by omega
    have hlt2 : (i : Int) < rows'.length := by omega
    have hi2 : i < rows'.length := by omega
    obtain ⟨ts, d, rest0, hTe, hd1, hjc, hD⟩ := hT.at i hlt
    obtain ⟨ts', d', rest0', hTe', hd1', hjc', hD'⟩ := hT'.at i hi2
    have hw : IntKind.i64.wrap ((i : Int) + 1) = ((i + 1 : Nat) : Int) := by rw [wrap_i64 (by omega) (by omega)]; rfl
    have hno := eqL_at (eqL eqIns) rows rows' i hlt hi2
    have hnext : eqL eqIns rows[i] rows'[i] = true → ∀ j (h : j < rows.length) (h' : j < rows'.length), j < i + 1 → eqL eqIns rows[j] rows'[j] = true := fun he j h h' hj => by
      rcases Nat.lt_succ_iff_lt_or_eq.1 hj with h1 | h1
      · exact hp j h h' h1
      · subst h1; exact he
    refine bwp_seq fun K hK => bwp_region rfl ?_
    simp -implicitDefEqProofs only [go_sem, ↓reduceIte, Nat.reduceEqDiff, Nat.reduceAdd, Nat.reduceLeDiff, Nat.reduceMul, Nat.reduceSub, Int.reduceLE, Int.reduceLT, Int.reduceEq, Int.reduceToNat, Int.reducePow, Int.reduceNeg, hT.len, hlt']
    refine hK _ ?_; clear hK
    refine bwp_cond true (by simp [ev, fget, hlt']) (fun _ => ?_) (fun h => nomatch h)
    refine bwp_skip ?_
    refine hK1 _ ?_; clear hK1
    refine bwp_seq fun K1 hK1 => ?_
    refine bwp_block ?_
    refine bwp_seq fun K2 hK2 => ?_
    refine bwp_seq fun K hK => bwp_region_draw rfl rfl ?_
    simp -implicitDefEqProofs only [go_sem, ↓reduceIte, Nat.reduceEqDiff, Nat.reduceAdd, Nat.reduceLeDiff, Nat.reduceMul, Nat.reduceSub, Int.reduceLE, Int.reduceLT, Int.reduceEq, Int.reduceToNat, Int.reducePow, Int.reduceNeg, hTe, hTe', hlt', hlt2, Int.natCast_nonneg, Int.toNat_natCast, hd1, hjc, hd1', hjc', hD.len, hD'.len]
    refine ⟨rfl, hK _ ?_⟩; clear hK
    by_cases hln : rows[i].length = rows'[i].length
    · have hln' : ((rows[i].length : Nat) : Int) = (rows'[i].length : Nat) := by omega
      refine bwp_cond false (by simp [ev, fget, hln']) (fun h => nomatch h) (fun _ => ?_)
      refine bwp_skip ?_
      refine hK2 _ ?_; clear hK2
      refine bwp_seq fun K hK => bwp_region rfl ?_
      simp -implicitDefEqProofs only [go_sem, ↓reduceIte, Nat.reduceEqDiff, Nat.reduceAdd, Nat.reduceLeDiff, Nat.reduceMul, Nat.reduceSub, Int.reduceLE, Int.reduceLT, Int.reduceEq, Int.reduceToNat, Int.reducePow, Int.reduceNeg]
      refine hK _ ?_; clear hK
      refine bwp_block ?_
      refine bwp_leads (S' := rsS [.str nm, I, T, .int .i64 kd, A] [.str nm', I', T', .int .i64 kd', A'] [(7, .d (.int .i64 (0 : Nat))), (6, .d (.int .i64 i))]) (Leads.ent [(0, 0), (1, 1)] ⟨by simp [entT, fget, AV.ren, renL, pget, rsS, hTe, hTe'], by simp [entM, pinv, mget, mset, renL, AV.ren, pget, renL_append, -List.map_map, rsS, hTe, hTe'], rfl, rfl⟩) ?_
      refine rs_inIns hT hT' hlt hi2 hln ?_ ?_
      · intro he S hS
        simp -implicitDefEqProofs only [go_sem, ↓reduceIte, Nat.reduceEqDiff, Nat.reduceAdd, Nat.reduceLeDiff, Nat.reduceMul, Nat.reduceSub, Int.reduceLE, Int.reduceLT, Int.reduceEq, Int.reduceToNat, Int.reducePow, Int.reduceNeg]
        exact hbad (hno he) S hS
      · intro he
        unfold rsS
        simp only [List.cons_append, List.nil_append, List.map_cons, List.map_nil]
        simp -implicitDefEqProofs only [go_sem, ↓reduceIte, Nat.reduceEqDiff, Nat.reduceAdd, Nat.reduceLeDiff, Nat.reduceMul, Nat.reduceSub, Int.reduceLE, Int.reduceLT, Int.reduceEq, Int.reduceToNat, Int.reducePow, Int.reduceNeg]
        refine hK1 _ ?_; clear hK1
        refine bwp_region rfl ?_
        simp -implicitDefEqProofs only [go_sem, ↓reduceIte, Nat.reduceEqDiff, Nat.reduceAdd, Nat.reduceLeDiff, Nat.reduceMul, Nat.reduceSub, Int.reduceLE, Int.reduceLT, Int.reduceEq, Int.reduceToNat, Int.reducePow, Int.reduceNeg, hw]
        refine ⟨hlt, hnext he, Leads.ent [(0, 0), (1, 1)] ⟨by simp [entT, fget, AV.ren, renL, pget], by simp [entM, pinv, mget, renL, AV.ren, pget], rfl, rfl⟩⟩
    · have hln' : ¬ ((rows[i].length : Nat) : Int) = (rows'[i].length : Nat) := by omega
      refine bwp_cond true (by simp [ev, fget, hln']) (fun _ => ?_) (fun h => nomatch h)
      refine bwp_seq fun K hK => bwp_region rfl ?_
      simp -implicitDefEqProofs only [go_sem, ↓reduceIte, Nat.reduceEqDiff, Nat.reduceAdd, Nat.reduceLeDiff, Nat.reduceMul, Nat.reduceSub, Int.reduceLE, Int.reduceLT, Int.reduceEq, Int.reduceToNat, Int.reducePow, Int.reduceNeg]
      refine hK _ ?_; clear hK
      refine bwp_ret ?_
      simp -implicitDefEqProofs only [go_sem, ↓reduceIte, Nat.reduceEqDiff, Nat.reduceAdd, Nat.reduceLeDiff, Nat.reduceMul, Nat.reduceSub, Int.reduceLE, Int.reduceLT, Int.reduceEq, Int.reduceToNat, Int.reducePow, Int.reduceNeg]
      exact hbad (hno (eqL_len eqIns _ _ hln)) _ rfl
  · have hlt' : ¬ (i : Int) < rows.length := by omega
    refine bwp_seq fun K hK => bwp_region rfl ?_
    simp -implicitDefEqProofs only [go_sem, ↓reduceIte, Nat.reduceEqDiff, Nat.reduceAdd, Nat.reduceLeDiff, Nat.reduceMul, Nat.reduceSub, Int.reduceLE, Int.reduceLT, Int.reduceEq, Int.reduceToNat, Int.reducePow, Int.reduceNeg, hT.len, hlt']
    refine hK _ ?_; clear hK
    refine bwp_cond false (by simp [ev, fget, hlt']) (fun h => nomatch h) (fun _ => ?_)
    refine bwp_leads (S' := rsS [.str nm, I, T, .int .i64 kd, A] [.str nm', I', T', .int .i64 kd', A'] []) (Leads.ent [(0, 0), (1, 1)] ⟨by simp [entT, fget, AV.ren, renL, pget, rsS], by simp [entM, pinv, mget, mset, renL, AV.ren, pget, renL_append, -List.map_map, rsS], rfl, rfl⟩) ?_
    exact bwp_exit (hgood (eqL_all (eqL eqIns) rows rows' hlr fun j h h' => hp j h h' (by omega)))

end Go.Proofs.YtgfkgngpganllaaDoor
