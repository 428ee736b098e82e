/- Which conditions and tests may be, by the document's answer, told without a heap. -/
import Derived.Test.YtgfkgngpganllaaDoorR1
namespace Go.Proofs.YtgfkgngpganllaaDoor
open Go Go.Jq
set_option maxRecDepth 100000
set_option linter.unusedSimpArgs false

def refAtomMem (a : Atom) : Bool := decide (a.thread = -1) && decide (a.reg = 0) && isLocB a.loc
def refAtomOwn (a : Atom) : Bool := decide (0 ≤ a.thread) && decide (a.thread ≤ 9) && decide (0 ≤ a.reg) && decide (a.reg ≤ 3) && decide (a.loc = 0)

theorem refAtom_eq (a : Atom) : (!refAtomMem a && !refAtomOwn a) = !okAtomB a := by
  unfold refAtomMem refAtomOwn okAtomB isRegB
  by_cases h : a.thread = -1
  · have h1 : ¬ 0 ≤ a.thread := by omega
    simp [h]
  · have e : decide (a.reg ≤ 3) = decide (a.reg < 4) := by rw [decide_eq_decide]; omega
    simp only [h, decide_false, Bool.false_and, Bool.not_false, Bool.true_and, if_false, e]
    cases decide (0 ≤ a.thread) <;> cases decide (a.thread ≤ 9) <;> cases decide (0 ≤ a.reg) <;> cases decide (a.reg < 4) <;> cases decide (a.loc = 0) <;> rfl

def rcS (cs : List DV) (ex : Fr) : St := ⟨ex ++ [(1, .dptr cs), (2, .d (.bool false))], [], 0⟩

/-- A row's atoms, one by one. -/
theorem refRow {rows : List (List Atom)} {A : DV} (hA : IsSl2 Atom.cells rows A) {kind : Int} {j : Nat} (hj : j < rows.length) {Q : Exit → St → Prop}
    (hbad : (rows[j].any fun a => !okAtomB a) = true → ∀ S, fget S.t 2 = .d (.bool false) → Q .ret S) (hgood : (rows[j].any fun a => !okAtomB a) = false → Q (.exit 2) (rcS [.int .i64 kind, A] [(3, .d (.int .i64 j))])) :
    BWP Tryd.prog (mbound []) 103 (.loop ac49L0) (rcS [.int .i64 kind, A] [(4, .d (.int .i64 (0 : Nat))), (3, .d (.int .i64 j))]) Q := by
  obtain ⟨cs2, d, rest2, hTe, hd, hjc, hD⟩ := hA.at j hj
  have hjl : (j : Int) < rows.length := by omega
  generalize rows[j] = l at hD hbad hgood
  have hbig := hD.1
  have hlen' := hD.len
  refine bwp_countI (fun k => rcS [.int .i64 kind, A] [(4, .d (.int .i64 (k : Nat))), (3, .d (.int .i64 j))]) (fun k => ∀ a ∈ l.take k, okAtomB a = true) l.length (by simp) ?_
  intro k hk hp
  unfold ac49L0 rcS
  refine bwp_seq fun K1 hK1 => ?_
  by_cases hlt : k < l.length
  · have hlt' : (k : Int) < l.length := by omega
    obtain ⟨cs, rest, hIe, hdrop, hcs⟩ := hD.at atom_len (by omega) k hlt
    have hw : IntKind.i64.wrap ((k : Int) + 1) = ((k + 1 : Nat) : Int) := by rw [wrap_i64 (by omega) (by omega)]; rfl
    have hl4 : ∀ (n : Nat), (4 ≤ (n + 1 + 1 + 1 + 1)) = True := fun n => by simp
    have hmem : l[k] ∈ l := List.getElem_mem hlt
    have htk := take_snoc l k hlt
    generalize l[k] = a at *
    have hae := refAtom_eq a
    refine bwp_seq fun K hK => bwp_region rfl ?_
    simp -implicitDefEqProofs only [go_sem, ↓reduceIte, Nat.reduceEqDiff, Nat.reduceAdd, Nat.reduceLeDiff, Nat.reduceMul, Nat.reduceSub, Int.reduceLE, Int.reduceLT, Int.reduceEq, Int.reduceToNat, Int.reducePow, Int.reduceNeg, hTe, hjl, Int.natCast_nonneg, Int.toNat_natCast, Nat.mul_one, hjc, hd, hlen', hlt']
    refine hK _ ?_; clear hK
    refine bwp_cond true (by simp [ev, fget]) (fun _ => ?_) (fun h => nomatch h)
    refine bwp_skip ?_
    refine hK1 _ ?_; clear hK1
    refine bwp_seq fun K1 hK1 => ?_
    refine bwp_block ?_
    refine bwp_seq fun K hK => bwp_region rfl ?_
    simp -implicitDefEqProofs only [go_sem, ↓reduceIte, Nat.reduceEqDiff, Nat.reduceAdd, Nat.reduceLeDiff, Nat.reduceMul, Nat.reduceSub, Int.reduceLE, Int.reduceLT, Int.reduceEq, Int.reduceToNat, Int.reducePow, Int.reduceNeg, hTe, hjl, Nat.mul_one, hjc, hd, hIe, hlt', Int.natCast_nonneg, Int.toNat_natCast, hcs, hdrop, Atom.cells, hl4]
    refine hK _ ?_; clear hK
    refine bwp_seq fun K hK => bwp_region rfl ?_
    have fin : ∀ t : Fr, fget t 6 = .d (.bool (refAtomMem a)) → fget t 5 = .ptr 0 0 → fget t 1 = .dptr [.int .i64 kind, A] → fget t 2 = .d (.bool false) → fget t 3 = .d (.int .i64 j) → fget t 4 = .d (.int .i64 k) → K ⟨t, [(0, [.d (.int .i64 a.thread), .d (.int .i64 a.reg), .d (.int .i64 a.loc), .d (.int .i64 a.value)])], 1⟩ := by
      intro t h6 h5 h1 h2 h3 h4
      refine hK _ ?_; clear hK
      refine bwp_seq fun K hK => bwp_region rfl ?_
      have fin2 : ∀ t : Fr, fget t 6 = .d (.bool (refAtomMem a)) → fget t 7 = .d (.bool (refAtomOwn a)) → fget t 1 = .dptr [.int .i64 kind, A] → fget t 2 = .d (.bool false) → fget t 3 = .d (.int .i64 j) → fget t 4 = .d (.int .i64 k) → K ⟨t, [(0, [.d (.int .i64 a.thread), .d (.int .i64 a.reg), .d (.int .i64 a.loc), .d (.int .i64 a.value)])], 1⟩ := by
        intro t h6 h7 h1 h2 h3 h4
        refine hK _ ?_; clear hK
        refine bwp_seq fun K hK => bwp_region rfl ?_
        have fin3 : ∀ (t : Fr) (b : Bool), fget t 102 = .d (.bool b) → b = !okAtomB a → fget t 1 = .dptr [.int .i64 kind, A] → fget t 2 = .d (.bool false) → fget t 3 = .d (.int .i64 j) → fget t 4 = .d (.int .i64 k) → K ⟨t, [(0, [.d (.int .i64 a.thread), .d (.int .i64 a.reg), .d (.int .i64 a.loc), .d (.int .i64 a.value)])], 1⟩ := by
          intro t b h102 hb h1 h2 h3 h4
          refine hK _ ?_; clear hK
          cases hok : okAtomB a
          · rw [hok] at hb
            subst hb
            refine bwp_cond true (by simp [ev, fget, h102]) (fun _ => ?_) (fun h => nomatch h)
            refine bwp_seq fun K hK => bwp_region rfl ?_
            simp -implicitDefEqProofs only [go_sem, ↓reduceIte, Nat.reduceEqDiff, Nat.reduceAdd, Nat.reduceLeDiff, Nat.reduceMul, Nat.reduceSub, Int.reduceLE, Int.reduceLT, Int.reduceEq, Int.reduceToNat, Int.reducePow, Int.reduceNeg]
            refine hK _ ?_; clear hK
            refine bwp_ret ?_
            simp -implicitDefEqProofs only [go_sem, ↓reduceIte, Nat.reduceEqDiff, Nat.reduceAdd, Nat.reduceLeDiff, Nat.reduceMul, Nat.reduceSub, Int.reduceLE, Int.reduceLT, Int.reduceEq, Int.reduceToNat, Int.reducePow, Int.reduceNeg]
            exact hbad (List.any_eq_true.2 ⟨a, hmem, by simp [hok]⟩) _ rfl
          · rw [hok] at hb
            subst hb
            refine bwp_cond false (by simp [ev, fget, h102]) (fun h => nomatch h) (fun _ => ?_)
            refine bwp_skip ?_
            simp -implicitDefEqProofs only [go_sem, ↓reduceIte, Nat.reduceEqDiff, Nat.reduceAdd, Nat.reduceLeDiff, Nat.reduceMul, Nat.reduceSub, Int.reduceLE, Int.reduceLT, Int.reduceEq, Int.reduceToNat, Int.reducePow, Int.reduceNeg]
            refine hK1 _ ?_; clear hK1
            refine bwp_region rfl ?_
            simp -implicitDefEqProofs only [go_sem, ↓reduceIte, Nat.reduceEqDiff, Nat.reduceAdd, Nat.reduceLeDiff, Nat.reduceMul, Nat.reduceSub, Int.reduceLE, Int.reduceLT, Int.reduceEq, Int.reduceToNat, Int.reducePow, Int.reduceNeg, h4, hw]
            refine ⟨hlt, ?_, Leads.ent [] ⟨by simp [entT, fget, AV.ren, pget, h1, h2, h3], by simp [entM], rfl, rfl⟩⟩
            intro b hb
            rw [htk, List.mem_append] at hb
            rcases hb with hb | hb
            · exact hp b hb
            · simp only [List.mem_singleton] at hb; rw [hb]; exact hok
        clear hK
        cases g1 : refAtomMem a
        · rw [g1] at h6 hae
          cases g2 : refAtomOwn a
          · rw [g2] at h7 hae
            simp -implicitDefEqProofs only [go_sem, ↓reduceIte, Nat.reduceEqDiff, Nat.reduceAdd, Nat.reduceLeDiff, Nat.reduceMul, Nat.reduceSub, Int.reduceLE, Int.reduceLT, Int.reduceEq, Int.reduceToNat, Int.reducePow, Int.reduceNeg, h6, h7]
            exact fin3 _ true rfl (by rw [← hae]; rfl) h1 h2 h3 h4
          · rw [g2] at h7 hae
            simp -implicitDefEqProofs only [go_sem, ↓reduceIte, Nat.reduceEqDiff, Nat.reduceAdd, Nat.reduceLeDiff, Nat.reduceMul, Nat.reduceSub, Int.reduceLE, Int.reduceLT, Int.reduceEq, Int.reduceToNat, Int.reducePow, Int.reduceNeg, h6, h7]
            exact fin3 _ false rfl (by rw [← hae]; rfl) h1 h2 h3 h4
        · rw [g1] at h6 hae
          simp -implicitDefEqProofs only [go_sem, ↓reduceIte, Nat.reduceEqDiff, Nat.reduceAdd, Nat.reduceLeDiff, Nat.reduceMul, Nat.reduceSub, Int.reduceLE, Int.reduceLT, Int.reduceEq, Int.reduceToNat, Int.reducePow, Int.reduceNeg, h6]
          exact fin3 _ false rfl (by rw [← hae]; simp) h1 h2 h3 h4
      clear hK
      simp -implicitDefEqProofs only [go_sem, ↓reduceIte, Nat.reduceEqDiff, Nat.reduceAdd, Nat.reduceLeDiff, Nat.reduceMul, Nat.reduceSub, Int.reduceLE, Int.reduceLT, Int.reduceEq, Int.reduceToNat, Int.reducePow, Int.reduceNeg, h5]
      repeat' (first
        | (refine gateK_split (fun hb => ?_) (fun hb => ?_) <;> simp -implicitDefEqProofs only [go_sem, ↓reduceIte, Nat.reduceEqDiff, Nat.reduceAdd, Nat.reduceLeDiff, Nat.reduceMul, Nat.reduceSub, Int.reduceLE, Int.reduceLT, Int.reduceEq, Int.reduceToNat, Int.reducePow, Int.reduceNeg, hb, h5])
        | (refine dGateK_split (fun hb => ?_) (fun hb => ?_) <;> simp -implicitDefEqProofs only [go_sem, ↓reduceIte, Nat.reduceEqDiff, Nat.reduceAdd, Nat.reduceLeDiff, Nat.reduceMul, Nat.reduceSub, Int.reduceLE, Int.reduceLT, Int.reduceEq, Int.reduceToNat, Int.reducePow, Int.reduceNeg, hb, h5]))
      all_goals exact fin2 _ (by simp [fget, h6]) (by simp [fget, refAtomOwn, *]) (by simp [fget, h1]) (by simp [fget, h2]) (by simp [fget, h3]) (by simp [fget, h4])
    clear hK
    simp -implicitDefEqProofs only [go_sem, ↓reduceIte, Nat.reduceEqDiff, Nat.reduceAdd, Nat.reduceLeDiff, Nat.reduceMul, Nat.reduceSub, Int.reduceLE, Int.reduceLT, Int.reduceEq, Int.reduceToNat, Int.reducePow, Int.reduceNeg]
    repeat' (first
      | (refine gateK_split (fun hb => ?_) (fun hb => ?_) <;> simp -implicitDefEqProofs only [go_sem, ↓reduceIte, Nat.reduceEqDiff, Nat.reduceAdd, Nat.reduceLeDiff, Nat.reduceMul, Nat.reduceSub, Int.reduceLE, Int.reduceLT, Int.reduceEq, Int.reduceToNat, Int.reducePow, Int.reduceNeg, hb])
      | (refine dGateK_split (fun hb => ?_) (fun hb => ?_) <;> simp -implicitDefEqProofs only [go_sem, ↓reduceIte, Nat.reduceEqDiff, Nat.reduceAdd, Nat.reduceLeDiff, Nat.reduceMul, Nat.reduceSub, Int.reduceLE, Int.reduceLT, Int.reduceEq, Int.reduceToNat, Int.reducePow, Int.reduceNeg, hb])
      | (refine callK_pure (refNamed_pure a.loc) rfl rfl ?_; simp -implicitDefEqProofs only [go_sem, ↓reduceIte, Nat.reduceEqDiff, Nat.reduceAdd, Nat.reduceLeDiff, Nat.reduceMul, Nat.reduceSub, Int.reduceLE, Int.reduceLT, Int.reduceEq, Int.reduceToNat, Int.reducePow, Int.reduceNeg])
      | (refine dCallK_pure (refNamed_pure a.loc) rfl rfl ?_; simp -implicitDefEqProofs only [go_sem, ↓reduceIte, Nat.reduceEqDiff, Nat.reduceAdd, Nat.reduceLeDiff, Nat.reduceMul, Nat.reduceSub, Int.reduceLE, Int.reduceLT, Int.reduceEq, Int.reduceToNat, Int.reducePow, Int.reduceNeg]))
    all_goals exact fin _ (by simp [fget, refAtomMem, *]) rfl (by simp [fget, hTe]) rfl rfl rfl
  · have hlt' : ¬ (k : Int) < l.length := by omega
    have hin : k = l.length := by omega
    subst hin
    rw [List.take_of_length_le (Nat.le_refl _)] at hp
    refine bwp_seq fun K hK => bwp_region rfl ?_
    simp -implicitDefEqProofs only [go_sem, ↓reduceIte, Nat.reduceEqDiff, Nat.reduceAdd, Nat.reduceLeDiff, Nat.reduceMul, Nat.reduceSub, Int.reduceLE, Int.reduceLT, Int.reduceEq, Int.reduceToNat, Int.reducePow, Int.reduceNeg, hTe, hjl, Int.natCast_nonneg, Int.toNat_natCast, Nat.mul_one, hjc, hd, hlen', hlt']
    refine hK _ ?_; clear hK
    refine bwp_cond false (by simp [ev, fget]) (fun h => nomatch h) (fun _ => ?_)
    refine bwp_leads (S' := rcS [.int .i64 kind, A] [(3, .d (.int .i64 j))]) (Leads.ent [] ⟨by simp [entT, fget, AV.ren, renL, pget, rcS, hTe], by simp [entM, pinv, mget, mset, renL, AV.ren, pget, renL_append, -List.map_map, rcS, hTe], rfl, rfl⟩) ?_
    refine bwp_exit (hgood ?_)
    rw [List.any_eq_false]
    intro a ha
    rw [hp a ha]; decide

end Go.Proofs.YtgfkgngpganllaaDoor
