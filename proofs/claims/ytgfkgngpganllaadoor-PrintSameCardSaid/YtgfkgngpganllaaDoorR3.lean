/- Which conditions and tests may be, by the document's answer: the wholes. -/
import Derived.Test.YtgfkgngpganllaaDoorR2
namespace Go.Proofs.YtgfkgngpganllaaDoor
open Go Go.Jq
set_option maxRecDepth 100000
set_option linter.unusedSimpArgs false

theorem refIns_eq (x : Ins) : refInsB x = okInsB x := by
  rw [Bool.eq_iff_iff]
  unfold refInsB okInsB eqIns isRegB
  by_cases k1 : x.kind = 1
  · simp [k1]; constructor <;> intro h <;> simp_all
  by_cases k2 : x.kind = 2
  · simp [k2]; constructor <;> intro h <;> (simp_all; try omega)
  by_cases k3 : x.kind = 3
  · simp [k3]
  by_cases k4 : x.kind = 4
  · simp [k4]; constructor <;> intro h <;> (simp_all; try omega)
  by_cases k5 : x.kind = 5
  · simp [k5]; constructor <;> intro h <;> (simp_all; try omega)
  by_cases k6 : x.kind = 6
  · simp [k6]; constructor <;> intro h <;> simp_all
  simp [k1, k2, k3, k4, k5, k6]

theorem refRows {rows : List (List Atom)} {A : DV} (hA : IsSl2 Atom.cells rows A) {kind : Int} {Q : Exit → St → Prop}
    (hbad : rows.any badRowB = true → ∀ S, fget S.t 2 = .d (.bool false) → Q .ret S) (hgood : rows.any badRowB = false → ∀ S, Q (.exit 0) S) :
    BWP Tryd.prog (mbound []) 103 (.loop ac49L1) (rcS [.int .i64 kind, A] [(3, .d (.int .i64 (0 : Nat)))]) Q := by
  have hbig := hA.big
  have hlen' := hA.len
  refine bwp_countI (fun j => rcS [.int .i64 kind, A] [(3, .d (.int .i64 (j : Nat)))]) (fun j => ∀ l ∈ rows.take j, badRowB l = false) rows.length (by simp) ?_
  intro j hj hp
  unfold ac49L1
  refine bwp_seq fun K1 hK1 => ?_
  by_cases hlt : j < rows.length
  · have hlt' : (j : Int) < rows.length := by omega
    obtain ⟨cs2, d, rest2, hTe, hd, hjc, hD⟩ := hA.at j hlt
    have hdl := hD.len
    have hw : IntKind.i64.wrap ((j : Int) + 1) = ((j + 1 : Nat) : Int) := by rw [wrap_i64 (by omega) (by omega)]; rfl
    have hmem : rows[j] ∈ rows := List.getElem_mem hlt
    have htk := take_snoc rows j hlt
    have hrow := @refRow rows A hA kind j hlt
    unfold rcS
    refine bwp_seq fun K hK => bwp_region rfl ?_
    simp -implicitDefEqProofs only [go_sem, ↓reduceIte, Nat.reduceEqDiff, Nat.reduceAdd, Nat.reduceLeDiff, Nat.reduceMul, Nat.reduceSub, Int.reduceLE, Int.reduceLT, Int.reduceEq, Int.reduceToNat, Int.reducePow, Int.reduceNeg, hlen', hlt']
    refine hK _ ?_; clear hK
    refine bwp_cond true (by simp [ev, fget]) (fun _ => ?_) (fun h => nomatch h)
    refine bwp_skip ?_
    refine hK1 _ ?_; clear hK1
    refine bwp_seq fun K1 hK1 => ?_
    refine bwp_block ?_
    refine bwp_seq fun K2 hK2 => ?_
    refine bwp_seq fun K hK => bwp_region rfl ?_
    simp -implicitDefEqProofs only [go_sem, ↓reduceIte, Nat.reduceEqDiff, Nat.reduceAdd, Nat.reduceLeDiff, Nat.reduceMul, Nat.reduceSub, Int.reduceLE, Int.reduceLT, Int.reduceEq, Int.reduceToNat, Int.reducePow, Int.reduceNeg, hTe, hlt', Int.natCast_nonneg, Int.toNat_natCast, Nat.mul_one, hjc, hd, hdl]
    refine hK _ ?_; clear hK
    by_cases h0 : rows[j].length = 0
    · have h0' : (rows[j].length : Int) = 0 := by omega
      refine bwp_cond true (by simp [ev, fget, h0]) (fun _ => ?_) (fun h => nomatch h)
      refine bwp_seq fun K hK => bwp_region rfl ?_
      simp -implicitDefEqProofs only [go_sem, ↓reduceIte, Nat.reduceEqDiff, Nat.reduceAdd, Nat.reduceLeDiff, Nat.reduceMul, Nat.reduceSub, Int.reduceLE, Int.reduceLT, Int.reduceEq, Int.reduceToNat, Int.reducePow, Int.reduceNeg]
      refine hK _ ?_; clear hK
      refine bwp_ret ?_
      simp -implicitDefEqProofs only [go_sem, ↓reduceIte, Nat.reduceEqDiff, Nat.reduceAdd, Nat.reduceLeDiff, Nat.reduceMul, Nat.reduceSub, Int.reduceLE, Int.reduceLT, Int.reduceEq, Int.reduceToNat, Int.reducePow, Int.reduceNeg]
      exact hbad (List.any_eq_true.2 ⟨_, hmem, by simp [badRowB, h0]⟩) _ rfl
    · have h0' : ¬ (rows[j].length : Int) = 0 := by omega
      have hne : ¬ rows[j] = [] := fun h => h0 (by rw [h]; rfl)
      refine bwp_cond false (by simp [ev, fget, hne]) (fun h => nomatch h) (fun _ => ?_)
      refine bwp_skip ?_
      simp -implicitDefEqProofs only [go_sem, ↓reduceIte, Nat.reduceEqDiff, Nat.reduceAdd, Nat.reduceLeDiff, Nat.reduceMul, Nat.reduceSub, Int.reduceLE, Int.reduceLT, Int.reduceEq, Int.reduceToNat, Int.reducePow, Int.reduceNeg]
      refine hK2 _ ?_; clear hK2
      refine bwp_seq fun K hK => bwp_region rfl ?_
      simp -implicitDefEqProofs only [go_sem, ↓reduceIte, Nat.reduceEqDiff, Nat.reduceAdd, Nat.reduceLeDiff, Nat.reduceMul, Nat.reduceSub, Int.reduceLE, Int.reduceLT, Int.reduceEq, Int.reduceToNat, Int.reducePow, Int.reduceNeg]
      refine hK _ ?_; clear hK
      refine bwp_block ?_
      refine bwp_leads (S' := rcS [.int .i64 kind, A] [(4, .d (.int .i64 (0 : Nat))), (3, .d (.int .i64 j))]) (Leads.ent [] ⟨by simp [entT, fget, AV.ren, renL, pget, rcS, hTe], by simp [entM, pinv, mget, mset, renL, AV.ren, pget, renL_append, -List.map_map, rcS, hTe], rfl, rfl⟩) ?_
      refine hrow ?_ ?_
      · intro hb S hS
        simp -implicitDefEqProofs only [go_sem, ↓reduceIte, Nat.reduceEqDiff, Nat.reduceAdd, Nat.reduceLeDiff, Nat.reduceMul, Nat.reduceSub, Int.reduceLE, Int.reduceLT, Int.reduceEq, Int.reduceToNat, Int.reducePow, Int.reduceNeg]
        exact hbad (List.any_eq_true.2 ⟨_, hmem, by simp [badRowB, hb]⟩) _ hS
      · intro hb
        unfold rcS
        simp -implicitDefEqProofs only [go_sem, ↓reduceIte, Nat.reduceEqDiff, Nat.reduceAdd, Nat.reduceLeDiff, Nat.reduceMul, Nat.reduceSub, Int.reduceLE, Int.reduceLT, Int.reduceEq, Int.reduceToNat, Int.reducePow, Int.reduceNeg]
        refine hK1 _ ?_; clear hK1
        refine bwp_region rfl ?_
        simp -implicitDefEqProofs only [go_sem, ↓reduceIte, Nat.reduceEqDiff, Nat.reduceAdd, Nat.reduceLeDiff, Nat.reduceMul, Nat.reduceSub, Int.reduceLE, Int.reduceLT, Int.reduceEq, Int.reduceToNat, Int.reducePow, Int.reduceNeg, hw]
        refine ⟨hlt, ?_, Leads.ent [] ⟨by simp [rcS, entT, fget, AV.ren, pget], by simp [rcS, entM], rfl, rfl⟩⟩
        intro l hl
        rw [htk, List.mem_append] at hl
        rcases hl with hl | hl
        · exact hp l hl
        · simp only [List.mem_singleton] at hl
          subst hl
          simp [badRowB, hb, h0]
  · have hlt' : ¬ (j : Int) < rows.length := by omega
    have hin : j = rows.length := by omega
    subst hin
    rw [List.take_of_length_le (Nat.le_refl _)] at hp
    unfold rcS
    refine bwp_seq fun K hK => bwp_region rfl ?_
    simp -implicitDefEqProofs only [go_sem, ↓reduceIte, Nat.reduceEqDiff, Nat.reduceAdd, Nat.reduceLeDiff, Nat.reduceMul, Nat.reduceSub, Int.reduceLE, Int.reduceLT, Int.reduceEq, Int.reduceToNat, Int.reducePow, Int.reduceNeg, hlen', hlt']
    refine hK _ ?_; clear hK
    refine bwp_cond false (by simp [ev, fget]) (fun h => nomatch h) (fun _ => ?_)
    refine bwp_exit (hgood ?_ _)
    rw [List.any_eq_false]
    intro l hl
    rw [hp l hl]; decide

theorem refCond_pure {rows : List (List Atom)} {A : DV} (hA : IsSl2 Atom.cells rows A) (kind : Int) : Pure Tryd.prog 49 [.agg [.d (.int .i64 kind), .d A]] (.d (.bool (okCondB kind rows))) := by
  have hAl := hA.len
  refine acalls_of Tryd.func49 ac49_ok Tryd.ntmps49 Tryd.results49 rfl ?_
  unfold ac49
  refine bwp_seq fun K hK => bwp_region rfl ?_
  simp -implicitDefEqProofs only [go_sem, ↓reduceIte, Nat.reduceEqDiff, Nat.reduceAdd, Nat.reduceLeDiff, Nat.reduceMul, Nat.reduceSub, Int.reduceLE, Int.reduceLT, Int.reduceEq, Int.reduceToNat, Int.reducePow, Int.reduceNeg]
  refine hK _ ?_; clear hK
  refine bwp_leads (S' := ⟨[(1, .dptr [.int .i64 kind, A]), (2, .d (.bool false))], [], 0⟩) (Leads.frz [] [(0, [.int .i64 kind, A])] ⟨?_, ?_, rfl, rfl, ?_⟩) ?_
  · simp [frzT, fget, AV.cv, cvL, zget, pget]
  · simp [frzM, pinv, zget, mget, cvL, AV.cv]
  · simp [zokFrom, mget, cvL, AV.cv]
  refine bwp_seq fun K1 hK1 => ?_
  refine bwp_seq fun K hK => bwp_region rfl ?_
  simp -implicitDefEqProofs only [go_sem, ↓reduceIte, Nat.reduceEqDiff, Nat.reduceAdd, Nat.reduceLeDiff, Nat.reduceMul, Nat.reduceSub, Int.reduceLE, Int.reduceLT, Int.reduceEq, Int.reduceToNat, Int.reducePow, Int.reduceNeg]
  refine hK _ ?_; clear hK
  by_cases k0 : kind = 0
  · refine bwp_cond true (by simp [ev, fget, k0]) (fun _ => ?_) (fun h => nomatch h)
    refine bwp_seq fun K hK => bwp_region rfl ?_
    simp -implicitDefEqProofs only [go_sem, ↓reduceIte, Nat.reduceEqDiff, Nat.reduceAdd, Nat.reduceLeDiff, Nat.reduceMul, Nat.reduceSub, Int.reduceLE, Int.reduceLT, Int.reduceEq, Int.reduceToNat, Int.reducePow, Int.reduceNeg, hAl]
    refine hK _ ?_; clear hK
    refine bwp_ret ?_
    simp only [go_sem]
    refine aend_ret _ rfl rfl ⟨?_, rfl⟩
    have : ((rows.length : Int) = 0) = (rows.length = 0) := by apply propext; omega
    simp [fget, okCondB, k0]
  refine bwp_cond false (by simp [ev, fget, k0]) (fun h => nomatch h) (fun _ => ?_)
  refine bwp_skip ?_
  refine hK1 _ ?_; clear hK1
  refine bwp_seq fun K1 hK1 => ?_
  refine bwp_seq fun K hK => bwp_region rfl ?_
  have hle : decide ((rows.length : Int) = 0) = decide (rows.length = 0) := by rw [decide_eq_decide]; omega
  have rest : ∀ (t : Fr) (b : Bool), fget t 28 = .d (.bool b) → fget t 1 = .dptr [.int .i64 kind, A] → fget t 2 = .d (.bool false) → b = (decide (kind < 0) || decide (2 < kind) || decide (rows.length = 0)) → K ⟨t, [], 0⟩ := by
    intro t b h28 h1 h2 hb
    refine hK _ ?_; clear hK
    cases b
    · refine bwp_cond false (by simp [ev, fget, h28]) (fun h => nomatch h) (fun _ => ?_)
      refine bwp_skip ?_
      simp -implicitDefEqProofs only [go_sem, ↓reduceIte, Nat.reduceEqDiff, Nat.reduceAdd, Nat.reduceLeDiff, Nat.reduceMul, Nat.reduceSub, Int.reduceLE, Int.reduceLT, Int.reduceEq, Int.reduceToNat, Int.reducePow, Int.reduceNeg]
      refine hK1 _ ?_; clear hK1
      refine bwp_seq fun K2 hK2 => ?_
      refine bwp_seq fun K3 hK3 => ?_
      refine bwp_region rfl ?_
      simp -implicitDefEqProofs only [go_sem, ↓reduceIte, Nat.reduceEqDiff, Nat.reduceAdd, Nat.reduceLeDiff, Nat.reduceMul, Nat.reduceSub, Int.reduceLE, Int.reduceLT, Int.reduceEq, Int.reduceToNat, Int.reducePow, Int.reduceNeg]
      refine hK3 _ ?_; clear hK3
      refine bwp_block ?_
      have hsplit := hb.symm
      simp only [Bool.or_eq_false_iff, decide_eq_false_iff_not] at hsplit
      obtain ⟨⟨n1, n2⟩, n3⟩ := hsplit
      have hkk : (decide (kind = 1) || decide (kind = 2)) = true := by
        simp only [Bool.or_eq_true, decide_eq_true_eq]; omega
      have hpos : 0 < rows.length := by omega
      have hcond : okCondB kind rows = !rows.any badRowB := by
        unfold okCondB
        rw [if_neg k0, hkk]
        simp only [hpos, decide_true, Bool.true_and]
      refine bwp_leads (S' := rcS [.int .i64 kind, A] [(3, .d (.int .i64 (0 : Nat)))]) (Leads.ent [] ⟨by simp [entT, fget, AV.ren, renL, pget, rcS, h1, h2], by simp [entM, pinv, mget, mset, renL, AV.ren, pget, renL_append, -List.map_map, rcS, h1, h2], rfl, rfl⟩) ?_
      refine refRows hA ?_ ?_
      · intro hbad S hS
        simp -implicitDefEqProofs only [go_sem, ↓reduceIte, Nat.reduceEqDiff, Nat.reduceAdd, Nat.reduceLeDiff, Nat.reduceMul, Nat.reduceSub, Int.reduceLE, Int.reduceLT, Int.reduceEq, Int.reduceToNat, Int.reducePow, Int.reduceNeg]
        exact aend_ret (.d (.bool false)) (by simp [resA, resVs, resV, hS]) rfl ⟨by rw [hcond, hbad]; rfl, rfl⟩
      · rintro hgood ⟨t', m', n'⟩
        simp -implicitDefEqProofs only [go_sem, ↓reduceIte, Nat.reduceEqDiff, Nat.reduceAdd, Nat.reduceLeDiff, Nat.reduceMul, Nat.reduceSub, Int.reduceLE, Int.reduceLT, Int.reduceEq, Int.reduceToNat, Int.reducePow, Int.reduceNeg]
        refine hK2 _ ?_; clear hK2
        refine bwp_seq fun K hK => bwp_region (by simp [mbound]) ?_
        simp -implicitDefEqProofs only [go_sem, ↓reduceIte, Nat.reduceEqDiff, Nat.reduceAdd, Nat.reduceLeDiff, Nat.reduceMul, Nat.reduceSub, Int.reduceLE, Int.reduceLT, Int.reduceEq, Int.reduceToNat, Int.reducePow, Int.reduceNeg]
        refine hK _ ?_; clear hK
        refine bwp_ret ?_
        simp only [go_sem]
        refine aend_ret _ rfl rfl ⟨?_, rfl⟩
        simp [fget, hcond, hgood]
    · refine bwp_cond true (by simp [ev, fget, h28]) (fun _ => ?_) (fun h => nomatch h)
      refine bwp_seq fun K hK => bwp_region rfl ?_
      simp -implicitDefEqProofs only [go_sem, ↓reduceIte, Nat.reduceEqDiff, Nat.reduceAdd, Nat.reduceLeDiff, Nat.reduceMul, Nat.reduceSub, Int.reduceLE, Int.reduceLT, Int.reduceEq, Int.reduceToNat, Int.reducePow, Int.reduceNeg]
      refine hK _ ?_; clear hK
      refine bwp_ret ?_
      simp only [go_sem]
      refine aend_ret _ rfl rfl ⟨?_, rfl⟩
      have hk : okCondB kind rows = false := by
        unfold okCondB
        rw [if_neg k0]
        have h := hb.symm
        simp only [Bool.or_eq_true, decide_eq_true_eq] at h
        rcases h with (h | h) | h
        · have h1 : ¬ kind = 1 := by omega
          have h2 : ¬ kind = 2 := by omega
          simp [h1, h2]
        · have h1 : ¬ kind = 1 := by omega
          have h2 : ¬ kind = 2 := by omega
          simp [h1, h2]
        · simp [h]
      simp [fget, hk]
  clear hK
  simp -implicitDefEqProofs only [go_sem, ↓reduceIte, Nat.reduceEqDiff, Nat.reduceAdd, Nat.reduceLeDiff, Nat.reduceMul, Nat.reduceSub, Int.reduceLE, Int.reduceLT, Int.reduceEq, Int.reduceToNat, Int.reducePow, Int.reduceNeg]
  repeat' (first
    | (refine gateK_split (fun hb => ?_) (fun hb => ?_) <;> simp -implicitDefEqProofs only [go_sem, ↓reduceIte, Nat.reduceEqDiff, Nat.reduceAdd, Nat.reduceLeDiff, Nat.reduceMul, Nat.reduceSub, Int.reduceLE, Int.reduceLT, Int.reduceEq, Int.reduceToNat, Int.reducePow, Int.reduceNeg, hb, hAl, hle])
    | (refine dGateK_split (fun hb => ?_) (fun hb => ?_) <;> simp -implicitDefEqProofs only [go_sem, ↓reduceIte, Nat.reduceEqDiff, Nat.reduceAdd, Nat.reduceLeDiff, Nat.reduceMul, Nat.reduceSub, Int.reduceLE, Int.reduceLT, Int.reduceEq, Int.reduceToNat, Int.reducePow, Int.reduceNeg, hb, hAl, hle]))
  all_goals exact rest _ _ rfl rfl rfl (by clear rest hK1; simp_all <;> (intros; omega))

end Go.Proofs.YtgfkgngpganllaaDoor
