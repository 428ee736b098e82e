/- PrintTells comes to true, whatever it is given. -/
import Derived.Test.YtgfkgngpganllaaDoorV4
import Derived.Test.YtgfkgngpganllaaDoorU3
import Derived.Test.YtgfkgngpganllaaDoorP8
import Derived.Test.YtgfkgngpganllaaDoorXH
namespace Go.Proofs.YtgfkgngpganllaaDoor
open Go Go.Jq
set_option maxRecDepth 100000
set_option linter.unusedSimpArgs false

/-- A test's numbers are numbers of 64 bits. -/
structure RangeT (t : Test) : Prop where
  name : t.name.length ≤ 9223372036854775807
  values : ∀ x ∈ t.inits, I64 x.value
  ins : ∀ l ∈ t.threads, ∀ x ∈ l, I64i x
  rows : ∀ l ∈ t.rows, ∀ a ∈ l, I64a a

theorem RangeT.few {t : Test} (h : RangeT t) (hf : fewB t = true) : FewT t := by
  simp only [fewB, Bool.and_eq_true, decide_eq_true_eq, List.all_eq_true] at hf
  obtain ⟨⟨⟨⟨⟨h1, h2⟩, h3⟩, h4⟩, h5⟩, h6⟩ := hf
  exact ⟨by omega, by omega, h.values, by omega, fun l hl => ⟨h5 l hl, h.ins l hl⟩, h4, fun l hl => ⟨h6 l hl, h.rows l hl⟩⟩

def IsCond (kd : Int) (rows : List (List Atom)) (cs : List DV) : Prop := ∃ A, cs = [.int .i64 kd, A] ∧ IsSl2 Atom.cells rows A

set_option maxHeartbeats 8000000 in
theorem printTells_pure {t u : Test} {x : Ins} {kd : Int} {rows : List (List Atom)} {cs cu ci cc : List DV} (hT : IsTest t cs) (qT : RangeT t) (hU : IsTest u cu) (qU : RangeT u) (hx : ci = x.cells) (qx : I64i x) (hc : IsCond kd rows cc) (qc : ∀ l ∈ rows, ∀ a ∈ l, I64a a) :
    Pure Tryd.prog 7 [.agg (cs.map .d), .agg (cu.map .d), .agg (ci.map .d), .agg (cc.map .d)] (.d (.bool true)) := by
  subst hx
  obtain ⟨A, rfl, hA⟩ := hc
  have hN : ∀ {α : Type} (f : α → List DV), IsSl f [] .nsl := fun f => ⟨by simp, .inl ⟨rfl, rfl⟩⟩
  have h3 : IsTest ⟨[], [], [], kd, rows⟩ [.str [], .nsl, .nsl, .int .i64 kd, A] := ⟨.nsl, .nsl, A, rfl, hN _, ⟨[], hN _, trivial⟩, hA⟩
  have f1 := few_pure hT
  have f2 := few_pure hU
  have f3 := few_pure h3
  have k1 := ok_pure hT qT.name
  have k2 := refTest_pure hT qT.name
  have k3 := ins_pure qx
  have k4 := refInsT_pure qx
  have k5 := same_pure hT hU
  have k6 := refSame_pure hT hU
  have k7 := same_pure hT hT
  have hself : sameB t t = true := (sameB_iff t t).2 rfl
  rw [hself] at k7
  have p1 : fewB t = true → Pure Tryd.prog 11 [.agg (cs.map .d)] (.d (.str (testT t))) := fun h => test_pure hT (qT.few h)
  have p2 : fewB t = true → Pure Tryd.prog 16 [.agg (cs.map .d)] (.d (.str (testT t))) := fun h => refPrint_pure hT (qT.few h)
  have p3 : fewB ⟨[], [], [], kd, rows⟩ = true → Pure Tryd.prog 14 [.agg [.d (.int .i64 kd), .d A]] (.d (.str (condT kd rows))) ∧ Pure Tryd.prog 20 [.agg [.d (.int .i64 kd), .d A]] (.d (.str (condT kd rows))) := fun h => by
    simp only [fewB, Bool.and_eq_true, decide_eq_true_eq, List.all_eq_true] at h
    have hf : FewC rows := ⟨h.1.1.2, fun l hl => ⟨h.2 l hl, qc l hl⟩⟩
    exact ⟨cond_pure hA hf, refCondT_pure hA hf⟩
  obtain ⟨I, T, A1, rfl, _⟩ := hT
  obtain ⟨I', T', A1', rfl, _⟩ := hU
  unfold Ins.cells at k3 k4 ⊢
  simp only [List.map_cons, List.map_nil] at f1 f2 f3 k1 k2 k3 k4 k5 k6 k7 p1 p2 ⊢
  generalize fewB t = b1 at *
  generalize fewB u = b2 at *
  generalize fewB ⟨[], [], [], kd, rows⟩ = b3 at *
  generalize okB t = ok at *
  generalize sameB t u = sm at *
  generalize testT t = txt at *
  generalize insT x = itx at *
  generalize condT kd rows = ctx at *
  refine acalls_of Tryd.func7 ac7_ok Tryd.ntmps7 Tryd.results7 rfl ?_
  unfold ac7
  refine bwp_seq fun K hK => bwp_region rfl ?_
  simp -implicitDefEqProofs only [go_sem, ↓reduceIte, Nat.reduceEqDiff, Nat.reduceAdd, Nat.reduceLeDiff, Nat.reduceMul, Nat.reduceSub, Int.reduceLE, Int.reduceLT, Int.reduceEq, Int.reduceToNat, Int.reducePow, Int.reduceNeg]
  refine hK _ ?_; clear hK
  refine bwp_seq fun K1 hK1 => ?_
  have no : ∀ S : St, decide (mbound [] ≤ S.n) = true → BWP Tryd.prog (mbound []) 67 ((ACode.region false [⟨some 23, .callf 10 [], none⟩, ⟨some 8, .mv (.t 23), none⟩] []).seq ACode.ret) S (Exit.thenA K1 (AEnd Tryd.prog #[.tmp 8] (mbound []) fun r m' => r = .d (.bool true) ∧ m' = [])) := by
    intro S hn
    refine bwp_seq fun K hK => bwp_region hn ?_
    simp -implicitDefEqProofs only [go_sem, ↓reduceIte, Nat.reduceEqDiff, Nat.reduceAdd, Nat.reduceLeDiff, Nat.reduceMul, Nat.reduceSub, Int.reduceLE, Int.reduceLT, Int.reduceEq, Int.reduceToNat, Int.reducePow, Int.reduceNeg]
    refine callK_pure awake_pure rfl rfl ?_
    simp -implicitDefEqProofs only [go_sem, ↓reduceIte, Nat.reduceEqDiff, Nat.reduceAdd, Nat.reduceLeDiff, Nat.reduceMul, Nat.reduceSub, Int.reduceLE, Int.reduceLT, Int.reduceEq, Int.reduceToNat, Int.reducePow, Int.reduceNeg]
    refine hK _ ?_; clear hK
    refine bwp_ret ?_
    simp only [go_sem]
    refine aend_ret _ rfl rfl ⟨?_, rfl⟩
    simp [fget]
  refine bwp_seq fun K hK => bwp_region rfl ?_
  simp -implicitDefEqProofs only [go_sem, ↓reduceIte, Nat.reduceEqDiff, Nat.reduceAdd, Nat.reduceLeDiff, Nat.reduceMul, Nat.reduceSub, Int.reduceLE, Int.reduceLT, Int.reduceEq, Int.reduceToNat, Int.reducePow, Int.reduceNeg]
  refine callK_pure f1 rfl rfl ?_
  cases b1 with
  | false =>
    simp -implicitDefEqProofs only [go_sem, ↓reduceIte, Nat.reduceEqDiff, Nat.reduceAdd, Nat.reduceLeDiff, Nat.reduceMul, Nat.reduceSub, Int.reduceLE, Int.reduceLT, Int.reduceEq, Int.reduceToNat, Int.reducePow, Int.reduceNeg]
    refine hK _ ?_; clear hK
    refine bwp_cond true (by simp [ev, fget]) (fun _ => ?_) (fun h => nomatch h)
    exact no _ rfl
  | true =>
    simp -implicitDefEqProofs only [go_sem, ↓reduceIte, Nat.reduceEqDiff, Nat.reduceAdd, Nat.reduceLeDiff, Nat.reduceMul, Nat.reduceSub, Int.reduceLE, Int.reduceLT, Int.reduceEq, Int.reduceToNat, Int.reducePow, Int.reduceNeg]
    refine callK_pure f2 rfl rfl ?_
    cases b2 with
    | false =>
      simp -implicitDefEqProofs only [go_sem, ↓reduceIte, Nat.reduceEqDiff, Nat.reduceAdd, Nat.reduceLeDiff, Nat.reduceMul, Nat.reduceSub, Int.reduceLE, Int.reduceLT, Int.reduceEq, Int.reduceToNat, Int.reducePow, Int.reduceNeg]
      refine hK _ ?_; clear hK
      refine bwp_cond true (by simp [ev, fget]) (fun _ => ?_) (fun h => nomatch h)
      exact no _ rfl
    | true =>
      simp -implicitDefEqProofs only [go_sem, ↓reduceIte, Nat.reduceEqDiff, Nat.reduceAdd, Nat.reduceLeDiff, Nat.reduceMul, Nat.reduceSub, Int.reduceLE, Int.reduceLT, Int.reduceEq, Int.reduceToNat, Int.reducePow, Int.reduceNeg]
      refine callK_pure f3 rfl rfl ?_
      cases b3 with
      | false =>
        simp -implicitDefEqProofs only [go_sem, ↓reduceIte, Nat.reduceEqDiff, Nat.reduceAdd, Nat.reduceLeDiff, Nat.reduceMul, Nat.reduceSub, Int.reduceLE, Int.reduceLT, Int.reduceEq, Int.reduceToNat, Int.reducePow, Int.reduceNeg]
        refine hK _ ?_; clear hK
        refine bwp_cond true (by simp [ev, fget]) (fun _ => ?_) (fun h => nomatch h)
        exact no _ rfl
      | true =>
        have p1 := p1 rfl
        have p2 := p2 rfl
        obtain ⟨p3, p4⟩ := p3 rfl
        simp -implicitDefEqProofs only [go_sem, ↓reduceIte, Nat.reduceEqDiff, Nat.reduceAdd, Nat.reduceLeDiff, Nat.reduceMul, Nat.reduceSub, Int.reduceLE, Int.reduceLT, Int.reduceEq, Int.reduceToNat, Int.reducePow, Int.reduceNeg]
        refine hK _ ?_; clear hK
        refine bwp_cond false (by simp [ev, fget]) (fun h => nomatch h) (fun _ => ?_)
        refine bwp_skip ?_
        refine hK1 _ ?_; clear hK1
        refine bwp_seq fun K hK => bwp_region_draw rfl rfl ?_
        simp -implicitDefEqProofs only [go_sem, ↓reduceIte, Nat.reduceEqDiff, Nat.reduceAdd, Nat.reduceLeDiff, Nat.reduceMul, Nat.reduceSub, Int.reduceLE, Int.reduceLT, Int.reduceEq, Int.reduceToNat, Int.reducePow, Int.reduceNeg]
        repeat' (first
          | (refine gateK_split (fun hb => ?_) (fun hb => ?_) <;> simp -implicitDefEqProofs only [go_sem, ↓reduceIte, Nat.reduceEqDiff, Nat.reduceAdd, Nat.reduceLeDiff, Nat.reduceMul, Nat.reduceSub, Int.reduceLE, Int.reduceLT, Int.reduceEq, Int.reduceToNat, Int.reducePow, Int.reduceNeg, hb, beq_self_eq_true, bne_self_eq_false])
          | (refine dGateK_split (fun hb => ?_) (fun hb => ?_) <;> simp -implicitDefEqProofs only [go_sem, ↓reduceIte, Nat.reduceEqDiff, Nat.reduceAdd, Nat.reduceLeDiff, Nat.reduceMul, Nat.reduceSub, Int.reduceLE, Int.reduceLT, Int.reduceEq, Int.reduceToNat, Int.reducePow, Int.reduceNeg, hb, beq_self_eq_true, bne_self_eq_false])
          | (refine callK_pure (k1) rfl rfl ?_; simp -implicitDefEqProofs only [go_sem, ↓reduceIte, Nat.reduceEqDiff, Nat.reduceAdd, Nat.reduceLeDiff, Nat.reduceMul, Nat.reduceSub, Int.reduceLE, Int.reduceLT, Int.reduceEq, Int.reduceToNat, Int.reducePow, Int.reduceNeg, beq_self_eq_true, bne_self_eq_false])
          | (refine dCallK_pure (k1) rfl rfl ?_; simp -implicitDefEqProofs only [go_sem, ↓reduceIte, Nat.reduceEqDiff, Nat.reduceAdd, Nat.reduceLeDiff, Nat.reduceMul, Nat.reduceSub, Int.reduceLE, Int.reduceLT, Int.reduceEq, Int.reduceToNat, Int.reducePow, Int.reduceNeg, beq_self_eq_true, bne_self_eq_false])
          | (refine callK_pure (k2) rfl rfl ?_; simp -implicitDefEqProofs only [go_sem, ↓reduceIte, Nat.reduceEqDiff, Nat.reduceAdd, Nat.reduceLeDiff, Nat.reduceMul, Nat.reduceSub, Int.reduceLE, Int.reduceLT, Int.reduceEq, Int.reduceToNat, Int.reducePow, Int.reduceNeg, beq_self_eq_true, bne_self_eq_false])
          | (refine dCallK_pure (k2) rfl rfl ?_; simp -implicitDefEqProofs only [go_sem, ↓reduceIte, Nat.reduceEqDiff, Nat.reduceAdd, Nat.reduceLeDiff, Nat.reduceMul, Nat.reduceSub, Int.reduceLE, Int.reduceLT, Int.reduceEq, Int.reduceToNat, Int.reducePow, Int.reduceNeg, beq_self_eq_true, bne_self_eq_false])
          | (refine callK_pure (p1) rfl rfl ?_; simp -implicitDefEqProofs only [go_sem, ↓reduceIte, Nat.reduceEqDiff, Nat.reduceAdd, Nat.reduceLeDiff, Nat.reduceMul, Nat.reduceSub, Int.reduceLE, Int.reduceLT, Int.reduceEq, Int.reduceToNat, Int.reducePow, Int.reduceNeg, beq_self_eq_true, bne_self_eq_false])
          | (refine dCallK_pure (p1) rfl rfl ?_; simp -implicitDefEqProofs only [go_sem, ↓reduceIte, Nat.reduceEqDiff, Nat.reduceAdd, Nat.reduceLeDiff, Nat.reduceMul, Nat.reduceSub, Int.reduceLE, Int.reduceLT, Int.reduceEq, Int.reduceToNat, Int.reducePow, Int.reduceNeg, beq_self_eq_true, bne_self_eq_false])
          | (refine callK_pure (p2) rfl rfl ?_; simp -implicitDefEqProofs only [go_sem, ↓reduceIte, Nat.reduceEqDiff, Nat.reduceAdd, Nat.reduceLeDiff, Nat.reduceMul, Nat.reduceSub, Int.reduceLE, Int.reduceLT, Int.reduceEq, Int.reduceToNat, Int.reducePow, Int.reduceNeg, beq_self_eq_true, bne_self_eq_false])
          | (refine dCallK_pure (p2) rfl rfl ?_; simp -implicitDefEqProofs only [go_sem, ↓reduceIte, Nat.reduceEqDiff, Nat.reduceAdd, Nat.reduceLeDiff, Nat.reduceMul, Nat.reduceSub, Int.reduceLE, Int.reduceLT, Int.reduceEq, Int.reduceToNat, Int.reducePow, Int.reduceNeg, beq_self_eq_true, bne_self_eq_false])
          | (refine callK_pure (k3) rfl rfl ?_; simp -implicitDefEqProofs only [go_sem, ↓reduceIte, Nat.reduceEqDiff, Nat.reduceAdd, Nat.reduceLeDiff, Nat.reduceMul, Nat.reduceSub, Int.reduceLE, Int.reduceLT, Int.reduceEq, Int.reduceToNat, Int.reducePow, Int.reduceNeg, beq_self_eq_true, bne_self_eq_false])
          | (refine dCallK_pure (k3) rfl rfl ?_; simp -implicitDefEqProofs only [go_sem, ↓reduceIte, Nat.reduceEqDiff, Nat.reduceAdd, Nat.reduceLeDiff, Nat.reduceMul, Nat.reduceSub, Int.reduceLE, Int.reduceLT, Int.reduceEq, Int.reduceToNat, Int.reducePow, Int.reduceNeg, beq_self_eq_true, bne_self_eq_false])
          | (refine callK_pure (k4) rfl rfl ?_; simp -implicitDefEqProofs only [go_sem, ↓reduceIte, Nat.reduceEqDiff, Nat.reduceAdd, Nat.reduceLeDiff, Nat.reduceMul, Nat.reduceSub, Int.reduceLE, Int.reduceLT, Int.reduceEq, Int.reduceToNat, Int.reducePow, Int.reduceNeg, beq_self_eq_true, bne_self_eq_false])
          | (refine dCallK_pure (k4) rfl rfl ?_; simp -implicitDefEqProofs only [go_sem, ↓reduceIte, Nat.reduceEqDiff, Nat.reduceAdd, Nat.reduceLeDiff, Nat.reduceMul, Nat.reduceSub, Int.reduceLE, Int.reduceLT, Int.reduceEq, Int.reduceToNat, Int.reducePow, Int.reduceNeg, beq_self_eq_true, bne_self_eq_false])
          | (refine callK_pure (p3) rfl rfl ?_; simp -implicitDefEqProofs only [go_sem, ↓reduceIte, Nat.reduceEqDiff, Nat.reduceAdd, Nat.reduceLeDiff, Nat.reduceMul, Nat.reduceSub, Int.reduceLE, Int.reduceLT, Int.reduceEq, Int.reduceToNat, Int.reducePow, Int.reduceNeg, beq_self_eq_true, bne_self_eq_false])
          | (refine dCallK_pure (p3) rfl rfl ?_; simp -implicitDefEqProofs only [go_sem, ↓reduceIte, Nat.reduceEqDiff, Nat.reduceAdd, Nat.reduceLeDiff, Nat.reduceMul, Nat.reduceSub, Int.reduceLE, Int.reduceLT, Int.reduceEq, Int.reduceToNat, Int.reducePow, Int.reduceNeg, beq_self_eq_true, bne_self_eq_false])
          | (refine callK_pure (p4) rfl rfl ?_; simp -implicitDefEqProofs only [go_sem, ↓reduceIte, Nat.reduceEqDiff, Nat.reduceAdd, Nat.reduceLeDiff, Nat.reduceMul, Nat.reduceSub, Int.reduceLE, Int.reduceLT, Int.reduceEq, Int.reduceToNat, Int.reducePow, Int.reduceNeg, beq_self_eq_true, bne_self_eq_false])
          | (refine dCallK_pure (p4) rfl rfl ?_; simp -implicitDefEqProofs only [go_sem, ↓reduceIte, Nat.reduceEqDiff, Nat.reduceAdd, Nat.reduceLeDiff, Nat.reduceMul, Nat.reduceSub, Int.reduceLE, Int.reduceLT, Int.reduceEq, Int.reduceToNat, Int.reducePow, Int.reduceNeg, beq_self_eq_true, bne_self_eq_false])
          | (refine callK_pure (k5) rfl rfl ?_; simp -implicitDefEqProofs only [go_sem, ↓reduceIte, Nat.reduceEqDiff, Nat.reduceAdd, Nat.reduceLeDiff, Nat.reduceMul, Nat.reduceSub, Int.reduceLE, Int.reduceLT, Int.reduceEq, Int.reduceToNat, Int.reducePow, Int.reduceNeg, beq_self_eq_true, bne_self_eq_false])
          | (refine dCallK_pure (k5) rfl rfl ?_; simp -implicitDefEqProofs only [go_sem, ↓reduceIte, Nat.reduceEqDiff, Nat.reduceAdd, Nat.reduceLeDiff, Nat.reduceMul, Nat.reduceSub, Int.reduceLE, Int.reduceLT, Int.reduceEq, Int.reduceToNat, Int.reducePow, Int.reduceNeg, beq_self_eq_true, bne_self_eq_false])
          | (refine callK_pure (k6) rfl rfl ?_; simp -implicitDefEqProofs only [go_sem, ↓reduceIte, Nat.reduceEqDiff, Nat.reduceAdd, Nat.reduceLeDiff, Nat.reduceMul, Nat.reduceSub, Int.reduceLE, Int.reduceLT, Int.reduceEq, Int.reduceToNat, Int.reducePow, Int.reduceNeg, beq_self_eq_true, bne_self_eq_false])
          | (refine dCallK_pure (k6) rfl rfl ?_; simp -implicitDefEqProofs only [go_sem, ↓reduceIte, Nat.reduceEqDiff, Nat.reduceAdd, Nat.reduceLeDiff, Nat.reduceMul, Nat.reduceSub, Int.reduceLE, Int.reduceLT, Int.reduceEq, Int.reduceToNat, Int.reducePow, Int.reduceNeg, beq_self_eq_true, bne_self_eq_false])
          | (refine callK_pure (k7) rfl rfl ?_; simp -implicitDefEqProofs only [go_sem, ↓reduceIte, Nat.reduceEqDiff, Nat.reduceAdd, Nat.reduceLeDiff, Nat.reduceMul, Nat.reduceSub, Int.reduceLE, Int.reduceLT, Int.reduceEq, Int.reduceToNat, Int.reducePow, Int.reduceNeg, beq_self_eq_true, bne_self_eq_false])
          | (refine dCallK_pure (k7) rfl rfl ?_; simp -implicitDefEqProofs only [go_sem, ↓reduceIte, Nat.reduceEqDiff, Nat.reduceAdd, Nat.reduceLeDiff, Nat.reduceMul, Nat.reduceSub, Int.reduceLE, Int.reduceLT, Int.reduceEq, Int.reduceToNat, Int.reducePow, Int.reduceNeg, beq_self_eq_true, bne_self_eq_false])
          | (refine callK_pure (awake_pure) rfl rfl ?_; simp -implicitDefEqProofs only [go_sem, ↓reduceIte, Nat.reduceEqDiff, Nat.reduceAdd, Nat.reduceLeDiff, Nat.reduceMul, Nat.reduceSub, Int.reduceLE, Int.reduceLT, Int.reduceEq, Int.reduceToNat, Int.reducePow, Int.reduceNeg, beq_self_eq_true, bne_self_eq_false])
          | (refine dCallK_pure (awake_pure) rfl rfl ?_; simp -implicitDefEqProofs only [go_sem, ↓reduceIte, Nat.reduceEqDiff, Nat.reduceAdd, Nat.reduceLeDiff, Nat.reduceMul, Nat.reduceSub, Int.reduceLE, Int.reduceLT, Int.reduceEq, Int.reduceToNat, Int.reducePow, Int.reduceNeg, beq_self_eq_true, bne_self_eq_false])
          | (rw [if_pos (by (try simp only [List.length_append, List.length_cons, List.length_nil]); omega)]; simp -implicitDefEqProofs only [go_sem, ↓reduceIte, Nat.reduceEqDiff, Nat.reduceAdd, Nat.reduceLeDiff, Nat.reduceMul, Nat.reduceSub, Int.reduceLE, Int.reduceLT, Int.reduceEq, Int.reduceToNat, Int.reducePow, Int.reduceNeg, beq_self_eq_true, bne_self_eq_false]))
        refine ⟨rfl, hK _ ?_⟩; clear hK
        refine bwp_ret ?_
        simp only [go_sem]
        refine aend_ret _ rfl rfl ⟨?_, rfl⟩
        simp [fget]

/-! ### From a row's reading -/

def shTest : List Sh := [.str, .sl [.int .i64, .int .i64], .sl [.sl (List.replicate 9 (.int .i64))], .int .i64, .sl [.sl (List.replicate 4 (.int .i64))]]
def shIns : List Sh := List.replicate 9 (.int .i64)
def shCond : List Sh := [.int .i64, .sl [.sl (List.replicate 4 (.int .i64))]]

theorem fits_i64s : ∀ {n : Nat} {ds : List DV}, FitsL (List.replicate n (.int .i64)) ds → ∃ l : List Int, l.length = n ∧ ds = l.map (.int .i64) ∧ ∀ x ∈ l, I64 x
  | 0, ds, h => by simp only [List.replicate_zero, FitsL] at h; exact ⟨[], rfl, h, by simp⟩
  | n + 1, ds, h => by
    simp only [List.replicate_succ, FitsL, Fits] at h
    obtain ⟨d, r, rfl, ⟨m, rfl, hw⟩, h⟩ := h
    obtain ⟨l, hl, rfl, hr⟩ := fits_i64s h
    exact ⟨m :: l, by simp [hl], rfl, by
      intro x hx
      rcases List.mem_cons.1 hx with hx | hx
      · rw [hx]; exact wf_i64 hw
      · exact hr x hx⟩

theorem row_init {r : List DV} (hr : FitsL (List.replicate 2 (.int .i64)) r) : ∃ a : Init, I64 a.value ∧ r = a.cells := by
  obtain ⟨f, hf, rfl, hw⟩ := fits_i64s hr
  match f, hf, hw with
  | [a, b], _, hw => exact ⟨⟨a, b⟩, hw b (by simp), rfl⟩

theorem row_ins {r : List DV} (hr : FitsL (List.replicate 9 (.int .i64)) r) : ∃ a : Ins, I64i a ∧ r = a.cells := by
  obtain ⟨f, hf, rfl, hw⟩ := fits_i64s hr
  match f, hf, hw with
  | [a, b, c, d, e, g, i, j, k], _, hw => exact ⟨⟨a, b, c, ⟨d, e⟩, g, ⟨i, j⟩, k⟩, ⟨hw b (by simp), hw d (by simp), hw e (by simp), hw i (by simp), hw j (by simp), hw k (by simp)⟩, rfl⟩

theorem row_atom {r : List DV} (hr : FitsL (List.replicate 4 (.int .i64)) r) : ∃ a : Atom, I64a a ∧ r = a.cells := by
  obtain ⟨f, hf, rfl, hw⟩ := fits_i64s hr
  match f, hf, hw with
  | [a, b, c, d], _, hw => exact ⟨⟨a, b, c, d⟩, ⟨hw a (by simp), hw b (by simp), hw d (by simp)⟩, rfl⟩

theorem fits_test {ds : List DV} (h : FitsL shTest ds) : ∃ t : Test, IsTest t ds ∧ RangeT t := by
  have hm : maxLen = 9223372036854775807 := rfl
  simp only [shTest, FitsL] at h
  obtain ⟨d0, r0, rfl, h0, d1, r1, rfl, h1, d2, r2, rfl, h2, d3, r3, rfl, h3, d4, r4, rfl, h4, rfl⟩ := h
  simp only [Fits] at h0 h3
  obtain ⟨nm, rfl, hnm⟩ := h0
  obtain ⟨kd, rfl, _⟩ := h3
  obtain ⟨inits, v1, hI⟩ := fits_sl (enc := Init.cells) (p := fun x => I64 x.value) (fun r hr => row_init hr) h1
  obtain ⟨threads, v2, hT⟩ := fits_sl2 (enc := Ins.cells) (p := I64i) (fun r hr => row_ins hr) h2
  obtain ⟨rows, v3, hA⟩ := fits_sl2 (enc := Atom.cells) (p := I64a) (fun r hr => row_atom hr) h4
  exact ⟨⟨nm, inits, threads, kd, rows⟩, ⟨d1, d2, d4, rfl, hI, hT, hA⟩, ⟨by simp only; omega, v1, v2, v3⟩⟩

theorem fits_ins {ds : List DV} (h : FitsL shIns ds) : ∃ x : Ins, ds = x.cells ∧ I64i x := by
  obtain ⟨x, h1, h2⟩ := row_ins h
  exact ⟨x, h2, h1⟩

theorem fits_cond {ds : List DV} (h : FitsL shCond ds) : ∃ c : Int × List (List Atom), IsCond c.1 c.2 ds ∧ ∀ l ∈ c.2, ∀ a ∈ l, I64a a := by
  simp only [shCond, FitsL] at h
  obtain ⟨d3, r3, rfl, h3, d4, r4, rfl, h4, rfl⟩ := h
  simp only [Fits] at h3
  obtain ⟨kd, rfl, _⟩ := h3
  obtain ⟨rows, v3, hA⟩ := fits_sl2 (enc := Atom.cells) (p := I64a) (fun r hr => row_atom hr) h4
  exact ⟨(kd, rows), ⟨d4, rfl, hA⟩, v3⟩

end Go.Proofs.YtgfkgngpganllaaDoor
