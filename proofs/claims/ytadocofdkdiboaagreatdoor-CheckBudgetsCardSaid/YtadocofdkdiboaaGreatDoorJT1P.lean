/- The statement CheckBudgets, proved: whatever it is given, it comes to true, and leaves its input as it was; the tables that it reads are tied to the program's text. -/
import Derived.Test.YtadocofdkdiboaaGreatDoorMJT1c
import Derived.Test.YtadocofdkdiboaaGreatDoorCards
import Derived.Test.YtadocofdkdiboaaGreatDoorMJT1f
namespace Go.Proofs.YtadocofdkdiboaaGreatDoor
open Go Go.Jq Go.ChangeShapes Go.WideShapes Go.ChangeAt Go.RowKit
set_option linter.unusedVariables false

set_option maxRecDepth 100000 in
theorem uD (os : Os) (started : os.Started) (H : Type) (enc : TypeId × Value → H) :
    ReturnsInHanded {} Tryz.checked os 4 .any (fun w args => (Rows.checkBudgetsSpec.pre enc Tryz.prog Tryz.f4 [] false w args ∧ laidMetH Tryz.prog JJ w) ∧ sizedMet enc Tryz.prog Tryz.f4 (OpenSpec.ofChange Rows.checkBudgetsSpec) false w args)
      (Rows.checkBudgetsSpec.post enc Tryz.prog Tryz.f4 false true false false) := by
  refine returnsInHanded_of_change_and (C := Tryz.checked) (X := fun w _ => laidMetH Tryz.prog JJ w) (fun _ _ _ hh h => h.of_heap hh) own started (by kernel_rfl) Tryz.func4
    (ChangeSpec.witness_shaped (enc := enc) (C := Tryz.checked) (os := os) (X := fun w _ => laidMetH Tryz.prog JJ w) false (World.doorLaid Tryz.prog 400 os) #[.slice none 0 0, .int .i64 0, .int .i64 0, .int .i64 0] 12 rfl (World.shaped_of_RefB (by kernel_rfl) (by kernel_rfl)) (by kernel_rfl) (by kernel_rfl) (by kernel_rfl) (VK os _)) ?_
  intro W base args ds gs before aeB hW _ _ hL _
  have r6 : ∀ (j : Nat) t v, Tryz.f4.params[j]? = some t → args[j]? = some v → Value.okWide Tryz.prog W .any base t v := aeB
  have hW' := hW
  obtain ⟨p, q, hA0, hV, rfl, hfz, hnd⟩ := hW
  have hA : DataW.TrodAll enc Tryz.prog W 0 (fun _ => true) true Tryz.f4.params.toList args.toList ds p := hA0
  rw [Tryz.params4] at hA r6
  obtain ⟨v0, v1, v2, v3, d0, d1, d2, d3, p0, p1, p2, p3, rfl, rfl, rfl, h0, h1, h2, h3⟩ := trodAll_four hA
  obtain ⟨rfl, rfl⟩ := trodVars_none hV
  have lt0 : ∀ x ∈ p0, x.block < W.heap.size := by obtain ⟨m, hm⟩ := h0; exact DataW.trod_lt m _ _ _ hm
  have lt1 : ∀ x ∈ p1, x.block < W.heap.size := by obtain ⟨m, hm⟩ := h1; exact DataW.trod_lt m _ _ _ hm
  have lt2 : ∀ x ∈ p2, x.block < W.heap.size := by obtain ⟨m, hm⟩ := h2; exact DataW.trod_lt m _ _ _ hm
  have lt3 : ∀ x ∈ p3, x.block < W.heap.size := by obtain ⟨m, hm⟩ := h3; exact DataW.trod_lt m _ _ _ hm
  obtain ⟨a0, akQ, akR, rfl⟩ := okWide_slice Tryz.underlying22 (r6 0 22 v0 rfl rfl)
  obtain ⟨x0, hx0, r0⟩ := Bz (k := 9) (s := .sl [.int .i64]) (by kernel_rfl) rfl h0
  obtain ⟨y0, z0⟩ := G0 hx0
  obtain ⟨n1, rfl⟩ := okWide_int Tryz.underlying3 (r6 1 3 v1 rfl rfl)
  obtain ⟨x1, hx1, r1⟩ := Bz (k := 9) (s := .int .i64) (by kernel_rfl) rfl h1
  obtain ⟨m1, rfl, w1⟩ := fits_int hx1
  obtain ⟨n2, rfl⟩ := okWide_int Tryz.underlying3 (r6 2 3 v2 rfl rfl)
  obtain ⟨x2, hx2, r2⟩ := Bz (k := 9) (s := .int .i64) (by kernel_rfl) rfl h2
  obtain ⟨m2, rfl, w2⟩ := fits_int hx2
  obtain ⟨n3, rfl⟩ := okWide_int Tryz.underlying3 (r6 3 3 v3 rfl rfl)
  obtain ⟨x3, hx3, r3⟩ := Bz (k := 9) (s := .int .i64) (by kernel_rfl) rfl h3
  obtain ⟨m3, rfl, w3⟩ := fits_int hx3
  clear hA0 aeB
  refine (EC (yf z0 (wf_i64 w1) (wf_i64 w2) (wf_i64 w3)) (w := W) (vs := [.slice a0 akQ akR, .int .i64 n1, .int .i64 n2, .int .i64 n3]) (by simp only [bg]; exact ⟨_, _, rfl, r0, _, _, rfl, r1, _, _, rfl, r2, _, _, rfl, r3, rfl⟩) (JK hL)).mono fun e W' ⟨he, bel⟩ => ?_
  subst he
  exact ⟨_, rfl, _, _, _, [], _, [], hW', trodAll_mk1 (shut_bool Tryz.underlying4 _), (trodAll_cons_mk (Below.trod laidOut (by kernel_rfl) (of_decide_eq_true (by kernel_rfl)) h0 bel lt0) (trodAll_cons_mk (Below.trod laidOut (by kernel_rfl) (of_decide_eq_true (by kernel_rfl)) h1 bel lt1) (trodAll_cons_mk (Below.trod laidOut (by kernel_rfl) (of_decide_eq_true (by kernel_rfl)) h2 bel lt2) (trodAll_cons_mk (Below.trod laidOut (by kernel_rfl) (of_decide_eq_true (by kernel_rfl)) h3 bel lt3) trodAll_mk0)))), rfl, bel.frame _, fun h => by cases h⟩

theorem ew {a b : Bool} (h : a = true) (k : b = true) : (a && b) = true := by rw [h, k]; rfl
set_option maxRecDepth 100000
theorem zO : ((Rows.checkBudgetsRow.wf (OpenSpec.ofChange Rows.checkBudgetsSpec))) = true := by kernel_rfl
theorem zP : (laidOutB Tryz.prog) = true := by kernel_rfl
theorem zQ : (mapsRowed Tryz.prog) = true := by kernel_rfl
theorem zR : (Tryz.f4.params.all (Tryz.prog.readableRec ·)) = true := by kernel_rfl
theorem zT : (namedTie Tryz.prog Rows.checkBudgetsRow.named Rows.checkBudgetsSpec.vars) = true := by kernel_rfl
theorem zU : ((Rows.checkBudgetsRow.stops == [])) = true := by kernel_rfl
theorem zV : ((Tryz.prog.stops == [])) = true := by kernel_rfl
theorem zW : ((Rows.checkBudgetsRow.knobs == [])) = true := by kernel_rfl
theorem zX : ((Tryz.prog.stopKnobs == [])) = true := by kernel_rfl
theorem zY : ((Rows.checkBudgetsRow.inPlace == Tryz.prog.inPlace 4)) = true := by kernel_rfl
theorem yg : ((Rows.checkBudgetsRow.unfollowed == Tryz.prog.unfollowed 4)) = true := by kernel_rfl
theorem yh : ((Rows.checkBudgetsRow.recurses == Tryz.prog.recurses 4)) = true := by kernel_rfl
theorem yi : ((Rows.checkBudgetsRow.named == Tryz.prog.varsNamed 4)) = true := by kernel_rfl
theorem yj : ((Rows.checkBudgetsRow.maps == (Tryz.f4.params.toList ++ Rows.checkBudgetsSpec.plain.varTypes Tryz.prog).any (Tryz.prog.mapsRec ·))) = true := by kernel_rfl
theorem yl : ((Rows.checkBudgetsRow.ifaces == (Tryz.f4.params.toList ++ Rows.checkBudgetsSpec.plain.varTypes Tryz.prog).any (Tryz.prog.ifacesRec ·))) = true := by kernel_rfl
theorem ym : ((Rows.checkBudgetsRow.mapsOut == Tryz.prog.mapsAmong Tryz.f4.resultTypes.toList)) = true := by kernel_rfl
theorem yn : ((Rows.checkBudgetsRow.loops == (Tryz.f4.params.toList ++ Rows.checkBudgetsSpec.plain.varTypes Tryz.prog).any (Tryz.prog.loopsFrom ·))) = true := by kernel_rfl
theorem yo : ((Rows.checkBudgetsRow.wideKeys == (Tryz.f4.params.toList ++ Rows.checkBudgetsSpec.plain.varTypes Tryz.prog ++ Tryz.f4.resultTypes.toList).any (Tryz.prog.wideKeysFrom ·))) = true := by kernel_rfl
theorem yp : (Rows.checkBudgetsSpec.vars.all (Tryz.prog.varReadable ·)) = true := by kernel_rfl
theorem yq : (Tryz.f4.resultTypes.all (fun t => Tryz.prog.readableRec t && decide (t < Tryz.prog.types.size))) = true := by kernel_rfl
theorem yt : ((Rows.checkBudgetsRow.ifacesOut == Tryz.f4.resultTypes.toList.any (Tryz.prog.ifacesRec ·))) = true := by kernel_rfl
theorem yu : ((Rows.checkBudgetsRow.loopsOut == Tryz.f4.resultTypes.toList.any (Tryz.prog.loopsFrom ·))) = true := by kernel_rfl
theorem yv : ((Rows.checkBudgetsRow.plainKeys == Tryz.prog.plainKeys)) = true := by kernel_rfl
theorem yw : (Rows.checkBudgetsRow.shortTexts.isNone) = true := by kernel_rfl
theorem yx : (Tryz.prog.stopsHeard) = true := by kernel_rfl
theorem yy : (Tryz.prog.mayEnter) = true := by kernel_rfl
theorem yz : ((Rows.checkBudgetsRow.lifted == Tryz.prog.liftsFinal)) = true := by kernel_rfl
theorem yA : ((Tryz.prog.make == some Rows.checkBudgetsRow.make)) = true := by kernel_rfl
theorem yB : ((Rows.checkBudgetsRow.kinds == (if Rows.checkBudgetsRow.domain.isEmpty then [] else Tryz.f4.params.toList.map fun t => match Tryz.prog.underlying t with | some (.int k) => some k | _ => none))) = true := by kernel_rfl
theorem yC : ((Rows.checkBudgetsRow.pinned == Rows.checkBudgetsRow.pinnedBy)) = true := by kernel_rfl
theorem yD : ((Rows.checkBudgetsRow.veiled == (Tryz.f4.params.toList ++ Rows.checkBudgetsSpec.plain.varTypes Tryz.prog ++ Tryz.f4.resultTypes.toList).any (Tryz.prog.veiledRec ·))) = true := by kernel_rfl
theorem yE : (Rows.checkBudgetsRow.veiledFits Tryz.prog Tryz.f4.params.toList (Tryz.f4.params.toList ++ Rows.checkBudgetsSpec.plain.varTypes Tryz.prog ++ Tryz.f4.resultTypes.toList)) = true := by kernel_rfl
theorem uE : joinedFacts Tryz.prog 4 Tryz.f4 Rows.checkBudgetsSpec Rows.checkBudgetsRow = true := (ew (ew (ew (ew (ew (ew (ew (ew (ew (ew (ew (ew (ew (ew (ew (ew (ew (ew (ew (ew (ew (ew (ew (ew (ew (ew (ew (ew (ew (ew (ew zO zP) zQ) zR) zT) zU) zV) zW) zX) zY) yg) yh) yi) yj) yl) ym) yn) yo) yp) yq) yt) yu) yv) yw) yx) yy) yz) yA) yB) yC) yD) yE)

theorem rM : Rows.CheckBudgetsSaid :=
  OpenClaim.holds_of_wide 4 Tryz.f4 rfl rfl rfl rfl rfl rfl rfl ⟨rfl, rfl, rfl, rfl, rfl⟩ rfl rfl rfl rfl rfl (by kernel_rfl) Tryz.func4 uE
    (of_decide_eq_true (by kernel_rfl)) (by unfold Func.isWrapper; first | (rw [if_pos (by decide +kernel)]; kernel_rfl) | (rw [if_neg (by decide +kernel)]; exact ⟨rfl, rfl⟩))
    (fun os started H enc _ => uD os started H enc)

theorem checkBudgets_card_holds : Rows.CheckBudgetsCardSaid :=
  Claim7.holds_tied_plain_at .later [] [.data, .data, .data, .sentinel, .sentinel] true (true, "826b7942ba3dcce756f52eee9693896edf6b39275ada93a65a82d65b3a76d70a") true
    rM (fun _ h => by cases h) (by kernel_rfl) (fun _ h => by cases h) checkBudgets_row_tie rfl ⟨rfl, rfl⟩ (by kernel_rfl) rfl
    (fun f fn hf hfn => by
      obtain rfl : f = 4 := Option.some.inj ((show Tryz.prog.funcNamed "jacquard/jacquardlaw26.CheckBudgets" = some 4 by kernel_rfl).symm.trans hf) |>.symm
      obtain rfl : fn = Tryz.f4 := (Option.some.inj (Tryz.func4.symm.trans hfn)).symm
      exact ⟨by kernel_rfl, fun j t ht => by
        rw [Tryz.params4] at ht
        have hm : t ∈ [22, 3, 3, 3] := by simpa using Array.mem_of_getElem? ht
        have sw : ([22, 3, 3, 3].all fun u => !Tryz.prog.wantsStandIn u) = true := by kernel_rfl
        exact (show Tryz.prog.wantsStandIn t = false by simpa using List.all_eq_true.1 sw t hm)⟩)
    (by kernel_rfl)

#print axioms checkBudgets_card_holds

end Go.Proofs.YtadocofdkdiboaaGreatDoor
