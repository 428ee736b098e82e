/- The statement LitmusRobust, proved: whatever it is given, it comes to true, and leaves its input as it was; the tables that it reads are tied to the program's text. -/
import Derived.Test.YtjfdjkageiemkaaGreatDoorMJK1e
import Derived.Test.YtjfdjkageiemkaaGreatDoorCards
namespace Go.Proofs.YtjfdjkageiemkaaGreatDoor
open Go Go.Jq Go.ChangeShapes Go.WideShapes Go.ChangeAt Go.RowKit
set_option linter.unusedVariables false

set_option maxRecDepth 100000 in
theorem qW (os : Os) (started : os.Started) (H : Type) (enc : TypeId × Value → H) :
    ReturnsInHanded {} Tryz.checked os 4 .any (fun w args => (Rows.litmusRobustSpec.pre enc Tryz.prog Tryz.f4 [] false w args ∧ laidMetH Tryz.prog Ek w) ∧ sizedMet enc Tryz.prog Tryz.f4 (OpenSpec.ofChange Rows.litmusRobustSpec) false w args)
      (Rows.litmusRobustSpec.post enc Tryz.prog Tryz.f4 false true false false) := by
  refine returnsInHanded_of_change_and (C := Tryz.checked) (X := fun w _ => laidMetH Tryz.prog Ek w) (fun _ _ _ hh h => h.of_heap hh) own started (by kernel_rfl) Tryz.func4
    (ChangeSpec.witness_shaped (enc := enc) (C := Tryz.checked) (os := os) (X := fun w _ => laidMetH Tryz.prog Ek w) false (World.doorLaid Tryz.prog 400 os) #[.int .i64 0, .int .i64 0] 12 rfl (World.shaped_of_RefB (by kernel_rfl) (by kernel_rfl)) (by kernel_rfl) (by kernel_rfl) (by kernel_rfl) (Ny os _)) ?_
  intro W base args ds gs before V9 hW _ _ hL _
  have qN : ∀ (j : Nat) t v, Tryz.f4.params[j]? = some t → args[j]? = some v → Value.okWide Tryz.prog W .any base t v := V9
  have hW' := hW
  obtain ⟨p, q, hA0, hV, rfl, hfz, Z1⟩ := hW
  have hA : DataW.TrodAll enc Tryz.prog W 0 (fun _ => true) true Tryz.f4.params.toList args.toList ds p := hA0
  rw [Tryz.params4] at hA qN
  obtain ⟨v0, v1, d0, d1, p0, p1, rfl, rfl, rfl, h0, h1⟩ := trodAll_two hA
  obtain ⟨rfl, rfl⟩ := trodVars_none hV
  have lt0 : ∀ x ∈ p0, x.block < W.heap.size := by obtain ⟨m, hm⟩ := h0; exact DataW.trod_lt m _ _ _ hm
  have lt1 : ∀ x ∈ p1, x.block < W.heap.size := by obtain ⟨m, hm⟩ := h1; exact DataW.trod_lt m _ _ _ hm
  obtain ⟨n0, rfl⟩ := okWide_int Tryz.underlying3 (qN 0 3 v0 rfl rfl)
  obtain ⟨x0, TO, r0⟩ := IJ (k := 9) (s := .int .i64) (by kernel_rfl) rfl h0
  obtain ⟨m0, rfl, w0⟩ := fits_int TO
  obtain ⟨n1, rfl⟩ := okWide_int Tryz.underlying3 (qN 1 3 v1 rfl rfl)
  obtain ⟨x1, hx1, r1⟩ := IJ (k := 9) (s := .int .i64) (by kernel_rfl) rfl h1
  obtain ⟨m1, rfl, w1⟩ := fits_int hx1
  clear hA0 V9
  refine (zP (tK (wf_i64 w0) (wf_i64 w1)) (w := W) (vs := [.int .i64 n0, .int .i64 n1]) (by simp only [aU]; exact ⟨_, _, rfl, r0, _, _, rfl, r1, rfl⟩) (El hL)).mono fun e W' ⟨he, bel⟩ => ?_
  subst he
  exact ⟨_, rfl, _, _, _, [], _, [], hW', trodAll_mk1 (shut_bool Tryz.underlying4 _), (trodAll_cons_mk (Below.trod laidOut (by kernel_rfl) (of_decide_eq_true (by kernel_rfl)) h0 bel lt0) (trodAll_cons_mk (Below.trod laidOut (by kernel_rfl) (of_decide_eq_true (by kernel_rfl)) h1 bel lt1) trodAll_mk0)), rfl, bel.frame _, fun h => by cases h⟩

theorem dw {a b : Bool} (h : a = true) (k : b = true) : (a && b) = true := by rw [h, k]; rfl
set_option maxRecDepth 100000
theorem vk : ((Rows.litmusRobustRow.wf (OpenSpec.ofChange Rows.litmusRobustSpec))) = true := by kernel_rfl
theorem vn : (laidOutB Tryz.prog) = true := by kernel_rfl
theorem vo : (mapsRowed Tryz.prog) = true := by kernel_rfl
theorem vq : (Tryz.f4.params.all (Tryz.prog.readableRec ·)) = true := by kernel_rfl
theorem vr : (namedTie Tryz.prog Rows.litmusRobustRow.named Rows.litmusRobustSpec.vars) = true := by kernel_rfl
theorem vt : ((Rows.litmusRobustRow.stops == [])) = true := by kernel_rfl
theorem vu : ((Tryz.prog.stops == [])) = true := by kernel_rfl
theorem vw : ((Rows.litmusRobustRow.knobs == [])) = true := by kernel_rfl
theorem vz : ((Tryz.prog.stopKnobs == [])) = true := by kernel_rfl
theorem vA : ((Rows.litmusRobustRow.inPlace == Tryz.prog.inPlace 4)) = true := by kernel_rfl
theorem tL : ((Rows.litmusRobustRow.unfollowed == Tryz.prog.unfollowed 4)) = true := by kernel_rfl
theorem tM : ((Rows.litmusRobustRow.recurses == Tryz.prog.recurses 4)) = true := by kernel_rfl
theorem tN : ((Rows.litmusRobustRow.named == Tryz.prog.varsNamed 4)) = true := by kernel_rfl
theorem tO : ((Rows.litmusRobustRow.maps == (Tryz.f4.params.toList ++ Rows.litmusRobustSpec.plain.varTypes Tryz.prog).any (Tryz.prog.mapsRec ·))) = true := by kernel_rfl
theorem tP : ((Rows.litmusRobustRow.ifaces == (Tryz.f4.params.toList ++ Rows.litmusRobustSpec.plain.varTypes Tryz.prog).any (Tryz.prog.ifacesRec ·))) = true := by kernel_rfl
theorem tQ : ((Rows.litmusRobustRow.mapsOut == Tryz.prog.mapsAmong Tryz.f4.resultTypes.toList)) = true := by kernel_rfl
theorem tR : ((Rows.litmusRobustRow.loops == (Tryz.f4.params.toList ++ Rows.litmusRobustSpec.plain.varTypes Tryz.prog).any (Tryz.prog.loopsFrom ·))) = true := by kernel_rfl
theorem tS : ((Rows.litmusRobustRow.wideKeys == (Tryz.f4.params.toList ++ Rows.litmusRobustSpec.plain.varTypes Tryz.prog ++ Tryz.f4.resultTypes.toList).any (Tryz.prog.wideKeysFrom ·))) = true := by kernel_rfl
theorem tT : (Rows.litmusRobustSpec.vars.all (Tryz.prog.varReadable ·)) = true := by kernel_rfl
theorem tU : (Tryz.f4.resultTypes.all (fun t => Tryz.prog.readableRec t && decide (t < Tryz.prog.types.size))) = true := by kernel_rfl
theorem tV : ((Rows.litmusRobustRow.ifacesOut == Tryz.f4.resultTypes.toList.any (Tryz.prog.ifacesRec ·))) = true := by kernel_rfl
theorem tW : ((Rows.litmusRobustRow.loopsOut == Tryz.f4.resultTypes.toList.any (Tryz.prog.loopsFrom ·))) = true := by kernel_rfl
theorem tX : ((Rows.litmusRobustRow.plainKeys == Tryz.prog.plainKeys)) = true := by kernel_rfl
theorem tY : (Rows.litmusRobustRow.shortTexts.isNone) = true := by kernel_rfl
theorem tZ : (Tryz.prog.stopsHeard) = true := by kernel_rfl
theorem ua : (Tryz.prog.mayEnter) = true := by kernel_rfl
theorem ub : ((Rows.litmusRobustRow.lifted == Tryz.prog.liftsFinal)) = true := by kernel_rfl
theorem uc : ((Tryz.prog.make == some Rows.litmusRobustRow.make)) = true := by kernel_rfl
theorem ud : ((Rows.litmusRobustRow.kinds == (if Rows.litmusRobustRow.domain.isEmpty then [] else Tryz.f4.params.toList.map fun t => match Tryz.prog.underlying t with | some (.int k) => some k | _ => none))) = true := by kernel_rfl
theorem ue : ((Rows.litmusRobustRow.pinned == Rows.litmusRobustRow.pinnedBy)) = true := by kernel_rfl
theorem uf : ((Rows.litmusRobustRow.veiled == (Tryz.f4.params.toList ++ Rows.litmusRobustSpec.plain.varTypes Tryz.prog ++ Tryz.f4.resultTypes.toList).any (Tryz.prog.veiledRec ·))) = true := by kernel_rfl
theorem ug : (Rows.litmusRobustRow.veiledFits Tryz.prog Tryz.f4.params.toList (Tryz.f4.params.toList ++ Rows.litmusRobustSpec.plain.varTypes Tryz.prog ++ Tryz.f4.resultTypes.toList)) = true := by kernel_rfl
theorem qX : joinedFacts Tryz.prog 4 Tryz.f4 Rows.litmusRobustSpec Rows.litmusRobustRow = true := (dw (dw (dw (dw (dw (dw (dw (dw (dw (dw (dw (dw (dw (dw (dw (dw (dw (dw (dw (dw (dw (dw (dw (dw (dw (dw (dw (dw (dw (dw (dw vk vn) vo) vq) vr) vt) vu) vw) vz) vA) tL) tM) tN) tO) tP) tQ) tR) tS) tT) tU) tV) tW) tX) tY) tZ) ua) ub) uc) ud) ue) uf) ug)

theorem oL : Rows.LitmusRobustSaid :=
  OpenClaim.holds_of_wide 4 Tryz.f4 rfl rfl rfl rfl rfl rfl rfl ⟨rfl, rfl, rfl, rfl, rfl⟩ rfl rfl rfl rfl rfl (by kernel_rfl) Tryz.func4 qX
    (of_decide_eq_true (by kernel_rfl)) (by unfold Func.isWrapper; first | (rw [if_pos (by decide +kernel)]; kernel_rfl) | (rw [if_neg (by decide +kernel)]; exact ⟨rfl, rfl⟩))
    (fun os started H enc _ => qW os started H enc)

theorem wS : Rows.litmusRobustRow.wfByText (OpenSpec.ofChange Rows.litmusRobustSpec) = true := by kernel_rfl
theorem wT : Tryz.pinned.checked.prog.mainIs = some (true, "b574cb43675ac584bc3ae4632dfb5f9b558d8b8e41facc26bc17d74635b674ff".toList) := by kernel_rfl
theorem wU : true = Tryz.pinned.checked.prog.looks [] := by kernel_rfl
theorem wV : false = Rows.litmusRobustRow.goesBy Tryz.pinned.checked.prog := by kernel_rfl
theorem wW : Tryz.prog.funcNamed "jacquard/jacquardlaw27.LitmusRobust" = some 4 := by kernel_rfl
theorem litmusRobust_card_holds : Rows.LitmusRobustCardSaid :=
  Claim7.holds_tied_plain_at .later [] [.data] true (true, "b574cb43675ac584bc3ae4632dfb5f9b558d8b8e41facc26bc17d74635b674ff") true
    oL (fun _ h => by cases h) wS (fun _ h => by cases h) litmusRobust_row_tie rfl ⟨rfl, rfl⟩ wT rfl
    (fun f fn hf YF => by
      obtain rfl : f = 4 := Option.some.inj (wW.symm.trans hf) |>.symm
      obtain rfl : fn = Tryz.f4 := (Option.some.inj (Tryz.func4.symm.trans YF)).symm
      exact ⟨wU, fun j t ht => by
        rw [Tryz.params4] at ht
        have hm : t ∈ [3, 3] := by simpa using Array.mem_of_getElem? ht
        have ph : ([3, 3].all fun u => !Tryz.prog.wantsStandIn u) = true := by kernel_rfl
        exact (show Tryz.prog.wantsStandIn t = false by simpa using List.all_eq_true.1 ph t hm)⟩)
    wV

#print axioms litmusRobust_card_holds

end Go.Proofs.YtjfdjkageiemkaaGreatDoor
