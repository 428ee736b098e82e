/- The statement CondTurns, proved: whatever the numbers, the ends and the place that it is given, it comes to true, and leaves its input as it was. -/
import Derived.Test.YtjfghjakpjfgpaaRows
import Derived.Test.YtjfghjakpjfgpaaE5
import Derived.Test.YtjfghjakpjfgpaaX30
import Derived.ProofKit
import Derived.OpenShut
import Derived.ChangeOld
import Derived.Below
import Derived.Carry
namespace Go.Proofs.Ytjfghjakpjfgpaa
open Go Go.Jq Go.ChangeShapes Go.WideShapes Go.ChangeAt Go.RowKit
set_option linter.unusedVariables false

theorem own : ownKnob Try.prog.godebug = none := by kernel_rfl
theorem laidOut : laidOutB Try.prog = true := by kernel_rfl

theorem fits_finE (r : List DV) (h : FitsL (List.replicate 20 (.int .i64)) r) : ∃ a : { f : List Int // f.length = 20 }, True ∧ r = finE a := by
  obtain ⟨f, hf, rfl⟩ := fits_ints h
  exact ⟨⟨f, hf⟩, trivial, rfl⟩

set_option maxRecDepth 100000 in
theorem condTurns_lifted (os : Os) (started : os.Started) (H : Type) (enc : TypeId × Value → H) :
    ReturnsInHanded {} Try.checked os 4 .any (Rows.condTurnsSpec.pre6 enc Try.prog Try.f4 Rows.condTurnsRow.domain false) (Rows.condTurnsSpec.post enc Try.prog Try.f4 false true false false) := by
  refine returnsInHanded_of_change (C := Try.checked) own started (by kernel_rfl) Try.func4
    (ChangeSpec.witness6 (enc := enc) (C := Try.checked) false ⟨#[], #[.slice none 0 0, .slice none 0 0, .int .i64 0], []⟩ 12 (by kernel_rfl) (by kernel_rfl) (by kernel_rfl) (by kernel_rfl)) ?_
  intro W base args ds gs before hval0 hW hcnd _
  have hval : ∀ (j : Nat) t v, Try.f4.params[j]? = some t → args[j]? = some v → Value.okWide Try.prog W .any base t v := hval0
  have hW' := hW
  obtain ⟨p, q, hA0, hV, rfl, hfz, hnd⟩ := hW
  have hA : DataW.TrodAll enc Try.prog W 0 (fun _ => true) true Try.f4.params.toList args.toList ds p := hA0
  rw [Try.params4] at hA hval
  obtain ⟨v0, v1, v2, d0, d1, d2, p0, p1, p2, rfl, rfl, rfl, h0, h1, h2⟩ := trodAll_three hA
  obtain ⟨rfl, rfl⟩ := trodVars_none hV
  have lt0 : ∀ x ∈ p0, x.block < W.heap.size := by obtain ⟨m, hm⟩ := h0; exact DataW.trod_lt m _ _ _ hm
  have lt1 : ∀ x ∈ p1, x.block < W.heap.size := by obtain ⟨m, hm⟩ := h1; exact DataW.trod_lt m _ _ _ hm
  have lt2 : ∀ x ∈ p2, x.block < W.heap.size := by obtain ⟨m, hm⟩ := h2; exact DataW.trod_lt m _ _ _ hm
  obtain ⟨a0, len0, cap0, rfl⟩ := okWide_slice Try.underlying26 (hval 0 26 v0 rfl rfl)
  obtain ⟨x0, hx0, r0⟩ := arg_one (k := 9) (s := .sl [.int .i64]) (by kernel_rfl) rfl h0
  obtain ⟨a1, len1, cap1, rfl⟩ := okWide_slice Try.underlying41 (hval 1 41 v1 rfl rfl)
  obtain ⟨x1, hx1, r1⟩ := arg_one (k := 9) (s := .sl (List.replicate 20 (.int .i64))) (by kernel_rfl) rfl h1
  obtain ⟨n2, rfl⟩ := okWide_int Try.underlying3 (hval 2 3 v2 rfl rfl)
  obtain ⟨x2, hx2, r2⟩ := arg_one (k := 9) (s := .int .i64) (by kernel_rfl) rfl h2
  obtain ⟨l, hl⟩ := fits_sl_ints hx0
  obtain ⟨F, _, hF⟩ := fits_sl (enc := finE) fits_finE hx1
  obtain ⟨m2, rfl, _⟩ := fits_int hx2
  clear hA0 hval0
  refine (calls_of_pure (condTurns_pure hl hF m2) (w := W) (vs := [.slice a0 len0 cap0, .slice a1 len1 cap1, .int .i64 n2]) (by simp only [RelL]; exact ⟨_, _, rfl, r0, _, _, rfl, r1, _, _, rfl, r2, rfl⟩)).mono fun e W' ⟨he, bel⟩ => ?_
  subst he
  exact ⟨_, rfl, _, _, _, [], _, [], hW', trodAll_mk1 (shut_bool Try.underlying4 _),
    trodAll_cons_mk (Below.trod laidOut (by kernel_rfl) (of_decide_eq_true (by kernel_rfl)) h0 bel lt0) (trodAll_cons_mk (Below.trod laidOut (by kernel_rfl) (of_decide_eq_true (by kernel_rfl)) h1 bel lt1) (trodAll_cons_mk (Below.trod laidOut (by kernel_rfl) (of_decide_eq_true (by kernel_rfl)) h2 bel lt2) trodAll_mk0)), rfl, bel.frame _, fun h => by cases h⟩

theorem condTurns_holds : Rows.CondTurnsSaid :=
  OpenClaim.holds_of_wide 4 Try.f4 rfl rfl rfl rfl rfl rfl rfl ⟨rfl, rfl, rfl, rfl, rfl⟩ rfl rfl rfl rfl rfl (by kernel_rfl) Try.func4 (by kernel_rfl)
    (of_decide_eq_true (by kernel_rfl)) (by unfold Func.isWrapper; first | (rw [if_pos (by decide +kernel)]; kernel_rfl) | (rw [if_neg (by decide +kernel)]; exact ⟨rfl, rfl⟩))
    (fun os started H enc _ => condTurns_lifted os started H enc)

#print axioms condTurns_holds

end Go.Proofs.Ytjfghjakpjfgpaa
