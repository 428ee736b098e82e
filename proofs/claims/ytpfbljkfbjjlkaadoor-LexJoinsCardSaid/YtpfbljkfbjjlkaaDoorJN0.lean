/- What the listed tables give the calls. -/
import Derived.Test.YtpfbljkfbjjlkaaDoorRows
import Derived.Test.YtpfbljkfbjjlkaaDoorTie
import Derived.Test.YtpfbljkfbjjlkaaDoorP0
import Derived.Test.YtpfbljkfbjjlkaaDoorXH
import Derived.ProofKit
import Derived.LaidMore
import Derived.OpenShut
import Derived.Stop.Joined
import Derived.ChangeOld
import Derived.Below
import Derived.Carry
import Derived.Lib.LaidTab
import Derived.SevenTiedAt
import Derived.SizedLaws
namespace Go.Proofs.YtpfbljkfbjjlkaaDoor
open Go Go.Jq Go.ChangeShapes Go.WideShapes Go.ChangeAt Go.RowKit
set_option linter.unusedVariables false

theorem own : ownKnob Tryd.prog.godebug = none := by kernel_rfl
theorem laidOut : laidOutB Tryd.prog = true := by kernel_rfl

def laidL : List (String × DataW Unit) := [("math/bits.deBruijn32tab", Rows.laid_math_bits_deBruijn32tab), ("math/bits.deBruijn64tab", Rows.laid_math_bits_deBruijn64tab), ("internal/strconv.uint64pow10", Rows.laid_internal_strconv_uint64pow10), ("strconv.ErrRange", Rows.laid_strconv_ErrRange), ("strconv.ErrSyntax", Rows.laid_strconv_ErrSyntax)]

/-- The door's own heap meets the condition. -/
theorem door_met (os : Os) (args : Array Value) : laidMetH Tryd.prog laidL ((World.doorLaid Tryd.prog 400 os).forCall (fun _ _ => 0) ⟨#[], args, []⟩).memory :=
  laidMetH_of_parts3 (fuel := 8) (laidMet_of_run' 8 (by kernel_rfl) (by kernel_rfl)) (by kernel_rfl) (by kernel_rfl)

theorem fits_str {d : DV} (h : Fits .str d) : ∃ s : List UInt8, d = .str s ∧ s.length ≤ maxLen := by simpa only [Fits] using h
theorem fits_bool {d : DV} (h : Fits .bool d) : ∃ b : Bool, d = .bool b := by simpa only [Fits] using h

theorem str_size {H : Type} {enc : TypeId × Value → H} {P : Program} {W : World} {base : Nat} {sp : Nat → Bool} {held : Bool} {t : TypeId} {n : ByteArray} {d : DataW H} {p : List MemPlace} {m : List UInt8} (ht : P.underlying t = some .string)
    (h : DataW.Trod enc P W base sp held t (.string n) d p) (r : Rel (ctx0 W) W (.d (.str m)) (.string n)) {ts : List TypeId} {ds : List (DataW H)} (hz : (DataW.weightsEach P ts ds).all (· ≤ reachBytes) = true) {j : Nat} (hj : ts[j]? = some t) (hd : ds[j]? = some d) : m.length ≤ reachBytes := by
  obtain ⟨fuel, hf⟩ := h
  obtain ⟨s, hc, hx, _⟩ := DataW.trod_string ht hf
  simp only [Value.cells] at hc
  have e1 : n = s := by simpa using hc
  subst e1
  have e2 : d = .lit (.string n.data.toList) := (Prod.mk.inj hx).1
  subst e2
  have := sized_string hz hj hd
  simp only [Rel, RelD] at r
  have e3 : n.data.toList = m := by
    have := Value.string.inj r
    rw [this]
  rwa [← e3]

theorem err_iface : ∃ ms, Tryd.prog.underlying 109 = some (.interface ms) := by
  have h : (match Tryd.prog.underlying 109 with | some (.interface _) => true | _ => false) = true := by kernel_rfl
  split at h
  · rename_i ms hms
    exact ⟨ms, hms⟩
  · cases h

set_option maxRecDepth 100000 in
theorem tab_of_laid {W : World} (h : laidMetH Tryd.prog laidL W) : ∀ g Φ, tabC g = some Φ → ∃ cs T f, W.heap[g]? = some (.cells cs T f) ∧ Φ cs := by
  rw [MakeChecks.laidMetH_plain _ _ _ (by kernel_rfl)] at h
  obtain ⟨ps, ⟨g0, t0, cs0, f0, p0, q0, hg0, ht0, hv0, hd0, ⟨g1, t1, cs1, f1, p1, q1, hg1, ht1, hv1, hd1, ⟨g2, t2, cs2, f2, p2, q2, hg2, ht2, hv2, hd2, ⟨g3, t3, cs3, f3, p3, q3, hg3, ht3, hv3, hd3, ⟨g4, t4, cs4, f4, p4, q4, hg4, ht4, hv4, hd4, _, _⟩, _⟩, _⟩, _⟩, _⟩, _, _⟩ := h
  obtain rfl := Option.some.inj (gTab.symm.trans hg2)
  have gR : Tryd.prog.globalNamed "strconv.ErrRange" = some 1 := by kernel_rfl
  have gS : Tryd.prog.globalNamed "strconv.ErrSyntax" = some 0 := by kernel_rfl
  obtain rfl := Option.some.inj (gR.symm.trans hg3)
  obtain rfl := Option.some.inj (gS.symm.trans hg4)
  have hty : (Tryd.prog.globals[3]?).map (·.type) = some 150 := by kernel_rfl
  have ty1 : (Tryd.prog.globals[0]?).map (·.type) = some 109 := by kernel_rfl
  have ty2 : (Tryd.prog.globals[1]?).map (·.type) = some 109 := by kernel_rfl
  obtain rfl := Option.some.inj (hty.symm.trans ht2)
  obtain rfl := Option.some.inj (ty2.symm.trans ht3)
  obtain rfl := Option.some.inj (ty1.symm.trans ht4)
  obtain ⟨ms, hms⟩ := err_iface
  obtain ⟨_, u3, v3, hc3, _⟩ := iface_of_trod hms hd3
  obtain ⟨_, u4, v4, hc4, _⟩ := iface_of_trod hms hd4
  have hcs := Lib.cells_of_tab (n := 20) (e := 69) (k := .u64) (zs := Lib.pow10Tab) (by kernel_rfl) (by kernel_rfl) (by kernel_rfl) (by kernel_rfl) hd2
  unfold World.var? at hv2 hv3 hv4
  rw [gTab] at hv2
  rw [gR] at hv3
  rw [gS] at hv4
  simp only [Option.bind_some] at hv2 hv3 hv4
  have row : ∀ {b : Nat} {cs : Array Value}, (match W.heap[b]? with | some (Obj.cells cs _ _) => some cs | _ => none) = some cs → ∃ T f, W.heap[b]? = some (.cells cs T f) := by
    intro b cs h
    split at h
    · rename_i c T f hc
      obtain rfl := Option.some.inj h
      exact ⟨T, f, hc⟩
    · cases h
  obtain ⟨T2, f2', r2⟩ := row hv2
  obtain ⟨T3, f3', r3⟩ := row hv3
  obtain ⟨T4, f4', r4⟩ := row hv4
  intro g Φ hg
  simp only [tabC] at hg
  split at hg
  · rename_i h0
    subst h0
    refine ⟨_, _, _, r2, ?_⟩
    obtain rfl := Option.some.inj hg
    show cs2 = _
    apply Array.ext'
    rw [hcs]
    rfl
  · split at hg
    · rename_i h12
      obtain rfl := Option.some.inj hg
      rcases h12 with rfl | rfl
      · exact ⟨_, _, _, r4, u4, v4, Array.ext' hc4⟩
      · exact ⟨_, _, _, r3, u3, v3, Array.ext' hc3⟩
    · cases hg

end Go.Proofs.YtpfbljkfbjjlkaaDoor
