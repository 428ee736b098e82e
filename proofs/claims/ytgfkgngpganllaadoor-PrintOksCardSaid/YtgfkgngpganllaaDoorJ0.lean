/- What the listed tables give the calls. -/
import Derived.Test.YtgfkgngpganllaaDoorRows
import Derived.Test.YtgfkgngpganllaaDoorTie
import Derived.Test.YtgfkgngpganllaaDoorP1
import Derived.Test.YtgfkgngpganllaaDoorXH
import Derived.ProofKit
import Derived.LaidMore
import Derived.OpenShut
import Derived.Stop.Joined
import Derived.ChangeOld
import Derived.Below
import Derived.Carry
import Derived.Lib.LaidTab
import Derived.SevenTiedAt
namespace Go.Proofs.YtgfkgngpganllaaDoor
open Go Go.Jq Go.ChangeShapes Go.WideShapes Go.ChangeAt Go.RowKit
set_option linter.unusedVariables false

theorem own : ownKnob Tryd.prog.godebug = none := by kernel_rfl
theorem laidOut : laidOutB Tryd.prog = true := by kernel_rfl

def laidL : List (String × DataW Unit) := [("math/bits.deBruijn32tab", Rows.laid_math_bits_deBruijn32tab), ("math/bits.deBruijn64tab", Rows.laid_math_bits_deBruijn64tab), ("internal/strconv.uint64pow10", Rows.laid_internal_strconv_uint64pow10)]

/-- The door's own heap meets the condition. -/
theorem door_met (os : Os) (args : Array Value) : laidMetH Tryd.prog laidL ((World.doorLaid Tryd.prog 400 os).forCall (fun _ _ => 0) ⟨#[], args, []⟩).memory :=
  laidMetH_of_parts3 (fuel := 8) (laidMet_of_run' 8 (by kernel_rfl) (by kernel_rfl)) (by kernel_rfl) (by kernel_rfl)

set_option maxRecDepth 100000 in
theorem tab_of_laid {W : World} (h : laidMetH Tryd.prog laidL W) : ∀ g cs, tabC g = some cs → ∃ T f, W.heap[g]? = some (.cells cs T f) := by
  rw [MakeChecks.laidMetH_plain _ _ _ (by kernel_rfl)] at h
  obtain ⟨ps, ⟨g0, t0, cs0, f0, p0, q0, hg0, ht0, hv0, hd0, ⟨g1, t1, cs1, f1, p1, q1, hg1, ht1, hv1, hd1, ⟨g2, t2, cs2, f2, p2, q2, hg2, ht2, hv2, hd2, _, _⟩, _⟩, _⟩, _, _⟩ := h
  obtain rfl := Option.some.inj (gTab.symm.trans hg2)
  have hty : (Tryd.prog.globals[0]?).map (·.type) = some 112 := by kernel_rfl
  obtain rfl := Option.some.inj (hty.symm.trans ht2)
  have hcs := Lib.cells_of_tab (n := 20) (e := 77) (k := .u64) (zs := Lib.pow10Tab) (by kernel_rfl) (by kernel_rfl) (by kernel_rfl) (by kernel_rfl) hd2
  unfold World.var? at hv2
  rw [gTab] at hv2
  simp only [Option.bind_some] at hv2
  intro g cs hg
  simp only [tabC] at hg
  split at hg
  · rename_i h0
    subst h0
    split at hv2
    · rename_i c T f hc
      refine ⟨T, f, ?_⟩
      rw [hc]
      have e1 : c = cs2 := by simpa using hv2
      have e2 : cs2 = cs := by
        apply Array.ext'
        rw [hcs]
        have := congrArg Array.toList (Option.some.inj hg)
        rw [← this]
        rfl
      rw [e1, e2]
    · cases hv2
  · cases hg

end Go.Proofs.YtgfkgngpganllaaDoor
