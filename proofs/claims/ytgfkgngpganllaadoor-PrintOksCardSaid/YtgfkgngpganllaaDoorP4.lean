/- What the document fixes of the printer: law 4's awake. -/
import Derived.Test.YtgfkgngpganllaaDoorP3
import Derived.Test.YtgfkgngpganllaaDoorF3
namespace Go.Proofs.YtgfkgngpganllaaDoor
open Go Go.Jq
set_option maxRecDepth 100000
set_option linter.unusedSimpArgs false

theorem awake_pure : Pure Tryd.prog 10 [] (.d (.bool true)) := by
  have z : I64 0 := by unfold I64; omega
  have o : I64 1 := by unfold I64; omega
  have h1 : Pure Tryd.prog 12 [.agg [.d (.int .i64 2), .d (.int .i64 1), .d (.int .i64 120), .d (.int .i64 0), .d (.int .i64 0), .d (.int .i64 0), .d (.int .i64 0), .d (.int .i64 0), .d (.int .i64 0)]] (.d (.str [114, 49, 32, 61, 32, 108, 111, 97, 100, 32, 120, 32, 59])) := by
    have h := ins_pure (x := ⟨2, 1, 120, ⟨0, 0⟩, 0, ⟨0, 0⟩, 0⟩) ⟨o, z, z, z, z, z⟩
    have e : insT ⟨2, 1, 120, ⟨0, 0⟩, 0, ⟨0, 0⟩, 0⟩ = [114, 49, 32, 61, 32, 108, 111, 97, 100, 32, 120, 32, 59] := by
      have e1 : Lib.itoa 1 = [49] := by rw [Lib.itoa, if_neg (by omega)]; exact Lib.decDigits_one (by omega)
      have e2 : okInsB ⟨2, 1, 120, ⟨0, 0⟩, 0, ⟨0, 0⟩, 0⟩ = true := by decide
      have e3 : locT 120 = [120] := by decide
      unfold insT partsI regT
      rw [if_pos e2]
      simp [e1, e3, Lib.join, List.intercalate]
    rw [e] at h
    exact h
  have h2 : Pure Tryd.prog 12 [.agg [.d (.int .i64 0), .d (.int .i64 0), .d (.int .i64 0), .d (.int .i64 0), .d (.int .i64 0), .d (.int .i64 0), .d (.int .i64 0), .d (.int .i64 0), .d (.int .i64 0)]] (.d (.str [])) := by
    have h := ins_pure (x := ⟨0, 0, 0, ⟨0, 0⟩, 0, ⟨0, 0⟩, 0⟩) ⟨z, z, z, z, z, z⟩
    have e : insT ⟨0, 0, 0, ⟨0, 0⟩, 0, ⟨0, 0⟩, 0⟩ = [] := by
      unfold insT
      rw [if_neg (by decide)]
    rw [e] at h
    exact h
  have nilS : ∀ {α : Type} (f : α → List DV), IsSl f [] .nsl := fun f => ⟨by simp, .inl ⟨rfl, rfl⟩⟩
  have h3 : ∀ nm : List UInt8, nm.length ≤ 1 → Pure Tryd.prog 9 [.agg [.d (.str nm), .d .nsl, .d .nsl, .d (.int .i64 0), .d .nsl]] (.d (.bool (okB ⟨nm, [], [], 0, []⟩))) := fun nm hn =>
    ok_pure (t := ⟨nm, [], [], 0, []⟩) (cs := [.str nm, .nsl, .nsl, .int .i64 0, .nsl]) ⟨.nsl, .nsl, .nsl, rfl, nilS _, ⟨[], nilS _, trivial⟩, ⟨[], nilS _, trivial⟩⟩ (by show nm.length ≤ _; omega)
  have h4 := h3 [97] (by simp)
  have h5 := h3 [] (by simp)
  have e4 : okB ⟨[97], [], [], 0, []⟩ = true := by decide
  have e5 : okB ⟨[], [], [], 0, []⟩ = false := by decide
  rw [e4] at h4
  rw [e5] at h5
  refine acalls_of Tryd.func10 ac10_ok Tryd.ntmps10 Tryd.results10 rfl ?_
  unfold ac10
  refine bwp_seq fun K hK => bwp_region rfl ?_
  simp -implicitDefEqProofs only [go_sem, ↓reduceIte, Nat.reduceEqDiff, Nat.reduceAdd, Nat.reduceLeDiff, Nat.reduceMul, Nat.reduceSub, Int.reduceLE, Int.reduceLT, Int.reduceEq, Int.reduceToNat, Int.reducePow, Int.reduceNeg]
  refine hK _ ?_; clear hK
  refine bwp_seq fun K hK => bwp_region rfl ?_
  simp -implicitDefEqProofs only [go_sem, ↓reduceIte, Nat.reduceEqDiff, Nat.reduceAdd, Nat.reduceLeDiff, Nat.reduceMul, Nat.reduceSub, Int.reduceLE, Int.reduceLT, Int.reduceEq, Int.reduceToNat, Int.reducePow, Int.reduceNeg]
  repeat' (first
    | (refine gateK_split (fun hb => ?_) (fun hb => ?_) <;> simp -implicitDefEqProofs only [go_sem, ↓reduceIte, Nat.reduceEqDiff, Nat.reduceAdd, Nat.reduceLeDiff, Nat.reduceMul, Nat.reduceSub, Int.reduceLE, Int.reduceLT, Int.reduceEq, Int.reduceToNat, Int.reducePow, Int.reduceNeg, hb])
    | (refine dGateK_split (fun hb => ?_) (fun hb => ?_) <;> simp -implicitDefEqProofs only [go_sem, ↓reduceIte, Nat.reduceEqDiff, Nat.reduceAdd, Nat.reduceLeDiff, Nat.reduceMul, Nat.reduceSub, Int.reduceLE, Int.reduceLT, Int.reduceEq, Int.reduceToNat, Int.reducePow, Int.reduceNeg, hb])
    | (refine callK_pure (h1) rfl rfl ?_; simp -implicitDefEqProofs only [go_sem, ↓reduceIte, Nat.reduceEqDiff, Nat.reduceAdd, Nat.reduceLeDiff, Nat.reduceMul, Nat.reduceSub, Int.reduceLE, Int.reduceLT, Int.reduceEq, Int.reduceToNat, Int.reducePow, Int.reduceNeg])
    | (refine dCallK_pure (h1) rfl rfl ?_; simp -implicitDefEqProofs only [go_sem, ↓reduceIte, Nat.reduceEqDiff, Nat.reduceAdd, Nat.reduceLeDiff, Nat.reduceMul, Nat.reduceSub, Int.reduceLE, Int.reduceLT, Int.reduceEq, Int.reduceToNat, Int.reducePow, Int.reduceNeg])
    | (refine callK_pure (h2) rfl rfl ?_; simp -implicitDefEqProofs only [go_sem, ↓reduceIte, Nat.reduceEqDiff, Nat.reduceAdd, Nat.reduceLeDiff, Nat.reduceMul, Nat.reduceSub, Int.reduceLE, Int.reduceLT, Int.reduceEq, Int.reduceToNat, Int.reducePow, Int.reduceNeg])
    | (refine dCallK_pure (h2) rfl rfl ?_; simp -implicitDefEqProofs only [go_sem, ↓reduceIte, Nat.reduceEqDiff, Nat.reduceAdd, Nat.reduceLeDiff, Nat.reduceMul, Nat.reduceSub, Int.reduceLE, Int.reduceLT, Int.reduceEq, Int.reduceToNat, Int.reducePow, Int.reduceNeg])
    | (refine callK_pure (h4) rfl rfl ?_; simp -implicitDefEqProofs only [go_sem, ↓reduceIte, Nat.reduceEqDiff, Nat.reduceAdd, Nat.reduceLeDiff, Nat.reduceMul, Nat.reduceSub, Int.reduceLE, Int.reduceLT, Int.reduceEq, Int.reduceToNat, Int.reducePow, Int.reduceNeg])
    | (refine dCallK_pure (h4) rfl rfl ?_; simp -implicitDefEqProofs only [go_sem, ↓reduceIte, Nat.reduceEqDiff, Nat.reduceAdd, Nat.reduceLeDiff, Nat.reduceMul, Nat.reduceSub, Int.reduceLE, Int.reduceLT, Int.reduceEq, Int.reduceToNat, Int.reducePow, Int.reduceNeg])
    | (refine callK_pure (h5) rfl rfl ?_; simp -implicitDefEqProofs only [go_sem, ↓reduceIte, Nat.reduceEqDiff, Nat.reduceAdd, Nat.reduceLeDiff, Nat.reduceMul, Nat.reduceSub, Int.reduceLE, Int.reduceLT, Int.reduceEq, Int.reduceToNat, Int.reducePow, Int.reduceNeg])
    | (refine dCallK_pure (h5) rfl rfl ?_; simp -implicitDefEqProofs only [go_sem, ↓reduceIte, Nat.reduceEqDiff, Nat.reduceAdd, Nat.reduceLeDiff, Nat.reduceMul, Nat.reduceSub, Int.reduceLE, Int.reduceLT, Int.reduceEq, Int.reduceToNat, Int.reducePow, Int.reduceNeg]))
  refine hK _ ?_; clear hK
  refine bwp_ret ?_
  simp only [go_sem]
  refine aend_ret _ rfl rfl ⟨?_, rfl⟩
  simp [fget]

end Go.Proofs.YtgfkgngpganllaaDoor
