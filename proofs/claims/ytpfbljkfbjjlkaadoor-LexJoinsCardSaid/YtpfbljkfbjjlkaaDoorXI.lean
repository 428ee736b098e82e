/- The abstract layer: guards that hang on a test not yet decided. -/
import Derived.Test.YtpfbljkfbjjlkaaDoorXG
namespace Go.Jq
open Go

section
variable {P : Program} {dst : Option Nat} {op : AOp} {r : List AOper} {K : St → Prop} {t : Fr} {m : Mem} {n : Nat} {want b : Bool} {acc : List Foot} {ms : List Nat}

theorem gateK_split (h1 : b = true → gateK P dst op r K t m n want (.d (.bool true))) (h0 : b = false → gateK P dst op r K t m n want (.d (.bool false))) : gateK P dst op r K t m n want (.d (.bool b)) := by
  cases b
  · exact h0 rfl
  · exact h1 rfl

theorem dGateK_split (h1 : b = true → dGateK P dst op r acc ms K t m n want (.d (.bool true))) (h0 : b = false → dGateK P dst op r acc ms K t m n want (.d (.bool false))) : dGateK P dst op r acc ms K t m n want (.d (.bool b)) := by
  cases b
  · exact h0 rfl
  · exact h1 rfl

theorem bwp_condB {n0 k : Nat} {S : St} {Q : Exit → St → Prop} {c : Opd} {x y : ACode} (hc : ev S.t c = .d (.bool b)) (ht : b = true → BWP P n0 k x S Q) (hf : b = false → BWP P n0 k y S Q) : BWP P n0 k (.cond c x y) S Q :=
  bwp_cond b hc ht hf

end

theorem take_snoc {α : Type} (l : List α) (i : Nat) (h : i < l.length) : l.take (i + 1) = l.take i ++ [l[i]] := by
  rw [List.take_add_one, List.getElem?_eq_getElem h]; rfl

end Go.Jq
