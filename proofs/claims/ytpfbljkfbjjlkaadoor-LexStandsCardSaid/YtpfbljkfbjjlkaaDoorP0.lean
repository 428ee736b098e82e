/- Numbers' texts, told without a heap: what the shelf's contracts say, in the layer's words. -/
import Derived.Test.YtpfbljkfbjjlkaaDoorXG
import Derived.Test.YtpfbljkfbjjlkaaDoorAc
import Derived.Test.YtpfbljkfbjjlkaaDoorSh
namespace Go.Proofs.YtpfbljkfbjjlkaaDoor
open Go Go.Jq
set_option maxRecDepth 100000
set_option linter.unusedSimpArgs false

theorem gTab : Tryd.prog.globalNamed "internal/strconv.uint64pow10" = some 3 := by kernel_rfl

theorem tabIs {c : Ctx} {m : Mem} {w : World} (h : MR c m w) : Lib.TabIs Tryd.prog w "internal/strconv.uint64pow10" .u64 Lib.pow10Tab := by
  obtain ⟨_, cs, T, f, h1, hcs⟩ := h.tab 3 _ rfl
  have hcs' : cs = (Lib.pow10Tab.map fun z => Value.int .u64 z).toArray := hcs
  unfold Lib.TabIs World.var?
  rw [gTab]
  simp only [Option.bind_some, h1, hcs']

/-- A whole number of 64 bits. -/
def I64 (n : Int) : Prop := -9223372036854775808 ≤ n ∧ n ≤ 9223372036854775807

theorem nDigits_le : ∀ (k u : Nat), u < 10 ^ (k + 1) → Lib.nDigits u ≤ k + 1
  | 0, u, h => by rw [Lib.nDigits_small (by simpa using h)]; omega
  | k + 1, u, h => by
    by_cases hu : u < 10
    · rw [Lib.nDigits_small hu]; omega
    · rw [Lib.nDigits_big hu]
      have := nDigits_le k (u / 10) (by rw [Nat.pow_succ] at h; omega)
      omega

theorem itoa_len {n : Int} (h : I64 n) : (Lib.itoa n).length ≤ 20 := by
  obtain ⟨h0, h1⟩ := h
  unfold Lib.itoa
  split
  · have := nDigits_le 18 n.natAbs (by simp; omega)
    rw [List.length_cons, Lib.decDigits_length]; omega
  · have := nDigits_le 18 n.toNat (by simp; omega)
    rw [Lib.decDigits_length]; omega

theorem itoa_pos (n : Int) : 1 ≤ (Lib.itoa n).length := by
  unfold Lib.itoa
  split
  · simp
  · rw [Lib.decDigits_length]; exact Lib.nDigits_pos _

theorem fmt_pure {n : Int} (h : I64 n) : Pure Tryd.prog 89 [.d (.int .i64 n), .d (.int .i64 10)] (.d (.str (Lib.itoa n))) := by
  refine pure_of_below fun c w vs hr hM => ?_
  simp only [RelL, Rel, RelD] at hr
  obtain ⟨v1, vs1, rfl, rfl, v2, vs2, rfl, rfl, rfl⟩ := hr
  refine (Tryd.strconv_FormatInt_10 n h.1 h.2 w (tabIs hM)).mono ?_
  rintro e w' ⟨rfl, k, os, rfl⟩
  refine ⟨_, rfl, rfl, rfl, rfl, ?_, fun j hj => ?_, rfl⟩
  · simp [Go.Sort.grow, World.drewN]
  · simp only [Go.Sort.grow, World.drewN]
    exact Array.getElem?_append_left hj

theorem text_pure {n : Int} (h : I64 n) : Pure Tryd.prog 69 [.d (.int .i64 n)] (.d (.str (Lib.itoa n))) := by
  refine acalls_of Tryd.func69 ac69_ok Tryd.ntmps69 Tryd.results69 rfl ?_
  unfold ac69
  refine bwp_seq fun K hK => bwp_region rfl ?_
  simp -implicitDefEqProofs only [go_sem, ↓reduceIte, Nat.reduceEqDiff, Nat.reduceAdd, Nat.reduceLeDiff, Nat.reduceMul, Nat.reduceSub, Int.reduceLE, Int.reduceLT, Int.reduceEq, Int.reduceToNat, Int.reducePow, Int.reduceNeg]
  refine hK _ ?_; clear hK
  refine bwp_seq fun K hK => bwp_region rfl ?_
  simp -implicitDefEqProofs only [go_sem, ↓reduceIte, Nat.reduceEqDiff, Nat.reduceAdd, Nat.reduceLeDiff, Nat.reduceMul, Nat.reduceSub, Int.reduceLE, Int.reduceLT, Int.reduceEq, Int.reduceToNat, Int.reducePow, Int.reduceNeg]
  refine callK_pure (fmt_pure h) rfl rfl ?_
  simp -implicitDefEqProofs only [go_sem, ↓reduceIte, Nat.reduceEqDiff, Nat.reduceAdd, Nat.reduceLeDiff, Nat.reduceMul, Nat.reduceSub, Int.reduceLE, Int.reduceLT, Int.reduceEq, Int.reduceToNat, Int.reducePow, Int.reduceNeg]
  refine hK _ ?_; clear hK
  refine bwp_ret ?_
  simp only [go_sem]
  refine aend_ret _ rfl rfl ⟨?_, rfl⟩
  simp [fget]

end Go.Proofs.YtpfbljkfbjjlkaaDoor
