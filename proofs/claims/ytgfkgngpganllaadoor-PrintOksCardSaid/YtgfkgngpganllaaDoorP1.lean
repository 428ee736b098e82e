/- Numbers' texts, joined texts, told without a heap: what the shelf's contracts say, in the layer's words. -/
import Derived.Test.YtgfkgngpganllaaDoorXG
import Derived.Test.YtgfkgngpganllaaDoorAc
import Derived.Test.YtgfkgngpganllaaDoorSh
namespace Go.Proofs.YtgfkgngpganllaaDoor
open Go Go.Jq
set_option maxRecDepth 100000
set_option linter.unusedSimpArgs false

theorem gTab : Tryd.prog.globalNamed "internal/strconv.uint64pow10" = some 0 := by kernel_rfl

theorem tabIs {c : Ctx} {m : Mem} {w : World} (h : MR c m w) : Lib.TabIs Tryd.prog w "internal/strconv.uint64pow10" .u64 Lib.pow10Tab := by
  obtain ⟨_, T, f, h1⟩ := h.tab 0 (Lib.pow10Tab.map fun z => Value.int .u64 z).toArray rfl
  unfold Lib.TabIs World.var?
  rw [gTab]
  simp only [Option.bind_some, h1]

/-- A whole number of 64 bits. -/
def I64 (n : Int) : Prop := -9223372036854775808 ≤ n ∧ n ≤ 9223372036854775807

theorem nDigits_le : ∀ (k u : Nat), u < 10 ^ (k + 1) → Lib.nDigits u ≤ k + 1
  | 0, u, h => by rw [Lib.nDigits_small (by simpa using h)]; omega
  | k + 1, u, h => by
    by_cases hu : u < 10
    · rw [Lib.nDigits_small hu]; omega
    · rw [Lib.nDigits_big hu]
      have := nDigits_le k (u / 10) (by rw [Nat.pow_succ] at h; omega)
      omega

theorem itoa_len {n : Int} (h : I64 n) : (Lib.itoa n).length ≤ 20 := by
  obtain ⟨h0, h1⟩ := h
  unfold Lib.itoa
  split
  · have := nDigits_le 18 n.natAbs (by simp; omega)
    rw [List.length_cons, Lib.decDigits_length]; omega
  · have := nDigits_le 18 n.toNat (by simp; omega)
    rw [Lib.decDigits_length]; omega

theorem itoa_pos (n : Int) : 1 ≤ (Lib.itoa n).length := by
  unfold Lib.itoa
  split
  · simp
  · rw [Lib.decDigits_length]; exact Lib.nDigits_pos _

theorem fmt_pure {n : Int} (h : I64 n) : Pure Tryd.prog 66 [.d (.int .i64 n), .d (.int .i64 10)] (.d (.str (Lib.itoa n))) := by
  refine pure_of_below fun c w vs hr hM => ?_
  simp only [RelL, Rel, RelD] at hr
  obtain ⟨v1, vs1, rfl, rfl, v2, vs2, rfl, rfl, rfl⟩ := hr
  refine (Tryd.strconv_FormatInt_10 n h.1 h.2 w (tabIs hM)).mono ?_
  rintro e w' ⟨rfl, k, os, rfl⟩
  refine ⟨_, rfl, rfl, rfl, rfl, ?_, fun j hj => ?_, rfl⟩
  · simp [Go.Sort.grow, World.drewN]
  · simp only [Go.Sort.grow, World.drewN]
    exact Array.getElem?_append_left hj

theorem text_pure {n : Int} (h : I64 n) : Pure Tryd.prog 36 [.d (.int .i64 n)] (.d (.str (Lib.itoa n))) := by
  refine acalls_of Tryd.func36 ac36_ok Tryd.ntmps36 Tryd.results36 rfl ?_
  unfold ac36
  refine bwp_seq fun K hK => bwp_region rfl ?_
  simp -implicitDefEqProofs only [go_sem, ↓reduceIte, Nat.reduceEqDiff, Nat.reduceAdd, Nat.reduceLeDiff, Nat.reduceMul, Nat.reduceSub, Int.reduceLE, Int.reduceLT, Int.reduceEq, Int.reduceToNat, Int.reducePow, Int.reduceNeg]
  refine hK _ ?_; clear hK
  refine bwp_seq fun K hK => bwp_region rfl ?_
  simp -implicitDefEqProofs only [go_sem, ↓reduceIte, Nat.reduceEqDiff, Nat.reduceAdd, Nat.reduceLeDiff, Nat.reduceMul, Nat.reduceSub, Int.reduceLE, Int.reduceLT, Int.reduceEq, Int.reduceToNat, Int.reducePow, Int.reduceNeg]
  refine callK_pure (fmt_pure h) rfl rfl ?_
  simp -implicitDefEqProofs only [go_sem, ↓reduceIte, Nat.reduceEqDiff, Nat.reduceAdd, Nat.reduceLeDiff, Nat.reduceMul, Nat.reduceSub, Int.reduceLE, Int.reduceLT, Int.reduceEq, Int.reduceToNat, Int.reducePow, Int.reduceNeg]
  refine hK _ ?_; clear hK
  refine bwp_ret ?_
  simp only [go_sem]
  refine aend_ret _ rfl rfl ⟨?_, rfl⟩
  simp [fget]

/-- A slice of texts. -/
def IsStrs (ss : List (List UInt8)) (X : DV) : Prop := IsSl (fun s => [.str s]) ss X

theorem flatMap_one {α β : Type} (f : α → β) (l : List α) : l.flatMap (fun a => [f a]) = l.map f := by
  induction l with
  | nil => rfl
  | cons a l ih => simp [List.flatMap_cons, ih]

theorem join_pure {ss : List (List UInt8)} {X : DV} (hX : IsStrs ss X) (sep : List UInt8) (hn : ss.length ≤ 140737488355328) (hl : (Lib.join ss sep).length ≤ 140737488355328) :
    Pure Tryd.prog 41 [.d X, .d (.str sep)] (.d (.str (Lib.join ss sep))) := by
  refine pure_of_below fun c w vs hr hM => ?_
  simp only [RelL, Rel, RelD] at hr
  obtain ⟨v1, vs1, rfl, h1, v2, vs2, rfl, rfl, rfl⟩ := hr
  have none : ∀ a cap, ss = [] → Calls Tryd.prog 41 #[.slice a 0 cap, .string ⟨sep.toArray⟩] w fun e w' => ∃ u, e = .returned u ∧ w'.os = w.os ∧ w'.tape = w.tape ∧ w'.output = w.output ∧ w.heap.size ≤ w'.heap.size ∧
      (∀ k, k < w.heap.size → w'.heap[k]? = w.heap[k]?) ∧ Rel c w' (.d (.str (Lib.join ss sep))) u := by
    intro a cap h0
    refine (Tryd.strings_Join_none a cap ⟨sep.toArray⟩ w).mono ?_
    rintro e w' ⟨rfl, rfl⟩
    refine ⟨_, rfl, rfl, rfl, rfl, Nat.le_refl _, fun _ _ => rfl, ?_⟩
    subst h0
    rfl
  rcases hX.2 with ⟨rfl, h0⟩ | hX
  · simp only [RelD] at h1
    subst h1
    exact none _ _ h0
  · subst hX
    simp only [RelD] at h1
    obtain ⟨a, cap, rfl, hle, h1⟩ := h1
    rcases h1 with ⟨h0, _⟩ | ⟨b, o, rfl, hb, h1⟩
    · have h00 := List.eq_nil_of_length_eq_zero h0
      rw [h0]
      exact none _ _ h00
    · have e1 : (ss.map fun s => (⟨s.toArray⟩ : ByteArray)).map (·.data.toList) = ss := by
        rw [List.map_map]
        conv => rhs; rw [← List.map_id ss]
        exact List.map_congr_left fun s _ => by simp
      have h2 := Tryd.strings_Join b o cap (ss.map fun s => ⟨s.toArray⟩) ⟨sep.toArray⟩ w (fun j x hx => by
        simp only [List.getElem?_map, Option.map_eq_some_iff] at hx
        obtain ⟨s, hs, rfl⟩ := hx
        obtain ⟨u, hu, hr⟩ := RelDs.get h1 (i := j) (c := .str s) (by rw [flatMap_one, List.getElem?_map, hs]; rfl)
        simp only [RelD] at hr
        rw [hu, hr]) (hM.imm b hb) (by simpa using hn) (by simpa using hle) (by rw [e1]; exact hl)
      rw [List.length_map] at h2
      refine h2.mono ?_
      rintro e w' ⟨rfl, hbel⟩
      rw [e1]
      exact ⟨_, rfl, hbel.os, hbel.tape, hbel.output, hbel.size, hbel.block, rfl⟩

end Go.Proofs.YtgfkgngpganllaaDoor
