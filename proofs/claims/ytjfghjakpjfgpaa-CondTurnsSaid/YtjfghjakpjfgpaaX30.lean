/- The abstract layer, part 30: slices of structs, and of slices of them, out of a row's reading. -/
import Derived.Test.YtjfghjakpjfgpaaX27
import Derived.Test.YtjfghjakpjfgpaaX29
namespace Go.Jq
open Go

theorem rows_of {α : Type} {enc : α → List DV} {p : α → Prop} {es : List Sh} (hrow : ∀ r, FitsL es r → ∃ a, p a ∧ r = enc a) : ∀ rows : List (List DV), (∀ r ∈ rows, FitsL es r) → ∃ l : List α, l.length = rows.length ∧ (∀ a ∈ l, p a) ∧ rows.flatten = l.flatMap enc
  | [], _ => ⟨[], rfl, by simp, rfl⟩
  | r :: rows, h => by
    obtain ⟨l, h1, h2, h3⟩ := rows_of hrow rows fun r hr => h r (List.mem_cons_of_mem _ hr)
    obtain ⟨a, ha, rfl⟩ := hrow r (h r List.mem_cons_self)
    refine ⟨a :: l, by simp [h1], ?_, by simp [h3]⟩
    intro b hb
    rcases List.mem_cons.1 hb with rfl | hb
    · exact ha
    · exact h2 b hb

theorem fits_sl {α : Type} {enc : α → List DV} {p : α → Prop} {es : List Sh} (hrow : ∀ r, FitsL es r → ∃ a, p a ∧ r = enc a) {d : DV} (h : Fits (.sl es) d) : ∃ l : List α, (∀ a ∈ l, p a) ∧ IsSl enc l d := by
  simp only [Fits] at h
  rcases h with rfl | ⟨rows, rfl, hm, hr⟩
  · exact ⟨[], by simp, by simp, .inl ⟨rfl, rfl⟩⟩
  · obtain ⟨l, h1, h2, h3⟩ := rows_of hrow rows hr
    have : maxLen = 9223372036854775807 := rfl
    exact ⟨l, h2, by omega, .inr (by rw [h3, h1])⟩

theorem sls_of {α : Type} {enc : α → List DV} {p : α → Prop} : ∀ {ds : List DV}, (∀ d ∈ ds, ∃ l : List α, (∀ a ∈ l, p a) ∧ IsSl enc l d) → ∃ ls : List (List α), (∀ l ∈ ls, ∀ a ∈ l, p a) ∧ IsSls enc ls ds
  | [], _ => ⟨[], by simp, trivial⟩
  | d :: ds, h => by
    obtain ⟨l, h1, h2⟩ := h d List.mem_cons_self
    obtain ⟨ls, h3, h4⟩ := sls_of fun d hd => h d (List.mem_cons_of_mem _ hd)
    refine ⟨l :: ls, ?_, h2, h4⟩
    intro b hb
    rcases List.mem_cons.1 hb with rfl | hb
    · exact h1
    · exact h3 b hb

theorem fits_sl2 {α : Type} {enc : α → List DV} {p : α → Prop} {es : List Sh} (hrow : ∀ r, FitsL es r → ∃ a, p a ∧ r = enc a) {d : DV} (h : Fits (.sl [.sl es]) d) : ∃ ls : List (List α), (∀ l ∈ ls, ∀ a ∈ l, p a) ∧ IsSl2 enc ls d := by
  obtain ⟨ds, hp, hd⟩ := fits_sl (α := DV) (enc := fun d => [d]) (p := fun d => ∃ l : List α, (∀ a ∈ l, p a) ∧ IsSl enc l d) (es := [.sl es]) (fun r hr => by
    simp only [FitsL] at hr
    obtain ⟨d, r', rfl, h1, rfl⟩ := hr
    exact ⟨d, fits_sl hrow h1, rfl⟩) h
  obtain ⟨ls, h1, h2⟩ := sls_of hp
  exact ⟨ls, h1, ds, hd, h2⟩

theorem fits_int {k : IntKind} {d : DV} (h : Fits (.int k) d) : ∃ n, d = .int k n ∧ (Lit.int k n).wf = true := by
  simpa only [Fits] using h

/-- A number that the kind int can hold. -/
def i64R (n : Int) : Prop := -9223372036854775808 ≤ n ∧ n ≤ 9223372036854775807

theorem wf_i64 {n : Int} (h : (Lit.int .i64 n).wf = true) : i64R n := by
  have e1 : IntKind.i64.min = -9223372036854775808 := rfl
  have e2 : IntKind.i64.max = 9223372036854775807 := rfl
  simp only [Lit.wf, e1, e2, Bool.and_eq_true, decide_eq_true_eq] at h
  exact h

end Go.Jq
