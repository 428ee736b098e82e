/- The abstract layer, part 27: from a law's contract to what its row asks. -/
import Derived.Test.YtjfghjakpjfgpaaX26
import Derived.Below
import Derived.ProofKit
namespace Go.Jq
open Go Go.RowKit Go.ChangeAt Go.ChangeShapes Go.WideShapes

/-- The context at the row's call: all blocks are data's. -/
def ctx0 (w : World) : Ctx := ⟨fun _ => .free, fun b => b < w.heap.size⟩

theorem calls_of_pure {P : Program} {f : Nat} {args : List AV} (h : Pure P f args (.d (.bool true))) {w : World} {vs : List Value} (hr : RelL (ctx0 w) w args vs) :
    Calls P f vs.toArray w fun e w' => e = .returned (.bool true) ∧ Below w.heap.size w w' := by
  have hM : MR (ctx0 w) [] w := ⟨fun id cells h => by simp [mget] at h, fun id id' b h => by simp [mget] at h, fun b hb => hb⟩
  refine (h (ctx0 w) w vs hr hM fun id _ => rfl).mono ?_
  rintro e w' ⟨v, r, m', c', rfl, ⟨rfl, rfl⟩, hrel, _, hs, _⟩
  simp only [Rel, RelD] at hrel
  subst hrel
  exact ⟨rfl, hs.os, hs.tape, hs.output, hs.size, fun b hb => hs.keep b hb fun ⟨id, h1, _⟩ => by simp [mget] at h1⟩

section
variable {H : Type} {enc : TypeId × Value → H} {P : Program} {w : World} {base : Nat} {spare : Nat → Bool} {held : Bool} {t : TypeId} {v : Value} {d : DataW H} {p : List MemPlace}

theorem arg_struct {k : Nat} {ss : List Sh} {fs : Array Field} (hs : shOf P k t = some ss) (hu : P.underlying t = some (.struct fs)) {b0 : Nat} (hok : Value.okWide P w .any b0 t v) (h : DataW.Trod enc P w base spare held t v d p) :
    ∃ ds, FitsL ss ds ∧ Rel (ctx0 w) w (.agg (ds.map .d)) v := by
  obtain ⟨fuel, hf⟩ := h
  obtain ⟨ds, h1, h2⟩ := trod_rel (I := (ctx0 w).imm) (fun b hb => hb) k t ss fuel _ _ hs hf
  unfold Value.okWide at hok
  rw [hu] at hok
  obtain ⟨cs, rfl, _⟩ := hok
  refine ⟨ds, h1, ?_⟩
  simp only [Rel]
  exact ⟨cs.toList, by simp, h2.relL⟩

theorem arg_one {k : Nat} {s : Sh} (hs : shOf P k t = some [s]) (hv : v.cells = #[v]) (h : DataW.Trod enc P w base spare held t v d p) : ∃ x, Fits s x ∧ Rel (ctx0 w) w (.d x) v := by
  obtain ⟨fuel, hf⟩ := h
  obtain ⟨ds, h1, h2⟩ := trod_rel (I := (ctx0 w).imm) (fun b hb => hb) k t [s] fuel _ _ hs hf
  simp only [FitsL] at h1
  obtain ⟨x, r, rfl, h3, rfl⟩ := h1
  rw [hv] at h2
  simp only [RelDL, List.cons.injEq] at h2
  obtain ⟨u, r, ⟨h4, _⟩, h5, _⟩ := h2
  subst h4
  exact ⟨x, h3, by simp only [Rel]; exact h5⟩

end

theorem fits_ints {k : IntKind} : ∀ {n : Nat} {ds : List DV}, FitsL (List.replicate n (.int k)) ds → ∃ l : List Int, l.length = n ∧ ds = l.map (.int k)
  | 0, ds, h => by simp only [List.replicate_zero, FitsL] at h; exact ⟨[], rfl, h⟩
  | n + 1, ds, h => by
    simp only [List.replicate_succ, FitsL, Fits] at h
    obtain ⟨d, r, rfl, ⟨m, rfl, _⟩, h⟩ := h
    obtain ⟨l, hl, rfl⟩ := fits_ints h
    exact ⟨m :: l, by simp [hl], rfl⟩

theorem fits_sl_ints {d : DV} (h : Fits (.sl [.int .i64]) d) : ∃ l : List Int, IsInts l d := by
  simp only [Fits] at h
  rcases h with rfl | ⟨rows, rfl, hm, hr⟩
  · exact ⟨[], by simp, .inl ⟨rfl, rfl⟩⟩
  · have : ∀ rows : List (List DV), (∀ r ∈ rows, FitsL [.int .i64] r) → ∃ l : List Int, l.length = rows.length ∧ rows.flatten = l.map (.int .i64) := by
      intro rows
      induction rows with
      | nil => intro _; exact ⟨[], rfl, rfl⟩
      | cons r rows ih =>
        intro h
        obtain ⟨l, h1, h2⟩ := ih fun r hr => h r (List.mem_cons_of_mem _ hr)
        have h3 := h r List.mem_cons_self
        simp only [FitsL, Fits] at h3
        obtain ⟨d, r', rfl, ⟨n, rfl, _⟩, rfl⟩ := h3
        exact ⟨n :: l, by simp [h1], by simp [h2]⟩
    obtain ⟨l, h1, h2⟩ := this rows hr
    refine ⟨l, ?_, .inr ?_⟩
    · have : maxLen = 9223372036854775807 := rfl
      simp; omega
    · simp [h1, h2]

end Go.Jq
