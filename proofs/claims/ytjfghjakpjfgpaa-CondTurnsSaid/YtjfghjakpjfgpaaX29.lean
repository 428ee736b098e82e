/- The abstract layer, part 29: loops by families of states; elements of data slices at hand. -/
import Derived.Test.YtjfghjakpjfgpaaX28
namespace Go.Jq
open Go

theorem exists_least (p : Nat → Prop) : ∀ n, p n → ∃ m, p m ∧ ∀ k, k < m → ¬ p k := by
  intro n
  induction n using Nat.strongRecOn with
  | ind n ih =>
    intro hn
    by_cases h : ∃ k, k < n ∧ p k
    · obtain ⟨k, hk, hp⟩ := h
      exact ih k hk hp
    · exact ⟨n, hn, fun k hk hp => h ⟨k, hk, hp⟩⟩

section
variable {P : Program} {n0 k : Nat} {Q : Exit → St → Prop}

/-- A loop: a family of states, each of which leads to one of a lower rank, or out. -/
theorem bwp_fam {ι : Type} {b : ACode} (F : ι → St) (rank : ι → Nat) (i0 : ι)
    (h : ∀ i, BWP P n0 k b (F i) (Exit.thenA (fun S' => ∃ j, rank j < rank i ∧ Leads n0 k S' (F j)) Q)) : BWP P n0 k (.loop b) (F i0) Q := by
  classical
  have least : ∀ S, (∃ i, F i = S) → ∃ m, (∃ i, F i = S ∧ rank i = m) ∧ ∀ j, F j = S → m ≤ rank j := by
    rintro S ⟨i, hi⟩
    obtain ⟨m, hm, hl⟩ := exists_least (fun m => ∃ i, F i = S ∧ rank i = m) (rank i) ⟨i, hi, rfl⟩
    refine ⟨m, hm, fun j hj => ?_⟩
    rcases Nat.lt_or_ge (rank j) m with hlt | hge
    · exact absurd ⟨j, hj, rfl⟩ (hl _ hlt)
    · exact hge
  refine bwp_loop (fun S => ∃ i, F i = S) (fun S => if hS : ∃ i, F i = S then Classical.choose (least S hS) else 0) ⟨i0, rfl⟩ ?_
  intro S hS
  have hsp := Classical.choose_spec (least S hS)
  obtain ⟨⟨i, rfl, hi⟩, _⟩ := hsp
  refine bwp_mono (h i) ?_
  intro e S' hq
  cases e with
  | normal =>
    obtain ⟨j, hj, hle⟩ := hq
    refine ⟨F j, hle, ⟨j, rfl⟩, ?_⟩
    have hj' : ∃ i, F i = F j := ⟨j, rfl⟩
    have h1 := (Classical.choose_spec (least (F j) hj')).2 j rfl
    simp only [dif_pos hS, dif_pos hj']
    omega
  | _ => exact hq

/-- A counted loop. -/
theorem bwp_count {b : ACode} (F : Nat → St) (N : Nat)
    (h : ∀ i, i ≤ N → BWP P n0 k b (F i) (Exit.thenA (fun S' => i < N ∧ Leads n0 k S' (F (i + 1))) Q)) : BWP P n0 k (.loop b) (F 0) Q := by
  refine bwp_fam (ι := Fin (N + 1)) (fun i => F i.1) (fun i => N - i.1) ⟨0, Nat.succ_pos _⟩ ?_
  rintro ⟨i, hi⟩
  refine bwp_mono (h i (Nat.le_of_lt_succ hi)) ?_
  intro e S' hq
  cases e with
  | normal =>
    obtain ⟨hlt, hle⟩ := hq
    exact ⟨⟨i + 1, Nat.succ_lt_succ hlt⟩, by simp only; omega, hle⟩
  | _ => exact hq

/-- A counted loop with what is known on the way. -/
theorem bwp_countI {b : ACode} (F : Nat → St) (p : Nat → Prop) (N : Nat) (h0 : p 0)
    (h : ∀ i, i ≤ N → p i → BWP P n0 k b (F i) (Exit.thenA (fun S' => i < N ∧ p (i + 1) ∧ Leads n0 k S' (F (i + 1))) Q)) : BWP P n0 k (.loop b) (F 0) Q := by
  refine bwp_fam (ι := { i : Nat // i ≤ N ∧ p i }) (fun i => F i.1) (fun i => N - i.1) ⟨0, Nat.zero_le _, h0⟩ ?_
  rintro ⟨i, hi, hp⟩
  refine bwp_mono (h i hi hp) ?_
  intro e S' hq
  cases e with
  | normal =>
    obtain ⟨hlt, hp', hle⟩ := hq
    exact ⟨⟨i + 1, hlt, hp'⟩, by simp only; omega, hle⟩
  | _ => exact hq

end

/-- An element of a data slice, its cells at hand. -/
theorem IsSl.at {α : Type} {enc : α → List DV} {w : Nat} (hk : ∀ a, (enc a).length = w) (hk0 : 0 < w) {l : List α} {X : DV} (h : IsSl enc l X) (i : Nat) (hi : i < l.length) :
    ∃ cs rest, X = .sl l.length cs ∧ cs.drop (i * w) = enc l[i] ++ rest ∧ i * w < cs.length := by
  obtain ⟨_, h⟩ := h
  rcases h with ⟨_, rfl⟩ | rfl
  · simp at hi
  · have hget : l[i]? = some l[i] := by simp [hi]
    obtain ⟨h1, h2⟩ := flat_get hk l i _ hget
    refine ⟨_, ((l.flatMap enc).drop (i * w)).drop w, rfl, ?_, by omega⟩
    rw [← h1, List.take_append_drop]

theorem IsSl.len {α : Type} {enc : α → List DV} {l : List α} {X : DV} (h : IsSl enc l X) : lenA (.d X) = some l.length := by
  obtain ⟨_, h⟩ := h
  rcases h with ⟨rfl, rfl⟩ | rfl <;> rfl

/-- The same for slices of slices. -/
theorem IsSl2.at {α : Type} {enc : α → List DV} {ls : List (List α)} {X : DV} (h : IsSl2 enc ls X) (i : Nat) (hi : i < ls.length) :
    ∃ cs d rest, X = .sl ls.length cs ∧ cs.drop i = d :: rest ∧ i < cs.length ∧ IsSl enc ls[i] d := by
  obtain ⟨ds, ⟨_, h⟩, hs⟩ := h
  have hl := hs.length
  rcases h with ⟨_, rfl⟩ | rfl
  · simp at hl; rw [← hl] at hi; simp at hi
  · obtain ⟨d, hd, hsl⟩ := hs.get i ls[i] (by simp [hi])
    refine ⟨ds, d, ds.drop (i + 1), by simp [hl], ?_, by omega, hsl⟩
    obtain ⟨h1, h2⟩ := List.getElem?_eq_some_iff.1 hd
    rw [List.drop_eq_getElem_cons h1, h2]

theorem IsSl2.len {α : Type} {enc : α → List DV} {ls : List (List α)} {X : DV} (h : IsSl2 enc ls X) : lenA (.d X) = some ls.length := by
  obtain ⟨ds, h, hs⟩ := h
  rw [h.len, hs.length]

theorem IsSl2.big {α : Type} {enc : α → List DV} {ls : List (List α)} {X : DV} (h : IsSl2 enc ls X) : ls.length ≤ 9223372036854775807 := by
  obtain ⟨ds, h, hs⟩ := h
  rw [← hs.length]; exact h.1

theorem foldl_next {α β : Type} (f : β → α → β) (b : β) (l : List α) (i : Nat) (h : i < l.length) : (l.take (i + 1)).foldl f b = f ((l.take i).foldl f b) l[i] := by
  rw [List.take_add_one, List.getElem?_eq_getElem h, Option.toList_some, List.foldl_append]
  rfl

theorem foldl_all {α β : Type} (f : β → α → β) (b : β) (l : List α) : (l.take l.length).foldl f b = l.foldl f b := by
  rw [List.take_of_length_le (Nat.le_refl _)]

/-- Bools' cells. -/
def bcells (th : List Bool) : List AV := (th.map DV.bool).map .d

@[go_sem, simp] theorem bcells_set (th : List Bool) (q : Nat) (b : Bool) : (bcells th).set q (.d (.bool b)) = bcells (th.set q b) := by
  simp [bcells, List.map_set]
@[go_sem, simp] theorem bcells_len (th : List Bool) : (bcells th).length = th.length := by simp [bcells]
@[go_sem, simp] theorem bcells_ren (π : Nat → Option Nat) (th : List Bool) : renL π (bcells th) = bcells th := renL_d _ _
@[go_sem] theorem bcells_get (th : List Bool) (q : Nat) : (bcells th)[q]? = th[q]?.map fun b => .d (.bool b) := by
  simp [bcells, Function.comp_def]
@[simp] theorem bcells_cv (π : Nat → Option Nat) (Z : Nat → Option (List DV)) (th : List Bool) : cvL π Z (bcells th) = bcells th := cvL_d _ _ _

/-- A number's lowest eight bits. -/
def low8 (x : Int) : Nat := (bits .and .i64 x 255).toNat

theorem low8_eq (x : Int) : bits .and .i64 x 255 = (low8 x : Int) := by
  obtain ⟨q, _, h⟩ := bits_and_le x 255 (by omega)
  have h' : bits .and .i64 x 255 = (q : Int) := h
  simp [low8, h']

theorem low8_le (x : Int) : low8 x ≤ 255 := by
  obtain ⟨q, hq, h⟩ := bits_and_le x 255 (by omega)
  have h' : bits .and .i64 x 255 = (q : Int) := h
  simp [low8, h', hq]

/-- A slice of bytes: nil, or theirs. -/
theorem bytes_len {s : List UInt8} : lenA (.d (bytesD s)) = some s.length := rfl

theorem bytes_at (s : List UInt8) (i : Nat) (hi : i < s.length) : ∃ rest, (s.map fun b => DV.int .u8 b.toNat).drop i = .int .u8 s[i].toNat :: rest := by
  refine ⟨(s.map fun b => DV.int .u8 b.toNat).drop (i + 1), ?_⟩
  rw [List.drop_eq_getElem_cons (by simpa using hi), List.getElem_map]

theorem inL_data (l : List DV) : inL (fun _ => none) (l.map .d) = true := by
  induction l with
  | nil => rfl
  | cons a l ih => simp [inL, inB, ih]

/-- A slice's first elements. -/
theorem IsSl.take {α : Type} {enc : α → List DV} {w : Nat} (hk : ∀ a, (enc a).length = w) {l : List α} {X : DV} (h : IsSl enc l X) (k : Nat) (hk : k ≤ l.length) : ∃ X', slcA w 0 k l.length (.d X) = some (.d X') ∧ IsSl enc (l.take k) X' := by
  obtain ⟨hb, h⟩ := h
  rcases h with ⟨rfl, rfl⟩ | rfl
  · simp only [List.length_nil, Nat.le_zero] at hk
    subst hk
    exact ⟨.nsl, rfl, by simp, .inl ⟨rfl, rfl⟩⟩
  · refine ⟨.sl k ((l.flatMap enc).take (k * w)), ?_, ?_, .inr ?_⟩
    · simp [slcA, hk]
    · simp; omega
    · have : (l.flatMap enc).take (k * w) = (l.take k).flatMap enc := by
        clear hb
        induction l generalizing k with
        | nil => simp
        | cons a l ih =>
          cases k with
          | zero => simp
          | succ k =>
            simp only [List.take_succ_cons, List.flatMap_cons]
            rw [List.take_append, ← ih k (by simpa using hk)]
            have h1 : (enc a).take ((k + 1) * w) = enc a := List.take_of_length_le (by simp only [*]; rw [Nat.succ_mul]; omega)
            have h2 : (k + 1) * w - (enc a).length = k * w := by simp only [*]; rw [Nat.succ_mul]; omega
            rw [h1, h2]
      rw [this]
      simp; omega

end Go.Jq
