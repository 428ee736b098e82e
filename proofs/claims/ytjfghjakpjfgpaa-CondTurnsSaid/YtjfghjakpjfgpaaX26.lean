/- The abstract layer, part 26: a row's reading of a value, told as data. -/
import Derived.Test.YtjfghjakpjfgpaaX25
namespace Go.Jq
open Go

section
variable {H : Type} {enc : TypeId × Value → H} {P : Program} {w : World} {base : Nat} {spare : Nat → Bool} {held : Bool} {I : Nat → Prop} (hI : ∀ b, b < w.heap.size → I b)

theorem cells_get {a : Addr} {n : Nat} {cs : List Value} (h : w.cells? base a n = some cs) : cs.length = n ∧ ∀ i, i < n → w.cell? (a.add i) = cs[i]? := by
  unfold World.cells? at h
  split at h
  · exact ⟨by simpa using mapM_some_length h, fun i hi => mapM_some_get h i i (by simp [hi])⟩
  · cases h

theorem cell_lt {a : Addr} {v : Value} (h : w.cell? a = some v) : a.block < w.heap.size ∧ a.spot = none := by
  unfold World.cell? at h
  split at h
  · rename_i c T f hb
    refine ⟨?_, ?_⟩
    · rcases Nat.lt_or_ge a.block w.heap.size with h1 | h1
      · exact h1
      · rw [Array.getElem?_eq_none h1] at hb; cases hb
    · split at h
      · cases h
      · rename_i hs; simpa using hs
  · cases h

theorem shFs_trod {f : TypeId → Option (List Sh)} {g : TypeId → List Value → Option (DataW H × List MemPlace)} (hfg : ∀ t ss cs x, f t = some ss → g t cs = some x → ∃ ds, FitsL ss ds ∧ RelDL I w ds cs) (cs : List Value) :
    ∀ (fs : List Field) (acc : Nat) (ss : List Sh), shFs P f fs acc = some ss → acc + ss.length = cs.length → (∀ fd ∈ fs, ∃ x, g fd.type ((cs.drop fd.offset).take (P.cellsOf fd.type)) = some x) → ∃ ds, FitsL ss ds ∧ RelDL I w ds (cs.drop acc)
  | [], acc, ss, h, hl, _ => by
    simp only [shFs, Option.some.injEq] at h
    subst h
    exact ⟨[], rfl, by simp only [RelDL]; exact List.drop_eq_nil_of_le (by simpa using Nat.le_of_eq hl.symm)⟩
  | fd :: fs, acc, ss, h, hl, hx => by
    simp only [shFs] at h
    split at h
    · rename_i s hs
      split at h
      · rename_i hc
        rw [Option.map_eq_some_iff] at h
        obtain ⟨r, hr, rfl⟩ := h
        obtain ⟨x, hx1⟩ := hx fd List.mem_cons_self
        obtain ⟨ds, h1, h2⟩ := hfg _ _ _ _ hs hx1
        obtain ⟨ds', h3, h4⟩ := shFs_trod hfg cs fs (acc + s.length) r hr (by simp at hl; omega) fun fd' h => hx fd' (List.mem_cons_of_mem _ h)
        refine ⟨ds ++ ds', h1.append h3, ?_⟩
        have h5 := h2.append h4
        rw [hc.1, hc.2, ← List.drop_drop, List.take_append_drop] at h5
        exact h5
      · cases h
    · cases h

include hI in
theorem trod_rel : ∀ (k : Nat) (t : TypeId) (ss : List Sh) (fuel : Nat) (cs : List Value) (x : DataW H × List MemPlace), shOf P k t = some ss → DataW.trod enc P w base spare held fuel t cs = some x → ∃ ds, FitsL ss ds ∧ RelDL I w ds cs
  | 0, _, _, _, _, _, h, _ => by simp [shOf] at h
  | k + 1, t, ss, fuel, cs, x, h, hx => by
    simp only [shOf] at h
    split at h
    · rename_i hu
      cases h
      obtain ⟨b, rfl, _⟩ := DataW.trod_bool hu hx
      exact ⟨[.bool b], by simp only [FitsL, Fits]; exact ⟨_, _, rfl, ⟨b, rfl⟩, rfl⟩, by simp [RelDL, RelD]⟩
    · rename_i q hu
      cases h
      obtain ⟨n, rfl, _, hw⟩ := DataW.trod_int hu hx
      exact ⟨[.int q n], by simp only [FitsL, Fits]; exact ⟨_, _, rfl, ⟨n, rfl, hw⟩, rfl⟩, by simp [RelDL, RelD]⟩
    · rename_i hu
      cases h
      obtain ⟨s, rfl, _, hw⟩ := DataW.trod_string hu hx
      exact ⟨[.str s.data.toList], by simp only [FitsL, Fits]; exact ⟨_, _, rfl, ⟨_, rfl, by simpa using hw⟩, rfl⟩, by simp [RelDL, RelD]⟩
    · rename_i e hu
      split at h
      · rename_i es hes
        split at h
        · rename_i hc
          cases h
          obtain ⟨hlen, hne⟩ := hc
          rcases DataW.trod_slice hu hx with ⟨rfl, _⟩ | ⟨a, len, cap, elems, rest, n, _, rfl, _, hb, hl, hm, hel, hcell, _⟩
          · exact ⟨[.nsl], by simp only [FitsL, Fits]; exact ⟨_, _, rfl, .inl rfl, rfl⟩, by simp [RelDL, RelD]⟩
          · have each : ∀ i, i < len → ∃ r : List DV, ∃ csi, w.cells? base (a.add (i * P.cellsOf e)) (P.cellsOf e) = some csi ∧ FitsL es r ∧ RelDL I w r csi := by
              intro i hi
              have h1 := hcell i hi
              rw [List.getElem?_eq_getElem (by omega), Option.bind_eq_some_iff] at h1
              obtain ⟨csi, h2, h3⟩ := h1
              obtain ⟨r, h4, h5⟩ := trod_rel k e es n csi _ hes h3
              exact ⟨r, csi, h2, h4, h5⟩
            obtain ⟨rows, hrl, hrows⟩ := list_of len each
            have hfit : ∀ r ∈ rows, FitsL es r := fun r hr => by
              obtain ⟨i, hi⟩ := List.mem_iff_getElem?.1 hr
              obtain ⟨_, _, h2, _⟩ := hrows i r hi
              exact h2
            refine ⟨[.sl rows.length rows.flatten], by simp only [FitsL, Fits]; exact ⟨_, _, rfl, .inr ⟨rows, rfl, by omega, hfit⟩, rfl⟩, ?_⟩
            simp only [RelDL, RelD]
            refine ⟨_, _, rfl, ⟨some a, cap, by rw [hrl], by omega, ?_⟩, rfl⟩
            rcases Nat.eq_zero_or_pos len with h0 | h0
            · have : rows = [] := List.eq_nil_of_length_eq_zero (by omega)
              subst this
              exact .inl ⟨rfl, rfl⟩
            · right
              have hr0 : rows[0]? = some rows[0] := List.getElem?_eq_getElem (by omega)
              obtain ⟨cs0, h1, h2, h3⟩ := hrows 0 _ hr0
              obtain ⟨hl0, hg0⟩ := cells_get h1
              have hpos : 0 < P.cellsOf e := by omega
              have hc0 : ∃ v, w.cell? a = some v := by
                have := hg0 0 hpos
                rw [List.getElem?_eq_getElem (by omega)] at this
                have e1 : (a.add (0 * P.cellsOf e)).add 0 = a := by simp [Addr.add]
                rw [e1] at this
                exact ⟨_, this⟩
              obtain ⟨v, hv⟩ := hc0
              obtain ⟨hlt, hsp⟩ := cell_lt hv
              obtain ⟨ab, ao, asp⟩ := a
              simp only at hlt hsp
              subst hsp
              refine ⟨ab, ao, rfl, hI ab hlt, ?_⟩
              have := RelDs.flatten (I := I) (w := w) (k := es.length) (b := ab) (o := ao) (rows := rows) (i0 := 0) (fun r hr => (hfit r hr).length) fun i r hi => by
                obtain ⟨csi, h4, h5, h6⟩ := hrows i r hi
                obtain ⟨_, hg⟩ := cells_get h4
                refine RelDs.of_get fun j d hj => ?_
                obtain ⟨v, hv, hr⟩ := h6.get j d hj
                have hjl : j < P.cellsOf e := by
                  have := (List.getElem?_eq_some_iff.1 hj).1
                  rw [h5.length] at this
                  omega
                refine ⟨v, ?_, hr⟩
                have := hg j hjl
                rw [hv, addr_add, addr_add] at this
                rw [Nat.zero_add, hlen]
                exact this
              simpa using this
        · cases h
      · cases h
    · rename_i fs hu
      split at h
      · rename_i ss' hss
        split at h
        · rename_i hc
          cases h
          obtain ⟨xs, n, _, _, hcl, hxl, hget⟩ := DataW.trod_struct hu hx
          have := shFs_trod (P := P) (I := I) (w := w) (f := shOf P k) (g := fun t cs => DataW.trod enc P w base spare held n t cs) (fun t ss cs x h1 h2 => trod_rel k t ss n cs x h1 h2) cs fs.toList 0 ss hss (by omega) fun fd hfd => by
            obtain ⟨i, hi⟩ := List.mem_iff_getElem?.1 hfd
            rw [Array.getElem?_toList] at hi
            have h1 := hget i fd hi
            have h2 : i < fs.size := (Array.getElem?_eq_some_iff.1 hi).1
            rw [List.getElem?_eq_getElem (by omega)] at h1
            exact ⟨_, h1⟩
          simpa using this
        · cases h
      · cases h
    · rename_i n e hu
      split at h
      · rename_i es hes
        split at h
        · rename_i hc
          cases h
          obtain ⟨xs, m, _, _, hcl, hxl, hget⟩ := DataW.trod_array hu hx
          have key : ∀ q, q ≤ n → ∃ ds, FitsL (List.replicate q es).flatten ds ∧ RelDL I w ds (cs.take (q * es.length)) := by
            intro q
            induction q with
            | zero => intro _; exact ⟨[], by simp [FitsL], by simp [RelDL]⟩
            | succ q ih =>
              intro hq
              obtain ⟨ds, h1, h2⟩ := ih (by omega)
              have h3 := hget q (by omega)
              rw [List.getElem?_eq_getElem (by omega)] at h3
              obtain ⟨ds', h4, h5⟩ := trod_rel k e es m _ _ hes h3
              refine ⟨ds ++ ds', ?_, ?_⟩
              · rw [List.replicate_succ', List.flatten_append]
                simpa using h1.append h4
              · have := h2.append h5
                rw [← hc.1] at this
                rw [Nat.succ_mul, List.take_add]
                exact this
          obtain ⟨ds, h1, h2⟩ := key n (Nat.le_refl _)
          exact ⟨ds, h1, by rwa [List.take_of_length_le (by omega)] at h2⟩
        · cases h
      · cases h
    · cases h

end
end Go.Jq
