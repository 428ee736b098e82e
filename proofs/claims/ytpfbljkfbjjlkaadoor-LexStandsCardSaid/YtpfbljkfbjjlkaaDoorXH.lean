/- The abstract layer: from a row to data. -/
import Derived.Test.YtpfbljkfbjjlkaaDoorXF
import Derived.OpenShut
import Derived.ChangeOld
import Derived.Below
import Derived.ProofKit
import Derived.Test.YtpfbljkfbjjlkaaDoorXG
import Derived.ChangeShapes
/-! The abstract layer, part 25: what a row hands a law, told as data. -/
namespace Go.Jq
open Go

/-- A type's cells' kinds. -/
inductive Sh where
  | int (k : IntKind)
  | bool
  | str
  | sl (es : List Sh)

mutual
def Fits : Sh → DV → Prop
  | .int k, d => ∃ n, d = .int k n ∧ (Lit.int k n).wf = true
  | .bool, d => ∃ b, d = .bool b
  | .str, d => ∃ s : List UInt8, d = .str s ∧ s.length ≤ maxLen
  | .sl es, d => d = .nsl ∨ ∃ rows : List (List DV), d = .sl rows.length rows.flatten ∧ rows.length ≤ maxLen ∧ ∀ r ∈ rows, FitsL es r
def FitsL : List Sh → List DV → Prop
  | [], ds => ds = []
  | s :: ss, ds => ∃ d r, ds = d :: r ∧ Fits s d ∧ FitsL ss r
end

theorem FitsL.length : ∀ {ss : List Sh} {ds : List DV}, FitsL ss ds → ds.length = ss.length
  | [], _, h => by simp only [FitsL] at h; subst h; rfl
  | s :: ss, _, h => by
    simp only [FitsL] at h
    obtain ⟨d, r, rfl, _, h⟩ := h
    simp [FitsL.length h]

theorem FitsL.append : ∀ {ss ss' : List Sh} {ds ds' : List DV}, FitsL ss ds → FitsL ss' ds' → FitsL (ss ++ ss') (ds ++ ds')
  | [], _, _, _, h, h' => by simp only [FitsL] at h; subst h; simpa using h'
  | s :: ss, _, _, _, h, h' => by
    simp only [FitsL] at h
    obtain ⟨d, r, rfl, hd, h⟩ := h
    simp only [List.cons_append, FitsL]
    exact ⟨d, _, rfl, hd, FitsL.append h h'⟩

def shFs (P : Program) (f : TypeId → Option (List Sh)) : List Field → Nat → Option (List Sh)
  | [], _ => some []
  | fd :: r, acc => match f fd.type with
    | some s => if fd.offset = acc ∧ P.cellsOf fd.type = s.length then (shFs P f r (acc + s.length)).map (s ++ ·) else none
    | none => none

def shOf (P : Program) : Nat → TypeId → Option (List Sh)
  | 0, _ => none
  | k + 1, t => match P.underlying t with
    | some .bool => some [.bool]
    | some (.int q) => some [.int q]
    | some .string => some [.str]
    | some (.slice e) => match shOf P k e with
      | some es => if es.length = P.cellsOf e ∧ es.length ≠ 0 then some [.sl es] else none
      | none => none
    | some (.struct fs) => match shFs P (shOf P k) fs.toList 0 with
      | some ss => if ss.length = P.cellsOf t then some ss else none
      | none => none
    | some (.array n e) => match shOf P k e with
      | some es => if es.length = P.cellsOf e ∧ n * es.length = P.cellsOf t then some (List.replicate n es).flatten else none
      | none => none
    | _ => none

def RelDL (I : Nat → Prop) (w : World) : List DV → List Value → Prop
  | [], vs => vs = []
  | d :: ds, vs => ∃ v r, vs = v :: r ∧ RelD I w d v ∧ RelDL I w ds r

section
variable {I : Nat → Prop} {w : World}

theorem RelDL.append : ∀ {ds ds' : List DV} {vs vs' : List Value}, RelDL I w ds vs → RelDL I w ds' vs' → RelDL I w (ds ++ ds') (vs ++ vs')
  | [], _, _, _, h, h' => by simp only [RelDL] at h; subst h; simpa using h'
  | d :: ds, _, _, _, h, h' => by
    simp only [RelDL] at h
    obtain ⟨v, r, rfl, hd, h⟩ := h
    simp only [List.cons_append, RelDL]
    exact ⟨v, _, rfl, hd, RelDL.append h h'⟩

theorem RelDL.length : ∀ {ds : List DV} {vs : List Value}, RelDL I w ds vs → vs.length = ds.length
  | [], _, h => by simp only [RelDL] at h; subst h; rfl
  | d :: ds, _, h => by
    simp only [RelDL] at h
    obtain ⟨v, r, rfl, _, h⟩ := h
    simp [RelDL.length h]

theorem RelDL.get : ∀ {ds : List DV} {vs : List Value}, RelDL I w ds vs → ∀ (i : Nat) (d : DV), ds[i]? = some d → ∃ v, vs[i]? = some v ∧ RelD I w d v
  | [], _, _, i, d, h => by simp at h
  | x :: ds, _, h, i, d, hi => by
    simp only [RelDL] at h
    obtain ⟨v, r, rfl, hd, h⟩ := h
    cases i with
    | zero => simp at hi; subst hi; exact ⟨v, rfl, hd⟩
    | succ i => simpa using RelDL.get h i d (by simpa using hi)

theorem RelDL.relL {c : Ctx} : ∀ {ds : List DV} {vs : List Value}, RelDL c.imm w ds vs → RelL c w (ds.map .d) vs
  | [], _, h => by simpa [RelDL, RelL] using h
  | d :: ds, _, h => by
    simp only [RelDL] at h
    obtain ⟨v, r, rfl, hd, h⟩ := h
    simp only [List.map_cons, RelL, Rel]
    exact ⟨v, r, rfl, hd, RelDL.relL h⟩

theorem RelDs.append : ∀ {xs ys : List DV} {b o : Nat}, RelDs I w xs b o → RelDs I w ys b (o + xs.length) → RelDs I w (xs ++ ys) b o
  | [], ys, b, o, _, h => by simpa using h
  | x :: xs, ys, b, o, h, h' => by
    simp only [List.cons_append, RelDs] at h ⊢
    refine ⟨h.1, RelDs.append h.2 ?_⟩
    rw [List.length_cons] at h'
    rw [show o + 1 + xs.length = o + (xs.length + 1) by omega]
    exact h'

theorem RelDs.flatten {k b o : Nat} : ∀ {rows : List (List DV)} {i0 : Nat}, (∀ r ∈ rows, r.length = k) → (∀ (i : Nat) (r : List DV), rows[i]? = some r → RelDs I w r b (o + (i0 + i) * k)) → RelDs I w rows.flatten b (o + i0 * k)
  | [], _, _, _ => by simp [RelDs]
  | r :: rows, i0, hk, h => by
    rw [List.flatten_cons]
    refine RelDs.append (by simpa using h 0 r rfl) ?_
    have := RelDs.flatten (k := k) (b := b) (o := o) (rows := rows) (i0 := i0 + 1) (fun r hr => hk r (List.mem_cons_of_mem _ hr)) fun i r' hi => by
      have := h (i + 1) r' (by simpa using hi)
      rwa [show i0 + 1 + i = i0 + (i + 1) by omega]
    rw [hk r List.mem_cons_self]
    rwa [Nat.succ_mul, ← Nat.add_assoc] at this

theorem list_of {α : Type} {p : Nat → α → Prop} : ∀ (n : Nat), (∀ i, i < n → ∃ y, p i y) → ∃ l : List α, l.length = n ∧ ∀ i y, l[i]? = some y → p i y
  | 0, _ => ⟨[], rfl, fun i y h => by simp at h⟩
  | n + 1, h => by
    obtain ⟨l, hl, hp⟩ := list_of n fun i hi => h i (by omega)
    obtain ⟨y, hy⟩ := h n (by omega)
    refine ⟨l ++ [y], by simp [hl], fun i z hz => ?_⟩
    rcases Nat.lt_or_ge i n with h1 | h1
    · rw [List.getElem?_append_left (by omega)] at hz; exact hp i z hz
    · rw [List.getElem?_append_right (by omega)] at hz
      have h2 : i - l.length = 0 := by
        rcases Nat.eq_zero_or_pos (i - l.length) with h3 | h3
        · exact h3
        · rw [List.getElem?_eq_none (by simp; omega)] at hz; cases hz
      rw [h2] at hz
      simp at hz
      subst hz
      have : i = n := by omega
      subst this
      exact hy

end
end Go.Jq

/-! The abstract layer, part 26: a row's reading of a value, told as data. -/
namespace Go.Jq
open Go

section
variable {H : Type} {enc : TypeId × Value → H} {P : Program} {w : World} {base : Nat} {spare : Nat → Bool} {held : Bool} {I : Nat → Prop} (hI : ∀ b, b < w.heap.size → I b)

theorem cells_get {a : Addr} {n : Nat} {cs : List Value} (h : w.cells? base a n = some cs) : cs.length = n ∧ ∀ i, i < n → w.cell? (a.add i) = cs[i]? := by
  unfold World.cells? at h
  split at h
  · exact ⟨by simpa using mapM_some_length h, fun i hi => mapM_some_get h i i (by simp [hi])⟩
  · cases h

theorem cell_lt {a : Addr} {v : Value} (h : w.cell? a = some v) : a.block < w.heap.size ∧ a.spot = none := by
  unfold World.cell? at h
  split at h
  · rename_i c T f hb
    refine ⟨?_, ?_⟩
    · rcases Nat.lt_or_ge a.block w.heap.size with h1 | h1
      · exact h1
      · rw [Array.getElem?_eq_none h1] at hb; cases hb
    · split at h
      · cases h
      · rename_i hs; simpa using hs
  · cases h

theorem shFs_trod {f : TypeId → Option (List Sh)} {g : TypeId → List Value → Option (DataW H × List MemPlace)} (hfg : ∀ t ss cs x, f t = some ss → g t cs = some x → ∃ ds, FitsL ss ds ∧ RelDL I w ds cs) (cs : List Value) :
    ∀ (fs : List Field) (acc : Nat) (ss : List Sh), shFs P f fs acc = some ss → acc + ss.length = cs.length → (∀ fd ∈ fs, ∃ x, g fd.type ((cs.drop fd.offset).take (P.cellsOf fd.type)) = some x) → ∃ ds, FitsL ss ds ∧ RelDL I w ds (cs.drop acc)
  | [], acc, ss, h, hl, _ => by
    simp only [shFs, Option.some.injEq] at h
    subst h
    exact ⟨[], rfl, by simp only [RelDL]; exact List.drop_eq_nil_of_le (by simpa using Nat.le_of_eq hl.symm)⟩
  | fd :: fs, acc, ss, h, hl, hx => by
    simp only [shFs] at h
    split at h
    · rename_i s hs
      split at h
      · rename_i hc
        rw [Option.map_eq_some_iff] at h
        obtain ⟨r, hr, rfl⟩ := h
        obtain ⟨x, hx1⟩ := hx fd List.mem_cons_self
        obtain ⟨ds, h1, h2⟩ := hfg _ _ _ _ hs hx1
        obtain ⟨ds', h3, h4⟩ := shFs_trod hfg cs fs (acc + s.length) r hr (by simp at hl; omega) fun fd' h => hx fd' (List.mem_cons_of_mem _ h)
        refine ⟨ds ++ ds', h1.append h3, ?_⟩
        have h5 := h2.append h4
        rw [hc.1, hc.2, ← List.drop_drop, List.take_append_drop] at h5
        exact h5
      · cases h
    · cases h

include hI in
theorem trod_rel : ∀ (k : Nat) (t : TypeId) (ss : List Sh) (fuel : Nat) (cs : List Value) (x : DataW H × List MemPlace), shOf P k t = some ss → DataW.trod enc P w base spare held fuel t cs = some x → ∃ ds, FitsL ss ds ∧ RelDL I w ds cs
  | 0, _, _, _, _, _, h, _ => by simp [shOf] at h
  | k + 1, t, ss, fuel, cs, x, h, hx => by
    simp only [shOf] at h
    split at h
    · rename_i hu
      cases h
      obtain ⟨b, rfl, _⟩ := DataW.trod_bool hu hx
      exact ⟨[.bool b], by simp only [FitsL, Fits]; exact ⟨_, _, rfl, ⟨b, rfl⟩, rfl⟩, by simp [RelDL, RelD]⟩
    · rename_i q hu
      cases h
      obtain ⟨n, rfl, _, hw⟩ := DataW.trod_int hu hx
      exact ⟨[.int q n], by simp only [FitsL, Fits]; exact ⟨_, _, rfl, ⟨n, rfl, hw⟩, rfl⟩, by simp [RelDL, RelD]⟩
    · rename_i hu
      cases h
      obtain ⟨s, rfl, _, hw⟩ := DataW.trod_string hu hx
      exact ⟨[.str s.data.toList], by simp only [FitsL, Fits]; exact ⟨_, _, rfl, ⟨_, rfl, by simpa using hw⟩, rfl⟩, by simp [RelDL, RelD]⟩
    · rename_i e hu
      split at h
      · rename_i es hes
        split at h
        · rename_i hc
          cases h
          obtain ⟨hlen, hne⟩ := hc
          rcases DataW.trod_slice hu hx with ⟨rfl, _⟩ | ⟨a, len, cap, elems, rest, n, _, rfl, _, hb, hl, hm, hel, hcell, _⟩
          · exact ⟨[.nsl], by simp only [FitsL, Fits]; exact ⟨_, _, rfl, .inl rfl, rfl⟩, by simp [RelDL, RelD]⟩
          · have each : ∀ i, i < len → ∃ r : List DV, ∃ csi, w.cells? base (a.add (i * P.cellsOf e)) (P.cellsOf e) = some csi ∧ FitsL es r ∧ RelDL I w r csi := by
              intro i hi
              have h1 := hcell i hi
              rw [List.getElem?_eq_getElem (by omega), Option.bind_eq_some_iff] at h1
              obtain ⟨csi, h2, h3⟩ := h1
              obtain ⟨r, h4, h5⟩ := trod_rel k e es n csi _ hes h3
              exact ⟨r, csi, h2, h4, h5⟩
            obtain ⟨rows, hrl, hrows⟩ := list_of len each
            have hfit : ∀ r ∈ rows, FitsL es r := fun r hr => by
              obtain ⟨i, hi⟩ := List.mem_iff_getElem?.1 hr
              obtain ⟨_, _, h2, _⟩ := hrows i r hi
              exact h2
            refine ⟨[.sl rows.length rows.flatten], by simp only [FitsL, Fits]; exact ⟨_, _, rfl, .inr ⟨rows, rfl, by omega, hfit⟩, rfl⟩, ?_⟩
            simp only [RelDL, RelD]
            refine ⟨_, _, rfl, ⟨some a, cap, by rw [hrl], by omega, ?_⟩, rfl⟩
            rcases Nat.eq_zero_or_pos len with h0 | h0
            · have : rows = [] := List.eq_nil_of_length_eq_zero (by omega)
              subst this
              exact .inl ⟨rfl, rfl⟩
            · right
              have hr0 : rows[0]? = some rows[0] := List.getElem?_eq_getElem (by omega)
              obtain ⟨cs0, h1, h2, h3⟩ := hrows 0 _ hr0
              obtain ⟨hl0, hg0⟩ := cells_get h1
              have hpos : 0 < P.cellsOf e := by omega
              have hc0 : ∃ v, w.cell? a = some v := by
                have := hg0 0 hpos
                rw [List.getElem?_eq_getElem (by omega)] at this
                have e1 : (a.add (0 * P.cellsOf e)).add 0 = a := by simp [Addr.add]
                rw [e1] at this
                exact ⟨_, this⟩
              obtain ⟨v, hv⟩ := hc0
              obtain ⟨hlt, hsp⟩ := cell_lt hv
              obtain ⟨ab, ao, asp⟩ := a
              simp only at hlt hsp
              subst hsp
              refine ⟨ab, ao, rfl, hI ab hlt, ?_⟩
              have := RelDs.flatten (I := I) (w := w) (k := es.length) (b := ab) (o := ao) (rows := rows) (i0 := 0) (fun r hr => (hfit r hr).length) fun i r hi => by
                obtain ⟨csi, h4, h5, h6⟩ := hrows i r hi
                obtain ⟨_, hg⟩ := cells_get h4
                refine RelDs.of_get fun j d hj => ?_
                obtain ⟨v, hv, hr⟩ := h6.get j d hj
                have hjl : j < P.cellsOf e := by
                  have := (List.getElem?_eq_some_iff.1 hj).1
                  rw [h5.length] at this
                  omega
                refine ⟨v, ?_, hr⟩
                have := hg j hjl
                rw [hv, addr_add, addr_add] at this
                rw [Nat.zero_add, hlen]
                exact this
              simpa using this
        · cases h
      · cases h
    · rename_i fs hu
      split at h
      · rename_i ss' hss
        split at h
        · rename_i hc
          cases h
          obtain ⟨xs, n, _, _, hcl, hxl, hget⟩ := DataW.trod_struct hu hx
          have := shFs_trod (P := P) (I := I) (w := w) (f := shOf P k) (g := fun t cs => DataW.trod enc P w base spare held n t cs) (fun t ss cs x h1 h2 => trod_rel k t ss n cs x h1 h2) cs fs.toList 0 ss hss (by omega) fun fd hfd => by
            obtain ⟨i, hi⟩ := List.mem_iff_getElem?.1 hfd
            rw [Array.getElem?_toList] at hi
            have h1 := hget i fd hi
            have h2 : i < fs.size := (Array.getElem?_eq_some_iff.1 hi).1
            rw [List.getElem?_eq_getElem (by omega)] at h1
            exact ⟨_, h1⟩
          simpa using this
        · cases h
      · cases h
    · rename_i n e hu
      split at h
      · rename_i es hes
        split at h
        · rename_i hc
          cases h
          obtain ⟨xs, m, _, _, hcl, hxl, hget⟩ := DataW.trod_array hu hx
          have key : ∀ q, q ≤ n → ∃ ds, FitsL (List.replicate q es).flatten ds ∧ RelDL I w ds (cs.take (q * es.length)) := by
            intro q
            induction q with
            | zero => intro _; exact ⟨[], by simp [FitsL], by simp [RelDL]⟩
            | succ q ih =>
              intro hq
              obtain ⟨ds, h1, h2⟩ := ih (by omega)
              have h3 := hget q (by omega)
              rw [List.getElem?_eq_getElem (by omega)] at h3
              obtain ⟨ds', h4, h5⟩ := trod_rel k e es m _ _ hes h3
              refine ⟨ds ++ ds', ?_, ?_⟩
              · rw [List.replicate_succ', List.flatten_append]
                simpa using h1.append h4
              · have := h2.append h5
                rw [← hc.1] at this
                rw [Nat.succ_mul, List.take_add]
                exact this
          obtain ⟨ds, h1, h2⟩ := key n (Nat.le_refl _)
          exact ⟨ds, h1, by rwa [List.take_of_length_le (by omega)] at h2⟩
        · cases h
      · cases h
    · cases h

end
end Go.Jq

/-! The abstract layer, part 27: from a law's contract to what its row asks. -/
namespace Go.Jq
open Go Go.RowKit Go.ChangeAt Go.ChangeShapes Go.WideShapes

/-- The context at the row's call: all blocks are data's. -/
def ctx0 (w : World) : Ctx := ⟨fun _ => .free, fun b => b < w.heap.size⟩

theorem calls_of_pure {P : Program} {f : Nat} {args : List AV} (h : Pure P f args (.d (.bool true))) {w : World} {vs : List Value} (hr : RelL (ctx0 w) w args vs)
    (htab : ∀ g Φ, tabC g = some Φ → ∃ cs T f, w.heap[g]? = some (.cells cs T f) ∧ Φ cs := by intro g Φ h; simp [tabC] at h) :
    Calls P f vs.toArray w fun e w' => e = .returned (.bool true) ∧ Below w.heap.size w w' := by
  have hM : MR (ctx0 w) [] w := ⟨fun id cells h => by simp [mget] at h, fun id id' b h => by simp [mget] at h, fun b hb => hb, fun g Φ hg => by
    obtain ⟨cs, T, f, h1, h2⟩ := htab g Φ hg
    exact ⟨(Array.getElem?_eq_some_iff.1 h1).1, cs, T, f, h1, h2⟩⟩
  refine (h (ctx0 w) w vs hr hM fun id _ => rfl).mono ?_
  rintro e w' ⟨v, r, m', c', rfl, ⟨rfl, rfl⟩, hrel, _, hs, _⟩
  simp only [Rel, RelD] at hrel
  subst hrel
  exact ⟨rfl, hs.os, hs.tape, hs.output, hs.size, fun b hb => hs.keep b hb fun ⟨id, h1, _⟩ => by simp [mget] at h1⟩

section
variable {H : Type} {enc : TypeId × Value → H} {P : Program} {w : World} {base : Nat} {spare : Nat → Bool} {held : Bool} {t : TypeId} {v : Value} {d : DataW H} {p : List MemPlace}

theorem arg_struct {k : Nat} {ss : List Sh} {fs : Array Field} (hs : shOf P k t = some ss) (hu : P.underlying t = some (.struct fs)) {b0 : Nat} (hok : Value.okWide P w .any b0 t v) (h : DataW.Trod enc P w base spare held t v d p) :
    ∃ ds, FitsL ss ds ∧ Rel (ctx0 w) w (.agg (ds.map .d)) v := by
  obtain ⟨fuel, hf⟩ := h
  obtain ⟨ds, h1, h2⟩ := trod_rel (I := (ctx0 w).imm) (fun b hb => hb) k t ss fuel _ _ hs hf
  unfold Value.okWide at hok
  rw [hu] at hok
  obtain ⟨cs, rfl, _⟩ := hok
  refine ⟨ds, h1, ?_⟩
  simp only [Rel]
  exact ⟨cs.toList, by simp, h2.relL⟩

theorem arg_one {k : Nat} {s : Sh} (hs : shOf P k t = some [s]) (hv : v.cells = #[v]) (h : DataW.Trod enc P w base spare held t v d p) : ∃ x, Fits s x ∧ Rel (ctx0 w) w (.d x) v := by
  obtain ⟨fuel, hf⟩ := h
  obtain ⟨ds, h1, h2⟩ := trod_rel (I := (ctx0 w).imm) (fun b hb => hb) k t [s] fuel _ _ hs hf
  simp only [FitsL] at h1
  obtain ⟨x, r, rfl, h3, rfl⟩ := h1
  rw [hv] at h2
  simp only [RelDL, List.cons.injEq] at h2
  obtain ⟨u, r, ⟨h4, _⟩, h5, _⟩ := h2
  subst h4
  exact ⟨x, h3, by simp only [Rel]; exact h5⟩

end

theorem fits_ints {k : IntKind} : ∀ {n : Nat} {ds : List DV}, FitsL (List.replicate n (.int k)) ds → ∃ l : List Int, l.length = n ∧ ds = l.map (.int k)
  | 0, ds, h => by simp only [List.replicate_zero, FitsL] at h; exact ⟨[], rfl, h⟩
  | n + 1, ds, h => by
    simp only [List.replicate_succ, FitsL, Fits] at h
    obtain ⟨d, r, rfl, ⟨m, rfl, _⟩, h⟩ := h
    obtain ⟨l, hl, rfl⟩ := fits_ints h
    exact ⟨m :: l, by simp [hl], rfl⟩

theorem fits_sl_ints {d : DV} (h : Fits (.sl [.int .i64]) d) : ∃ l : List Int, IsInts l d := by
  simp only [Fits] at h
  rcases h with rfl | ⟨rows, rfl, hm, hr⟩
  · exact ⟨[], by simp, .inl ⟨rfl, rfl⟩⟩
  · have : ∀ rows : List (List DV), (∀ r ∈ rows, FitsL [.int .i64] r) → ∃ l : List Int, l.length = rows.length ∧ rows.flatten = l.map (.int .i64) := by
      intro rows
      induction rows with
      | nil => intro _; exact ⟨[], rfl, rfl⟩
      | cons r rows ih =>
        intro h
        obtain ⟨l, h1, h2⟩ := ih fun r hr => h r (List.mem_cons_of_mem _ hr)
        have h3 := h r List.mem_cons_self
        simp only [FitsL, Fits] at h3
        obtain ⟨d, r', rfl, ⟨n, rfl, _⟩, rfl⟩ := h3
        exact ⟨n :: l, by simp [h1], by simp [h2]⟩
    obtain ⟨l, h1, h2⟩ := this rows hr
    refine ⟨l, ?_, .inr ?_⟩
    · have : maxLen = 9223372036854775807 := rfl
      simp; omega
    · simp [h1, h2]

end Go.Jq

/-! The abstract layer, part 30: slices of structs, and of slices of them, out of a row's reading. -/
namespace Go.Jq
open Go

theorem rows_of {α : Type} {enc : α → List DV} {p : α → Prop} {es : List Sh} (hrow : ∀ r, FitsL es r → ∃ a, p a ∧ r = enc a) : ∀ rows : List (List DV), (∀ r ∈ rows, FitsL es r) → ∃ l : List α, l.length = rows.length ∧ (∀ a ∈ l, p a) ∧ rows.flatten = l.flatMap enc
  | [], _ => ⟨[], rfl, by simp, rfl⟩
  | r :: rows, h => by
    obtain ⟨l, h1, h2, h3⟩ := rows_of hrow rows fun r hr => h r (List.mem_cons_of_mem _ hr)
    obtain ⟨a, ha, rfl⟩ := hrow r (h r List.mem_cons_self)
    refine ⟨a :: l, by simp [h1], ?_, by simp [h3]⟩
    intro b hb
    rcases List.mem_cons.1 hb with rfl | hb
    · exact ha
    · exact h2 b hb

theorem fits_sl {α : Type} {enc : α → List DV} {p : α → Prop} {es : List Sh} (hrow : ∀ r, FitsL es r → ∃ a, p a ∧ r = enc a) {d : DV} (h : Fits (.sl es) d) : ∃ l : List α, (∀ a ∈ l, p a) ∧ IsSl enc l d := by
  simp only [Fits] at h
  rcases h with rfl | ⟨rows, rfl, hm, hr⟩
  · exact ⟨[], by simp, by simp, .inl ⟨rfl, rfl⟩⟩
  · obtain ⟨l, h1, h2, h3⟩ := rows_of hrow rows hr
    have : maxLen = 9223372036854775807 := rfl
    exact ⟨l, h2, by omega, .inr (by rw [h3, h1])⟩

theorem sls_of {α : Type} {enc : α → List DV} {p : α → Prop} : ∀ {ds : List DV}, (∀ d ∈ ds, ∃ l : List α, (∀ a ∈ l, p a) ∧ IsSl enc l d) → ∃ ls : List (List α), (∀ l ∈ ls, ∀ a ∈ l, p a) ∧ IsSls enc ls ds
  | [], _ => ⟨[], by simp, trivial⟩
  | d :: ds, h => by
    obtain ⟨l, h1, h2⟩ := h d List.mem_cons_self
    obtain ⟨ls, h3, h4⟩ := sls_of fun d hd => h d (List.mem_cons_of_mem _ hd)
    refine ⟨l :: ls, ?_, h2, h4⟩
    intro b hb
    rcases List.mem_cons.1 hb with rfl | hb
    · exact h1
    · exact h3 b hb

theorem fits_sl2 {α : Type} {enc : α → List DV} {p : α → Prop} {es : List Sh} (hrow : ∀ r, FitsL es r → ∃ a, p a ∧ r = enc a) {d : DV} (h : Fits (.sl [.sl es]) d) : ∃ ls : List (List α), (∀ l ∈ ls, ∀ a ∈ l, p a) ∧ IsSl2 enc ls d := by
  obtain ⟨ds, hp, hd⟩ := fits_sl (α := DV) (enc := fun d => [d]) (p := fun d => ∃ l : List α, (∀ a ∈ l, p a) ∧ IsSl enc l d) (es := [.sl es]) (fun r hr => by
    simp only [FitsL] at hr
    obtain ⟨d, r', rfl, h1, rfl⟩ := hr
    exact ⟨d, fits_sl hrow h1, rfl⟩) h
  obtain ⟨ls, h1, h2⟩ := sls_of hp
  exact ⟨ls, h1, ds, hd, h2⟩

theorem fits_int {k : IntKind} {d : DV} (h : Fits (.int k) d) : ∃ n, d = .int k n ∧ (Lit.int k n).wf = true := by
  simpa only [Fits] using h

/-- A number that the kind int can hold. -/
def i64R (n : Int) : Prop := -9223372036854775808 ≤ n ∧ n ≤ 9223372036854775807

theorem wf_i64 {n : Int} (h : (Lit.int .i64 n).wf = true) : i64R n := by
  have e1 : IntKind.i64.min = -9223372036854775808 := rfl
  have e2 : IntKind.i64.max = 9223372036854775807 := rfl
  simp only [Lit.wf, e1, e2, Bool.and_eq_true, decide_eq_true_eq] at h
  exact h

end Go.Jq

/-! The abstract layer, part 33: more values out of a row's reading. -/
namespace Go.Jq
open Go Go.ChangeShapes

theorem wf_u8 {n : Int} (h : (Lit.int .u8 n).wf = true) : 0 ≤ n ∧ n ≤ 255 := by
  have e1 : IntKind.u8.min = 0 := rfl
  have e2 : IntKind.u8.max = 255 := rfl
  simp only [Lit.wf, e1, e2, Bool.and_eq_true, decide_eq_true_eq] at h
  exact h

theorem fits_bytes {d : DV} (h : Fits (.sl [.int .u8]) d) : ∃ l : List UInt8, IsSl (fun b : UInt8 => [DV.int .u8 b.toNat]) l d := by
  obtain ⟨l, _, hl⟩ := fits_sl (α := UInt8) (enc := fun b : UInt8 => [DV.int .u8 b.toNat]) (p := fun _ => True) (es := [.int .u8]) (fun r hr => by
    simp only [FitsL, Fits] at hr
    obtain ⟨d, r', rfl, ⟨n, rfl, hw⟩, rfl⟩ := hr
    have := wf_u8 hw
    refine ⟨UInt8.ofNat n.toNat, trivial, ?_⟩
    have e : ((UInt8.ofNat n.toNat).toNat : Int) = n := by simp; omega
    simp only [e]) h
  exact ⟨l, hl⟩

section
variable {H : Type} {enc : TypeId × Value → H} {P : Program} {w : World} {base : Nat} {spare : Nat → Bool} {held : Bool}

theorem trodAll_1 {t0 : TypeId} {args : Array Value} {ds : List (DataW H)} {ps : List MemPlace} (h : DataW.TrodAll enc P w base spare held [t0] args.toList ds ps) :
    ∃ v0 d0 p0, args = #[v0] ∧ ds = [d0] ∧ ps = p0 ∧ DataW.Trod enc P w base spare held t0 v0 d0 p0 := by
  obtain ⟨v0, a0, d0, b0, p0, q0, ha, rfl, rfl, h0, h⟩ := trodAll_cons h
  obtain ⟨rfl, rfl, rfl⟩ := trodAll_nil h
  exact ⟨v0, d0, p0, by cases args; simp_all, rfl, by simp, h0⟩

theorem trodAll_5 {t0 t1 t2 t3 t4 : TypeId} {args : Array Value} {ds : List (DataW H)} {ps : List MemPlace} (h : DataW.TrodAll enc P w base spare held [t0, t1, t2, t3, t4] args.toList ds ps) :
    ∃ v0 v1 v2 v3 v4 d0 d1 d2 d3 d4 p0 p1 p2 p3 p4, args = #[v0, v1, v2, v3, v4] ∧ ds = [d0, d1, d2, d3, d4] ∧ ps = p0 ++ p1 ++ p2 ++ p3 ++ p4 ∧ DataW.Trod enc P w base spare held t0 v0 d0 p0 ∧ DataW.Trod enc P w base spare held t1 v1 d1 p1 ∧
      DataW.Trod enc P w base spare held t2 v2 d2 p2 ∧ DataW.Trod enc P w base spare held t3 v3 d3 p3 ∧ DataW.Trod enc P w base spare held t4 v4 d4 p4 := by
  obtain ⟨v0, a0, d0, b0, p0, q0, ha, rfl, rfl, h0, h⟩ := trodAll_cons h
  obtain ⟨v1, a1, d1, b1, p1, q1, rfl, rfl, rfl, h1, h⟩ := trodAll_cons h
  obtain ⟨v2, a2, d2, b2, p2, q2, rfl, rfl, rfl, h2, h⟩ := trodAll_cons h
  obtain ⟨v3, a3, d3, b3, p3, q3, rfl, rfl, rfl, h3, h⟩ := trodAll_cons h
  obtain ⟨v4, a4, d4, b4, p4, q4, rfl, rfl, rfl, h4, h⟩ := trodAll_cons h
  obtain ⟨rfl, rfl, rfl⟩ := trodAll_nil h
  exact ⟨v0, v1, v2, v3, v4, d0, d1, d2, d3, d4, p0, p1, p2, p3, p4, by cases args; simp_all, rfl, by simp, h0, h1, h2, h3, h4⟩

theorem trodAll_6 {t0 t1 t2 t3 t4 t5 : TypeId} {args : Array Value} {ds : List (DataW H)} {ps : List MemPlace} (h : DataW.TrodAll enc P w base spare held [t0, t1, t2, t3, t4, t5] args.toList ds ps) :
    ∃ v0 v1 v2 v3 v4 v5 d0 d1 d2 d3 d4 d5 p0 p1 p2 p3 p4 p5, args = #[v0, v1, v2, v3, v4, v5] ∧ ds = [d0, d1, d2, d3, d4, d5] ∧ ps = p0 ++ p1 ++ p2 ++ p3 ++ p4 ++ p5 ∧ DataW.Trod enc P w base spare held t0 v0 d0 p0 ∧ DataW.Trod enc P w base spare held t1 v1 d1 p1 ∧
      DataW.Trod enc P w base spare held t2 v2 d2 p2 ∧ DataW.Trod enc P w base spare held t3 v3 d3 p3 ∧ DataW.Trod enc P w base spare held t4 v4 d4 p4 ∧ DataW.Trod enc P w base spare held t5 v5 d5 p5 := by
  obtain ⟨v0, a0, d0, b0, p0, q0, ha, rfl, rfl, h0, h⟩ := trodAll_cons h
  obtain ⟨v1, a1, d1, b1, p1, q1, rfl, rfl, rfl, h1, h⟩ := trodAll_cons h
  obtain ⟨v2, a2, d2, b2, p2, q2, rfl, rfl, rfl, h2, h⟩ := trodAll_cons h
  obtain ⟨v3, a3, d3, b3, p3, q3, rfl, rfl, rfl, h3, h⟩ := trodAll_cons h
  obtain ⟨v4, a4, d4, b4, p4, q4, rfl, rfl, rfl, h4, h⟩ := trodAll_cons h
  obtain ⟨v5, a5, d5, b5, p5, q5, rfl, rfl, rfl, h5, h⟩ := trodAll_cons h
  obtain ⟨rfl, rfl, rfl⟩ := trodAll_nil h
  exact ⟨v0, v1, v2, v3, v4, v5, d0, d1, d2, d3, d4, d5, p0, p1, p2, p3, p4, p5, by cases args; simp_all, rfl, by simp, h0, h1, h2, h3, h4, h5⟩

end
end Go.Jq
