/- The abstract layer, part 25: what a row hands a law, told as data. -/
import Derived.Test.YtjfghjakpjfgpaaX24
import Derived.OpenShut
import Derived.ChangeOld
namespace Go.Jq
open Go

/-- A type's cells' kinds. -/
inductive Sh where
  | int (k : IntKind)
  | bool
  | str
  | sl (es : List Sh)

mutual
def Fits : Sh → DV → Prop
  | .int k, d => ∃ n, d = .int k n ∧ (Lit.int k n).wf = true
  | .bool, d => ∃ b, d = .bool b
  | .str, d => ∃ s : List UInt8, d = .str s ∧ s.length ≤ maxLen
  | .sl es, d => d = .nsl ∨ ∃ rows : List (List DV), d = .sl rows.length rows.flatten ∧ rows.length ≤ maxLen ∧ ∀ r ∈ rows, FitsL es r
def FitsL : List Sh → List DV → Prop
  | [], ds => ds = []
  | s :: ss, ds => ∃ d r, ds = d :: r ∧ Fits s d ∧ FitsL ss r
end

theorem FitsL.length : ∀ {ss : List Sh} {ds : List DV}, FitsL ss ds → ds.length = ss.length
  | [], _, h => by simp only [FitsL] at h; subst h; rfl
  | s :: ss, _, h => by
    simp only [FitsL] at h
    obtain ⟨d, r, rfl, _, h⟩ := h
    simp [FitsL.length h]

theorem FitsL.append : ∀ {ss ss' : List Sh} {ds ds' : List DV}, FitsL ss ds → FitsL ss' ds' → FitsL (ss ++ ss') (ds ++ ds')
  | [], _, _, _, h, h' => by simp only [FitsL] at h; subst h; simpa using h'
  | s :: ss, _, _, _, h, h' => by
    simp only [FitsL] at h
    obtain ⟨d, r, rfl, hd, h⟩ := h
    simp only [List.cons_append, FitsL]
    exact ⟨d, _, rfl, hd, FitsL.append h h'⟩

def shFs (P : Program) (f : TypeId → Option (List Sh)) : List Field → Nat → Option (List Sh)
  | [], _ => some []
  | fd :: r, acc => match f fd.type with
    | some s => if fd.offset = acc ∧ P.cellsOf fd.type = s.length then (shFs P f r (acc + s.length)).map (s ++ ·) else none
    | none => none

def shOf (P : Program) : Nat → TypeId → Option (List Sh)
  | 0, _ => none
  | k + 1, t => match P.underlying t with
    | some .bool => some [.bool]
    | some (.int q) => some [.int q]
    | some .string => some [.str]
    | some (.slice e) => match shOf P k e with
      | some es => if es.length = P.cellsOf e ∧ es.length ≠ 0 then some [.sl es] else none
      | none => none
    | some (.struct fs) => match shFs P (shOf P k) fs.toList 0 with
      | some ss => if ss.length = P.cellsOf t then some ss else none
      | none => none
    | some (.array n e) => match shOf P k e with
      | some es => if es.length = P.cellsOf e ∧ n * es.length = P.cellsOf t then some (List.replicate n es).flatten else none
      | none => none
    | _ => none

def RelDL (I : Nat → Prop) (w : World) : List DV → List Value → Prop
  | [], vs => vs = []
  | d :: ds, vs => ∃ v r, vs = v :: r ∧ RelD I w d v ∧ RelDL I w ds r

section
variable {I : Nat → Prop} {w : World}

theorem RelDL.append : ∀ {ds ds' : List DV} {vs vs' : List Value}, RelDL I w ds vs → RelDL I w ds' vs' → RelDL I w (ds ++ ds') (vs ++ vs')
  | [], _, _, _, h, h' => by simp only [RelDL] at h; subst h; simpa using h'
  | d :: ds, _, _, _, h, h' => by
    simp only [RelDL] at h
    obtain ⟨v, r, rfl, hd, h⟩ := h
    simp only [List.cons_append, RelDL]
    exact ⟨v, _, rfl, hd, RelDL.append h h'⟩

theorem RelDL.length : ∀ {ds : List DV} {vs : List Value}, RelDL I w ds vs → vs.length = ds.length
  | [], _, h => by simp only [RelDL] at h; subst h; rfl
  | d :: ds, _, h => by
    simp only [RelDL] at h
    obtain ⟨v, r, rfl, _, h⟩ := h
    simp [RelDL.length h]

theorem RelDL.get : ∀ {ds : List DV} {vs : List Value}, RelDL I w ds vs → ∀ (i : Nat) (d : DV), ds[i]? = some d → ∃ v, vs[i]? = some v ∧ RelD I w d v
  | [], _, _, i, d, h => by simp at h
  | x :: ds, _, h, i, d, hi => by
    simp only [RelDL] at h
    obtain ⟨v, r, rfl, hd, h⟩ := h
    cases i with
    | zero => simp at hi; subst hi; exact ⟨v, rfl, hd⟩
    | succ i => simpa using RelDL.get h i d (by simpa using hi)

theorem RelDL.relL {c : Ctx} : ∀ {ds : List DV} {vs : List Value}, RelDL c.imm w ds vs → RelL c w (ds.map .d) vs
  | [], _, h => by simpa [RelDL, RelL] using h
  | d :: ds, _, h => by
    simp only [RelDL] at h
    obtain ⟨v, r, rfl, hd, h⟩ := h
    simp only [List.map_cons, RelL, Rel]
    exact ⟨v, r, rfl, hd, RelDL.relL h⟩

theorem RelDs.append : ∀ {xs ys : List DV} {b o : Nat}, RelDs I w xs b o → RelDs I w ys b (o + xs.length) → RelDs I w (xs ++ ys) b o
  | [], ys, b, o, _, h => by simpa using h
  | x :: xs, ys, b, o, h, h' => by
    simp only [List.cons_append, RelDs] at h ⊢
    refine ⟨h.1, RelDs.append h.2 ?_⟩
    rw [List.length_cons] at h'
    rw [show o + 1 + xs.length = o + (xs.length + 1) by omega]
    exact h'

theorem RelDs.flatten {k b o : Nat} : ∀ {rows : List (List DV)} {i0 : Nat}, (∀ r ∈ rows, r.length = k) → (∀ (i : Nat) (r : List DV), rows[i]? = some r → RelDs I w r b (o + (i0 + i) * k)) → RelDs I w rows.flatten b (o + i0 * k)
  | [], _, _, _ => by simp [RelDs]
  | r :: rows, i0, hk, h => by
    rw [List.flatten_cons]
    refine RelDs.append (by simpa using h 0 r rfl) ?_
    have := RelDs.flatten (k := k) (b := b) (o := o) (rows := rows) (i0 := i0 + 1) (fun r hr => hk r (List.mem_cons_of_mem _ hr)) fun i r' hi => by
      have := h (i + 1) r' (by simpa using hi)
      rwa [show i0 + 1 + i = i0 + (i + 1) by omega]
    rw [hk r List.mem_cons_self]
    rwa [Nat.succ_mul, ← Nat.add_assoc] at this

theorem list_of {α : Type} {p : Nat → α → Prop} : ∀ (n : Nat), (∀ i, i < n → ∃ y, p i y) → ∃ l : List α, l.length = n ∧ ∀ i y, l[i]? = some y → p i y
  | 0, _ => ⟨[], rfl, fun i y h => by simp at h⟩
  | n + 1, h => by
    obtain ⟨l, hl, hp⟩ := list_of n fun i hi => h i (by omega)
    obtain ⟨y, hy⟩ := h n (by omega)
    refine ⟨l ++ [y], by simp [hl], fun i z hz => ?_⟩
    rcases Nat.lt_or_ge i n with h1 | h1
    · rw [List.getElem?_append_left (by omega)] at hz; exact hp i z hz
    · rw [List.getElem?_append_right (by omega)] at hz
      have h2 : i - l.length = 0 := by
        rcases Nat.eq_zero_or_pos (i - l.length) with h3 | h3
        · exact h3
        · rw [List.getElem?_eq_none (by simp; omega)] at hz; cases hz
      rw [h2] at hz
      simp at hz
      subst hz
      have : i = n := by omega
      subst this
      exact hy

end
end Go.Jq
