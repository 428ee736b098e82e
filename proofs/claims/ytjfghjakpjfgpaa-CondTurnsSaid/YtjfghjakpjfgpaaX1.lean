/- The abstract layer, part 1: values without a heap, own blocks by number, and how they stand to the model's values and worlds. Generic: no program in sight. -/
import Derived.WalkKit
import Derived.Orders
import Derived.Below
namespace Go.Jq
open Go

/-! ### Values -/

/-- Data that nobody writes any more. -/
inductive DV where
  | int (k : IntKind) (n : Int)
  | bool (b : Bool)
  | str (s : List UInt8)
  | nsl
  | nptr
  | nfn
  | nif
  | sl (n : Nat) (cells : List DV)

instance : Inhabited DV := ⟨.nsl⟩

/-- A slot's value: data; a place in an own block; a place in data; a slice of an own block; a closure; a struct's or an array's cells; a tuple; unknown. -/
inductive AV where
  | d (x : DV)
  | ptr (id off : Nat)
  | dptr (cells : List DV)
  | sl (id esz off len : Nat)
  | fn (f : Nat) (cap : List AV)
  | agg (cells : List AV)
  | tup (vs : List AV)
  | any

instance : Inhabited AV := ⟨.any⟩

/-- Where an own block lies: not made; a nil slice's; a block of the heap. -/
inductive Spot where
  | free
  | none
  | blk (b : Nat)

structure Ctx where
  φ : Nat → Spot
  imm : Nat → Prop

def rowSize (w : World) (b : Nat) : Option Nat :=
  match w.heap[b]? with
  | some (.cells c _ _) => some c.size
  | _ => none

mutual
def RelD (I : Nat → Prop) (w : World) : DV → Value → Prop
  | .int k n, v => v = .int k n
  | .bool b, v => v = .bool b
  | .str s, v => v = .string ⟨s.toArray⟩
  | .nsl, v => v = .slice none 0 0
  | .nptr, v => v = .pointer none
  | .nfn, v => v = .nilFunc
  | .nif, v => v = .nilIface
  | .sl n cells, v => ∃ a cap, v = .slice a n cap ∧ n ≤ cap ∧
      ((n = 0 ∧ cells = []) ∨ ∃ b o, a = some ⟨b, o, none⟩ ∧ I b ∧ RelDs I w cells b o)
def RelDs (I : Nat → Prop) (w : World) : List DV → Nat → Nat → Prop
  | [], _, _ => True
  | c :: cs, b, o => (∃ u, w.cell? ⟨b, o, none⟩ = some u ∧ RelD I w c u) ∧ RelDs I w cs b (o + 1)
end

mutual
def Rel (c : Ctx) (w : World) : AV → Value → Prop
  | .d x, v => RelD c.imm w x v
  | .ptr id off, v => ∃ b, c.φ id = .blk b ∧ v = .pointer (some ⟨b, off, none⟩)
  | .dptr cells, v => ∃ b o, c.imm b ∧ v = .pointer (some ⟨b, o, none⟩) ∧ RelDs c.imm w cells b o
  | .sl id esz off len, v => (c.φ id = .none ∧ off = 0 ∧ len = 0 ∧ v = .slice none 0 0) ∨
      ∃ b cap n, c.φ id = .blk b ∧ v = .slice (some ⟨b, off, none⟩) len cap ∧ len ≤ cap ∧ rowSize w b = some n ∧ off + cap * esz ≤ n
  | .fn f cap, v => ∃ vs, v = .func (.func f) #[] vs.toArray ∧ RelL c w cap vs
  | .agg cs, v => ∃ vs, v = .agg vs.toArray ∧ RelL c w cs vs
  | .tup cs, v => ∃ vs, v = .tuple vs.toArray ∧ RelL c w cs vs
  | .any, _ => True
def RelL (c : Ctx) (w : World) : List AV → List Value → Prop
  | [], vs => vs = []
  | x :: xs, vs => ∃ v vs', vs = v :: vs' ∧ Rel c w x v ∧ RelL c w xs vs'
end

/-! ### Lists of values -/

theorem RelL.length {c : Ctx} {w : World} : ∀ {xs : List AV} {vs : List Value}, RelL c w xs vs → vs.length = xs.length
  | [], _, h => by simp only [RelL] at h; subst h; rfl
  | x :: xs, _, h => by
    simp only [RelL] at h
    obtain ⟨v, vs', rfl, _, h⟩ := h
    simp [RelL.length h]

theorem RelL.get {c : Ctx} {w : World} : ∀ {xs : List AV} {vs : List Value} (_ : RelL c w xs vs) {i : Nat} {x : AV}, xs[i]? = some x → ∃ v, vs[i]? = some v ∧ Rel c w x v
  | [], _, _, i, x, hi => by simp at hi
  | y :: xs, _, h, i, x, hi => by
    simp only [RelL] at h
    obtain ⟨v, vs', rfl, hv, h⟩ := h
    cases i with
    | zero => simp at hi; subst hi; exact ⟨v, rfl, hv⟩
    | succ i => simp at hi; simpa using RelL.get h hi

theorem RelL.of_get {c : Ctx} {w : World} : ∀ {xs : List AV} {vs : List Value}, vs.length = xs.length →
    (∀ (i : Nat) (x : AV) (v : Value), xs[i]? = some x → vs[i]? = some v → Rel c w x v) → RelL c w xs vs
  | [], vs, hl, _ => by simp only [RelL]; exact List.eq_nil_of_length_eq_zero (by simpa using hl)
  | x :: xs, [], hl, _ => by simp at hl
  | x :: xs, v :: vs, hl, h => by
    simp only [RelL]
    exact ⟨v, vs, rfl, h 0 x v rfl rfl, RelL.of_get (by simpa using hl) fun i y u hy hu => h (i + 1) y u (by simpa using hy) (by simpa using hu)⟩

theorem RelL.append {c : Ctx} {w : World} : ∀ {xs ys : List AV} {vs us : List Value}, RelL c w xs vs → RelL c w ys us → RelL c w (xs ++ ys) (vs ++ us)
  | [], _, _, _, h, h' => by simp only [RelL] at h; subst h; simpa using h'
  | x :: xs, _, _, _, h, h' => by
    simp only [RelL] at h
    obtain ⟨v, vs', rfl, hv, h⟩ := h
    simp only [List.cons_append, RelL]
    exact ⟨v, _, rfl, hv, RelL.append h h'⟩

theorem RelL.take {c : Ctx} {w : World} : ∀ {xs : List AV} {vs : List Value} (n : Nat), RelL c w xs vs → RelL c w (xs.take n) (vs.take n)
  | [], _, n, h => by simp only [RelL] at h; subst h; simp [RelL]
  | x :: xs, _, 0, h => by simp [RelL]
  | x :: xs, _, n + 1, h => by
    simp only [RelL] at h
    obtain ⟨v, vs', rfl, hv, h⟩ := h
    simp only [List.take_succ_cons, RelL]
    exact ⟨v, _, rfl, hv, RelL.take n h⟩

theorem RelL.drop {c : Ctx} {w : World} : ∀ {xs : List AV} {vs : List Value} (n : Nat), RelL c w xs vs → RelL c w (xs.drop n) (vs.drop n)
  | [], _, n, h => by simp only [RelL] at h; subst h; simp [RelL]
  | x :: xs, _, 0, h => by simpa using h
  | x :: xs, _, n + 1, h => by
    simp only [RelL] at h
    obtain ⟨v, vs', rfl, hv, h⟩ := h
    simpa using RelL.drop n h

theorem RelL.set {c : Ctx} {w : World} : ∀ {xs : List AV} {vs : List Value} (i : Nat) {x : AV} {v : Value}, RelL c w xs vs → Rel c w x v → RelL c w (xs.set i x) (vs.set i v)
  | [], _, i, _, _, h, _ => by simp only [RelL] at h; subst h; simp [RelL]
  | y :: xs, _, 0, _, _, h, hx => by
    simp only [RelL] at h
    obtain ⟨v, vs', rfl, hv, h⟩ := h
    simp only [List.set_cons_zero, RelL]
    exact ⟨_, _, rfl, hx, h⟩
  | y :: xs, _, i + 1, _, _, h, hx => by
    simp only [RelL] at h
    obtain ⟨v, vs', rfl, hv, h⟩ := h
    simp only [List.set_cons_succ, RelL]
    exact ⟨_, _, rfl, hv, RelL.set i h hx⟩

/-! ### Data's cells -/

theorem RelDs.get {I : Nat → Prop} {w : World} : ∀ {cs : List DV} {b o : Nat} (_ : RelDs I w cs b o) {i : Nat} {c : DV}, cs[i]? = some c →
    ∃ u, w.cell? ⟨b, o + i, none⟩ = some u ∧ RelD I w c u
  | [], _, _, _, i, c, hi => by simp at hi
  | x :: cs, b, o, h, i, c, hi => by
    simp only [RelDs] at h
    cases i with
    | zero => simp at hi; subst hi; exact h.1
    | succ i =>
      simp at hi
      obtain ⟨u, hu, hr⟩ := RelDs.get h.2 hi
      exact ⟨u, by rw [← hu]; congr 2; omega, hr⟩

theorem RelDs.of_get {I : Nat → Prop} {w : World} : ∀ {cs : List DV} {b o : Nat},
    (∀ (i : Nat) (c : DV), cs[i]? = some c → ∃ u, w.cell? ⟨b, o + i, none⟩ = some u ∧ RelD I w c u) → RelDs I w cs b o
  | [], _, _, _ => by simp [RelDs]
  | x :: cs, b, o, h => by
    simp only [RelDs]
    refine ⟨by simpa using h 0 x rfl, RelDs.of_get fun i c hi => ?_⟩
    obtain ⟨u, hu, hr⟩ := h (i + 1) c (by simpa using hi)
    exact ⟨u, by rw [← hu]; congr 2; omega, hr⟩

theorem RelDs.drop {I : Nat → Prop} {w : World} {cs : List DV} {b o : Nat} (h : RelDs I w cs b o) (n : Nat) : RelDs I w (cs.drop n) b (o + n) :=
  RelDs.of_get fun i c hi => by
    rw [List.getElem?_drop] at hi
    obtain ⟨u, hu, hr⟩ := RelDs.get h hi
    exact ⟨u, by rw [← hu]; congr 2; omega, hr⟩

theorem RelDs.take {I : Nat → Prop} {w : World} {cs : List DV} {b o : Nat} (h : RelDs I w cs b o) (n : Nat) : RelDs I w (cs.take n) b o :=
  RelDs.of_get fun i c hi => by
    rw [List.getElem?_take] at hi
    split at hi
    · exact RelDs.get h hi
    · simp at hi

/-! ### What a growing world keeps -/

def SameOn (I : Nat → Prop) (w w' : World) : Prop := ∀ b, I b → w'.heap[b]? = w.heap[b]?

theorem SameOn.cell {I : Nat → Prop} {w w' : World} (h : SameOn I w w') {b : Nat} (hb : I b) (o : Nat) : w'.cell? ⟨b, o, none⟩ = w.cell? ⟨b, o, none⟩ := by
  simp only [World.cell?, h b hb]

mutual
theorem relD_mono {I I' : Nat → Prop} {w w' : World} (hI : ∀ b, I b → I' b) (hs : SameOn I w w') : ∀ (x : DV) (v : Value), RelD I w x v → RelD I' w' x v
  | .int _ _, _, h => h
  | .bool _, _, h => h
  | .str _, _, h => h
  | .nsl, _, h => h
  | .nptr, _, h => h
  | .nfn, _, h => h
  | .nif, _, h => h
  | .sl n cells, v, h => by
    simp only [RelD] at h ⊢
    obtain ⟨a, cap, hv, hn, h⟩ := h
    refine ⟨a, cap, hv, hn, ?_⟩
    rcases h with h | ⟨b, o, ha, hb, hc⟩
    · exact .inl h
    · exact .inr ⟨b, o, ha, hI b hb, relDs_mono hI hs cells b o hb hc⟩
theorem relDs_mono {I I' : Nat → Prop} {w w' : World} (hI : ∀ b, I b → I' b) (hs : SameOn I w w') : ∀ (cs : List DV) (b o : Nat), I b → RelDs I w cs b o → RelDs I' w' cs b o
  | [], _, _, _, _ => by simp [RelDs]
  | c :: cs, b, o, hb, h => by
    simp only [RelDs] at h ⊢
    obtain ⟨⟨u, hu, hr⟩, h⟩ := h
    exact ⟨⟨u, by rw [hs.cell hb]; exact hu, relD_mono hI hs c u hr⟩, relDs_mono hI hs cs b (o + 1) hb h⟩
end

/-- From a world and its context to a later one, by way of which values are read as they were. -/
structure Later (c c' : Ctx) (w w' : World) : Prop where
  imm : ∀ b, c.imm b → c'.imm b
  same : SameOn c.imm w w'
  ext : ∀ id, c.φ id ≠ .free → c'.φ id = c.φ id
  size : ∀ b n, rowSize w b = some n → rowSize w' b = some n

mutual
theorem rel_mono {c c' : Ctx} {w w' : World} (h : Later c c' w w') : ∀ (x : AV) (v : Value), Rel c w x v → Rel c' w' x v
  | .d x, v, hr => by simp only [Rel] at hr ⊢; exact relD_mono h.imm h.same x v hr
  | .ptr id off, v, hr => by
    simp only [Rel] at hr ⊢
    obtain ⟨b, hb, hv⟩ := hr
    exact ⟨b, by rw [h.ext id (by rw [hb]; simp)]; exact hb, hv⟩
  | .dptr cells, v, hr => by
    simp only [Rel] at hr ⊢
    obtain ⟨b, o, hb, hv, hc⟩ := hr
    exact ⟨b, o, h.imm b hb, hv, relDs_mono h.imm h.same cells b o hb hc⟩
  | .sl id esz off len, v, hr => by
    simp only [Rel] at hr ⊢
    rcases hr with ⟨h0, hr⟩ | ⟨b, cap, n, hb, hv, hl, hn, hr⟩
    · exact .inl ⟨by rw [h.ext id (by rw [h0]; simp)]; exact h0, hr⟩
    · exact .inr ⟨b, cap, n, by rw [h.ext id (by rw [hb]; simp)]; exact hb, hv, hl, h.size b n hn, hr⟩
  | .fn f cap, v, hr => by
    simp only [Rel] at hr ⊢
    obtain ⟨vs, hv, hl⟩ := hr
    exact ⟨vs, hv, relL_mono h cap vs hl⟩
  | .agg cs, v, hr => by
    simp only [Rel] at hr ⊢
    obtain ⟨vs, hv, hl⟩ := hr
    exact ⟨vs, hv, relL_mono h cs vs hl⟩
  | .tup cs, v, hr => by
    simp only [Rel] at hr ⊢
    obtain ⟨vs, hv, hl⟩ := hr
    exact ⟨vs, hv, relL_mono h cs vs hl⟩
  | .any, _, _ => by simp [Rel]
theorem relL_mono {c c' : Ctx} {w w' : World} (h : Later c c' w w') : ∀ (xs : List AV) (vs : List Value), RelL c w xs vs → RelL c' w' xs vs
  | [], _, hr => by simpa [RelL] using hr
  | x :: xs, vs, hr => by
    simp only [RelL] at hr ⊢
    obtain ⟨v, vs', hv, hx, hl⟩ := hr
    exact ⟨v, vs', hv, rel_mono h x v hx, relL_mono h xs vs' hl⟩
end

theorem Later.refl (c : Ctx) (w : World) : Later c c w w := ⟨fun _ h => h, fun _ _ => rfl, fun _ _ => rfl, fun _ _ h => h⟩

theorem Later.trans {c c' c'' : Ctx} {w w' w'' : World} (h : Later c c' w w') (h' : Later c' c'' w' w'') : Later c c'' w w'' :=
  ⟨fun b hb => h'.imm b (h.imm b hb), fun b hb => (h'.same b (h.imm b hb)).trans (h.same b hb),
   fun id hid => by rw [h'.ext id (by rw [h.ext id hid]; exact hid), h.ext id hid], fun b n hn => h'.size b n (h.size b n hn)⟩

/-! ### Memory and frames -/

abbrev Mem := List (Nat × List AV)

def mget : Mem → Nat → Option (List AV)
  | [], _ => none
  | (k, c) :: r, i => if k = i then some c else mget r i

def mset : Mem → Nat → List AV → Mem
  | [], i, c => [(i, c)]
  | (k, x) :: r, i, c => if k = i then (k, c) :: r else (k, x) :: mset r i c

def mdel : Mem → Nat → Mem
  | [], _ => []
  | (k, x) :: r, i => if k = i then mdel r i else (k, x) :: mdel r i

theorem mget_mset (m : Mem) (i j : Nat) (c : List AV) : mget (mset m i c) j = if i = j then some c else mget m j := by
  induction m with
  | nil => simp [mset, mget]
  | cons p r ih =>
    obtain ⟨k, x⟩ := p
    simp only [mset]
    by_cases hk : k = i
    · subst hk
      rw [if_pos rfl]
      simp only [mget]
      by_cases hj : k = j <;> simp [hj]
    · rw [if_neg hk]
      simp only [mget, ih]
      by_cases hj : k = j
      · subst hj; simp [Ne.symm hk]
      · simp [hj]

theorem mget_mdel (m : Mem) (i j : Nat) : mget (mdel m i) j = if i = j then none else mget m j := by
  induction m with
  | nil => simp [mdel, mget]
  | cons p r ih =>
    obtain ⟨k, x⟩ := p
    simp only [mdel]
    by_cases hk : k = i
    · subst hk
      rw [if_pos rfl, ih]
      simp only [mget]
      by_cases hj : k = j <;> simp [hj]
    · rw [if_neg hk]
      simp only [mget, ih]
      by_cases hj : k = j
      · subst hj; simp [Ne.symm hk]
      · simp [hj]

abbrev Fr := List (Nat × AV)

def fget : Fr → Nat → AV
  | [], _ => .any
  | (k, x) :: r, i => if k = i then x else fget r i

/-- No cell of a row of n is frozen. -/
def NoFz (n : Nat) (f : Nat × Nat) : Prop := f.1 = f.2 ∨ n ≤ f.1

def OwnR (c : Ctx) (w : World) (id : Nat) (cells : List AV) : Prop :=
  (c.φ id = .none ∧ cells = []) ∨
  ∃ b arr T f, c.φ id = .blk b ∧ ¬ c.imm b ∧ w.heap[b]? = some (.cells arr T f) ∧ NoFz arr.size f ∧ ∃ vs rest, arr.toList = vs ++ rest ∧ RelL c w cells vs

structure MR (c : Ctx) (m : Mem) (w : World) : Prop where
  own : ∀ id cells, mget m id = some cells → OwnR c w id cells
  inj : ∀ id id' b, (mget m id).isSome → (mget m id').isSome → c.φ id = .blk b → c.φ id' = .blk b → id = id'
  imm : ∀ b, c.imm b → b < w.heap.size

def FR (c : Ctx) (w : World) (t : Fr) (tmps : Array Value) : Prop := ∀ i, Rel c w (fget t i) (tmps.getD i undef)

/-- The blocks of memory m. -/
def Own (c : Ctx) (m : Mem) (b : Nat) : Prop := ∃ id, (mget m id).isSome ∧ c.φ id = .blk b

/-- One step's worth of change: what is not of O is as it was. -/
structure Step (O : Nat → Prop) (c c' : Ctx) (w w' : World) : Prop where
  os : w'.os = w.os
  tape : w'.tape = w.tape
  output : w'.output = w.output
  size : w.heap.size ≤ w'.heap.size
  keep : ∀ k, k < w.heap.size → ¬ O k → w'.heap[k]? = w.heap[k]?
  rows : ∀ b n, rowSize w b = some n → rowSize w' b = some n
  imm : ∀ b, c.imm b → c'.imm b
  imm' : ∀ b, c'.imm b → c.imm b ∨ O b ∨ w.heap.size ≤ b

theorem Step.refl (O : Nat → Prop) (c : Ctx) (w : World) : Step O c c w w :=
  ⟨rfl, rfl, rfl, Nat.le_refl _, fun _ _ _ => rfl, fun _ _ h => h, fun _ h => h, fun _ h => .inl h⟩

theorem Step.trans {O O' : Nat → Prop} {c c' c'' : Ctx} {w w' w'' : World} (h : Step O c c' w w') (h' : Step O' c' c'' w' w'')
    (hO : ∀ b, O' b → O b ∨ w.heap.size ≤ b) : Step O c c'' w w'' where
  os := h'.os.trans h.os
  tape := h'.tape.trans h.tape
  output := h'.output.trans h.output
  size := Nat.le_trans h.size h'.size
  keep := fun k hk hn => (h'.keep k (Nat.lt_of_lt_of_le hk h.size) fun hO' => by rcases hO k hO' with h1 | h1; exact hn h1; omega).trans (h.keep k hk hn)
  rows := fun b n hn => h'.rows b n (h.rows b n hn)
  imm := fun b hb => h'.imm b (h.imm b hb)
  imm' := fun b hb => by
    rcases h'.imm' b hb with h1 | h1 | h1
    · exact h.imm' b h1
    · rcases hO b h1 with h2 | h2
      · exact .inr (.inl h2)
      · exact .inr (.inr h2)
    · exact .inr (.inr (Nat.le_trans h.size h1))

theorem Step.weaken {O O' : Nat → Prop} {c c' : Ctx} {w w' : World} (h : Step O c c' w w') (hO : ∀ b, O b → O' b) : Step O' c c' w w' :=
  { h with keep := fun k hk hn => h.keep k hk fun h1 => hn (hO k h1), imm' := fun b hb => (h.imm' b hb).imp id fun h1 => h1.imp (hO b) id }

/-- What the immutable blocks hold is never an own block's. -/
theorem MR.sep {c : Ctx} {m : Mem} {w : World} (h : MR c m w) {b : Nat} (hi : c.imm b) : ¬ Own c m b := by
  rintro ⟨id, hid, hb⟩
  obtain ⟨cells, hc⟩ := Option.isSome_iff_exists.1 hid
  rcases h.own id cells hc with ⟨h0, _⟩ | ⟨b', arr, T, f, hb', hni, _⟩
  · rw [h0] at hb; cases hb
  · rw [hb'] at hb; cases hb; exact hni hi

theorem Step.later {c c' : Ctx} {m : Mem} {w w' : World} (hm : MR c m w) (h : Step (Own c m) c c' w w') (hext : ∀ id, c.φ id ≠ .free → c'.φ id = c.φ id) : Later c c' w w' :=
  ⟨h.imm, fun b hb => h.keep b (hm.imm b hb) (hm.sep hb), hext, h.rows⟩

end Go.Jq
