/- The abstract layer: values, worlds, operations. -/
import Derived.WalkKit
import Derived.Orders
import Derived.Below
/-! The abstract layer, part 1: values without a heap, own blocks by number, and how they stand to the model's values and worlds. Generic: no program in sight. -/
namespace Go.Jq
open Go

/-! ### Values -/

/-- Data that nobody writes any more. -/
inductive DV where
  | int (k : IntKind) (n : Int)
  | bool (b : Bool)
  | str (s : List UInt8)
  | nsl
  | nptr
  | nfn
  | nif
  | sl (n : Nat) (cells : List DV)

instance : Inhabited DV := ⟨.nsl⟩

/-- A slot's value: data; a place in an own block; a nil pointer beside which is known of what type an own block is; slT: a slice from an own block's begin, of cells of a type known; a place in data; a slice of an own block; a closure; a struct's or an array's cells; a tuple; unknown. -/
inductive AV where
  | d (x : DV)
  | ptr (id off : Nat)
  | npt (id T : Nat)
  | dptr (cells : List DV)
  | sl (id esz off len : Nat)
  | slT (id T len : Nat)
  | fn (f : Nat) (cap : List AV)
  | agg (cells : List AV)
  | tup (vs : List AV)
  | any

instance : Inhabited AV := ⟨.any⟩

/-- Where an own block lies: not made; a nil slice's; a block of the heap. -/
inductive Spot where
  | free
  | none
  | blk (b : Nat)

structure Ctx where
  φ : Nat → Spot
  imm : Nat → Prop

def rowSize (w : World) (b : Nat) : Option (TypeId × Nat) :=
  match w.heap[b]? with
  | some (.cells c T _) => some (T, c.size)
  | _ => none

mutual
def RelD (I : Nat → Prop) (w : World) : DV → Value → Prop
  | .int k n, v => v = .int k n
  | .bool b, v => v = .bool b
  | .str s, v => v = .string ⟨s.toArray⟩
  | .nsl, v => v = .slice none 0 0
  | .nptr, v => v = .pointer none
  | .nfn, v => v = .nilFunc
  | .nif, v => v = .nilIface
  | .sl n cells, v => ∃ a cap, v = .slice a n cap ∧ n ≤ cap ∧
      ((n = 0 ∧ cells = []) ∨ ∃ b o, a = some ⟨b, o, none⟩ ∧ I b ∧ RelDs I w cells b o)
def RelDs (I : Nat → Prop) (w : World) : List DV → Nat → Nat → Prop
  | [], _, _ => True
  | c :: cs, b, o => (∃ u, w.cell? ⟨b, o, none⟩ = some u ∧ RelD I w c u) ∧ RelDs I w cs b (o + 1)
end

mutual
def Rel (c : Ctx) (w : World) : AV → Value → Prop
  | .d x, v => RelD c.imm w x v
  | .ptr id off, v => ∃ b, c.φ id = .blk b ∧ v = .pointer (some ⟨b, off, none⟩)
  | .npt id T, v => v = .pointer none ∧ ∃ b, c.φ id = .blk b ∧ rowSize w b = some (T, 2)
  | .dptr cells, v => ∃ b o, c.imm b ∧ v = .pointer (some ⟨b, o, none⟩) ∧ RelDs c.imm w cells b o
  | .sl id esz off len, v => (c.φ id = .none ∧ off = 0 ∧ len = 0 ∧ v = .slice none 0 0) ∨
      ∃ b cap n, c.φ id = .blk b ∧ v = .slice (some ⟨b, off, none⟩) len cap ∧ len ≤ cap ∧ rowSize w b = some n ∧ off + cap * esz ≤ n.2
  | .slT id T len, v => (c.φ id = .none ∧ len = 0 ∧ v = .slice none 0 0) ∨
      ∃ b cap N, c.φ id = .blk b ∧ v = .slice (some ⟨b, 0, none⟩) len cap ∧ len ≤ cap ∧ rowSize w b = some (T, N) ∧ cap ≤ N
  | .fn f cap, v => ∃ vs, v = .func (.func f) #[] vs.toArray ∧ RelL c w cap vs
  | .agg cs, v => ∃ vs, v = .agg vs.toArray ∧ RelL c w cs vs
  | .tup cs, v => ∃ vs, v = .tuple vs.toArray ∧ RelL c w cs vs
  | .any, _ => True
def RelL (c : Ctx) (w : World) : List AV → List Value → Prop
  | [], vs => vs = []
  | x :: xs, vs => ∃ v vs', vs = v :: vs' ∧ Rel c w x v ∧ RelL c w xs vs'
end

/-! ### Lists of values -/

theorem RelL.length {c : Ctx} {w : World} : ∀ {xs : List AV} {vs : List Value}, RelL c w xs vs → vs.length = xs.length
  | [], _, h => by simp only [RelL] at h; subst h; rfl
  | x :: xs, _, h => by
    simp only [RelL] at h
    obtain ⟨v, vs', rfl, _, h⟩ := h
    simp [RelL.length h]

theorem RelL.get {c : Ctx} {w : World} : ∀ {xs : List AV} {vs : List Value} (_ : RelL c w xs vs) {i : Nat} {x : AV}, xs[i]? = some x → ∃ v, vs[i]? = some v ∧ Rel c w x v
  | [], _, _, i, x, hi => by simp at hi
  | y :: xs, _, h, i, x, hi => by
    simp only [RelL] at h
    obtain ⟨v, vs', rfl, hv, h⟩ := h
    cases i with
    | zero => simp at hi; subst hi; exact ⟨v, rfl, hv⟩
    | succ i => simp at hi; simpa using RelL.get h hi

theorem RelL.of_get {c : Ctx} {w : World} : ∀ {xs : List AV} {vs : List Value}, vs.length = xs.length →
    (∀ (i : Nat) (x : AV) (v : Value), xs[i]? = some x → vs[i]? = some v → Rel c w x v) → RelL c w xs vs
  | [], vs, hl, _ => by simp only [RelL]; exact List.eq_nil_of_length_eq_zero (by simpa using hl)
  | x :: xs, [], hl, _ => by simp at hl
  | x :: xs, v :: vs, hl, h => by
    simp only [RelL]
    exact ⟨v, vs, rfl, h 0 x v rfl rfl, RelL.of_get (by simpa using hl) fun i y u hy hu => h (i + 1) y u (by simpa using hy) (by simpa using hu)⟩

theorem RelL.append {c : Ctx} {w : World} : ∀ {xs ys : List AV} {vs us : List Value}, RelL c w xs vs → RelL c w ys us → RelL c w (xs ++ ys) (vs ++ us)
  | [], _, _, _, h, h' => by simp only [RelL] at h; subst h; simpa using h'
  | x :: xs, _, _, _, h, h' => by
    simp only [RelL] at h
    obtain ⟨v, vs', rfl, hv, h⟩ := h
    simp only [List.cons_append, RelL]
    exact ⟨v, _, rfl, hv, RelL.append h h'⟩

theorem RelL.take {c : Ctx} {w : World} : ∀ {xs : List AV} {vs : List Value} (n : Nat), RelL c w xs vs → RelL c w (xs.take n) (vs.take n)
  | [], _, n, h => by simp only [RelL] at h; subst h; simp [RelL]
  | x :: xs, _, 0, h => by simp [RelL]
  | x :: xs, _, n + 1, h => by
    simp only [RelL] at h
    obtain ⟨v, vs', rfl, hv, h⟩ := h
    simp only [List.take_succ_cons, RelL]
    exact ⟨v, _, rfl, hv, RelL.take n h⟩

theorem RelL.drop {c : Ctx} {w : World} : ∀ {xs : List AV} {vs : List Value} (n : Nat), RelL c w xs vs → RelL c w (xs.drop n) (vs.drop n)
  | [], _, n, h => by simp only [RelL] at h; subst h; simp [RelL]
  | x :: xs, _, 0, h => by simpa using h
  | x :: xs, _, n + 1, h => by
    simp only [RelL] at h
    obtain ⟨v, vs', rfl, hv, h⟩ := h
    simpa using RelL.drop n h

theorem RelL.set {c : Ctx} {w : World} : ∀ {xs : List AV} {vs : List Value} (i : Nat) {x : AV} {v : Value}, RelL c w xs vs → Rel c w x v → RelL c w (xs.set i x) (vs.set i v)
  | [], _, i, _, _, h, _ => by simp only [RelL] at h; subst h; simp [RelL]
  | y :: xs, _, 0, _, _, h, hx => by
    simp only [RelL] at h
    obtain ⟨v, vs', rfl, hv, h⟩ := h
    simp only [List.set_cons_zero, RelL]
    exact ⟨_, _, rfl, hx, h⟩
  | y :: xs, _, i + 1, _, _, h, hx => by
    simp only [RelL] at h
    obtain ⟨v, vs', rfl, hv, h⟩ := h
    simp only [List.set_cons_succ, RelL]
    exact ⟨_, _, rfl, hv, RelL.set i h hx⟩

/-! ### Data's cells -/

theorem RelDs.get {I : Nat → Prop} {w : World} : ∀ {cs : List DV} {b o : Nat} (_ : RelDs I w cs b o) {i : Nat} {c : DV}, cs[i]? = some c →
    ∃ u, w.cell? ⟨b, o + i, none⟩ = some u ∧ RelD I w c u
  | [], _, _, _, i, c, hi => by simp at hi
  | x :: cs, b, o, h, i, c, hi => by
    simp only [RelDs] at h
    cases i with
    | zero => simp at hi; subst hi; exact h.1
    | succ i =>
      simp at hi
      obtain ⟨u, hu, hr⟩ := RelDs.get h.2 hi
      exact ⟨u, by rw [← hu]; congr 2; omega, hr⟩

theorem RelDs.of_get {I : Nat → Prop} {w : World} : ∀ {cs : List DV} {b o : Nat},
    (∀ (i : Nat) (c : DV), cs[i]? = some c → ∃ u, w.cell? ⟨b, o + i, none⟩ = some u ∧ RelD I w c u) → RelDs I w cs b o
  | [], _, _, _ => by simp [RelDs]
  | x :: cs, b, o, h => by
    simp only [RelDs]
    refine ⟨by simpa using h 0 x rfl, RelDs.of_get fun i c hi => ?_⟩
    obtain ⟨u, hu, hr⟩ := h (i + 1) c (by simpa using hi)
    exact ⟨u, by rw [← hu]; congr 2; omega, hr⟩

theorem RelDs.drop {I : Nat → Prop} {w : World} {cs : List DV} {b o : Nat} (h : RelDs I w cs b o) (n : Nat) : RelDs I w (cs.drop n) b (o + n) :=
  RelDs.of_get fun i c hi => by
    rw [List.getElem?_drop] at hi
    obtain ⟨u, hu, hr⟩ := RelDs.get h hi
    exact ⟨u, by rw [← hu]; congr 2; omega, hr⟩

theorem RelDs.take {I : Nat → Prop} {w : World} {cs : List DV} {b o : Nat} (h : RelDs I w cs b o) (n : Nat) : RelDs I w (cs.take n) b o :=
  RelDs.of_get fun i c hi => by
    rw [List.getElem?_take] at hi
    split at hi
    · exact RelDs.get h hi
    · simp at hi

/-! ### What a growing world keeps -/

def SameOn (I : Nat → Prop) (w w' : World) : Prop := ∀ b, I b → w'.heap[b]? = w.heap[b]?

theorem SameOn.cell {I : Nat → Prop} {w w' : World} (h : SameOn I w w') {b : Nat} (hb : I b) (o : Nat) : w'.cell? ⟨b, o, none⟩ = w.cell? ⟨b, o, none⟩ := by
  simp only [World.cell?, h b hb]

mutual
theorem relD_mono {I I' : Nat → Prop} {w w' : World} (hI : ∀ b, I b → I' b) (hs : SameOn I w w') : ∀ (x : DV) (v : Value), RelD I w x v → RelD I' w' x v
  | .int _ _, _, h => h
  | .bool _, _, h => h
  | .str _, _, h => h
  | .nsl, _, h => h
  | .nptr, _, h => h
  | .nfn, _, h => h
  | .nif, _, h => h
  | .sl n cells, v, h => by
    simp only [RelD] at h ⊢
    obtain ⟨a, cap, hv, hn, h⟩ := h
    refine ⟨a, cap, hv, hn, ?_⟩
    rcases h with h | ⟨b, o, ha, hb, hc⟩
    · exact .inl h
    · exact .inr ⟨b, o, ha, hI b hb, relDs_mono hI hs cells b o hb hc⟩
theorem relDs_mono {I I' : Nat → Prop} {w w' : World} (hI : ∀ b, I b → I' b) (hs : SameOn I w w') : ∀ (cs : List DV) (b o : Nat), I b → RelDs I w cs b o → RelDs I' w' cs b o
  | [], _, _, _, _ => by simp [RelDs]
  | c :: cs, b, o, hb, h => by
    simp only [RelDs] at h ⊢
    obtain ⟨⟨u, hu, hr⟩, h⟩ := h
    exact ⟨⟨u, by rw [hs.cell hb]; exact hu, relD_mono hI hs c u hr⟩, relDs_mono hI hs cs b (o + 1) hb h⟩
end

/-- From a world and its context to a later one, by way of which values are read as they were. -/
structure Later (c c' : Ctx) (w w' : World) : Prop where
  imm : ∀ b, c.imm b → c'.imm b
  same : SameOn c.imm w w'
  ext : ∀ id, c.φ id ≠ .free → c'.φ id = c.φ id
  size : ∀ b n, rowSize w b = some n → rowSize w' b = some n

mutual
theorem rel_mono {c c' : Ctx} {w w' : World} (h : Later c c' w w') : ∀ (x : AV) (v : Value), Rel c w x v → Rel c' w' x v
  | .d x, v, hr => by simp only [Rel] at hr ⊢; exact relD_mono h.imm h.same x v hr
  | .ptr id off, v, hr => by
    simp only [Rel] at hr ⊢
    obtain ⟨b, hb, hv⟩ := hr
    exact ⟨b, by rw [h.ext id (by rw [hb]; simp)]; exact hb, hv⟩
  | .npt id T, v, hr => by
    simp only [Rel] at hr ⊢
    obtain ⟨hv, b, hb, hs⟩ := hr
    exact ⟨hv, b, by rw [h.ext id (by rw [hb]; simp)]; exact hb, h.size b _ hs⟩
  | .dptr cells, v, hr => by
    simp only [Rel] at hr ⊢
    obtain ⟨b, o, hb, hv, hc⟩ := hr
    exact ⟨b, o, h.imm b hb, hv, relDs_mono h.imm h.same cells b o hb hc⟩
  | .sl id esz off len, v, hr => by
    simp only [Rel] at hr ⊢
    rcases hr with ⟨h0, hr⟩ | ⟨b, cap, n, hb, hv, hl, hn, hr⟩
    · exact .inl ⟨by rw [h.ext id (by rw [h0]; simp)]; exact h0, hr⟩
    · exact .inr ⟨b, cap, n, by rw [h.ext id (by rw [hb]; simp)]; exact hb, hv, hl, h.size b n hn, hr⟩
  | .slT id T len, v, hr => by
    simp only [Rel] at hr ⊢
    rcases hr with ⟨h0, hr⟩ | ⟨b, cap, n, hb, hv, hl, hn, hr⟩
    · exact .inl ⟨by rw [h.ext id (by rw [h0]; simp)]; exact h0, hr⟩
    · exact .inr ⟨b, cap, n, by rw [h.ext id (by rw [hb]; simp)]; exact hb, hv, hl, h.size b _ hn, hr⟩
  | .fn f cap, v, hr => by
    simp only [Rel] at hr ⊢
    obtain ⟨vs, hv, hl⟩ := hr
    exact ⟨vs, hv, relL_mono h cap vs hl⟩
  | .agg cs, v, hr => by
    simp only [Rel] at hr ⊢
    obtain ⟨vs, hv, hl⟩ := hr
    exact ⟨vs, hv, relL_mono h cs vs hl⟩
  | .tup cs, v, hr => by
    simp only [Rel] at hr ⊢
    obtain ⟨vs, hv, hl⟩ := hr
    exact ⟨vs, hv, relL_mono h cs vs hl⟩
  | .any, _, _ => by simp [Rel]
theorem relL_mono {c c' : Ctx} {w w' : World} (h : Later c c' w w') : ∀ (xs : List AV) (vs : List Value), RelL c w xs vs → RelL c' w' xs vs
  | [], _, hr => by simpa [RelL] using hr
  | x :: xs, vs, hr => by
    simp only [RelL] at hr ⊢
    obtain ⟨v, vs', hv, hx, hl⟩ := hr
    exact ⟨v, vs', hv, rel_mono h x v hx, relL_mono h xs vs' hl⟩
end

theorem Later.refl (c : Ctx) (w : World) : Later c c w w := ⟨fun _ h => h, fun _ _ => rfl, fun _ _ => rfl, fun _ _ h => h⟩

theorem Later.trans {c c' c'' : Ctx} {w w' w'' : World} (h : Later c c' w w') (h' : Later c' c'' w' w'') : Later c c'' w w'' :=
  ⟨fun b hb => h'.imm b (h.imm b hb), fun b hb => (h'.same b (h.imm b hb)).trans (h.same b hb),
   fun id hid => by rw [h'.ext id (by rw [h.ext id hid]; exact hid), h.ext id hid], fun b n hn => h'.size b n (h.size b n hn)⟩

/-! ### Memory and frames -/

abbrev Mem := List (Nat × List AV)

def mget : Mem → Nat → Option (List AV)
  | [], _ => none
  | (k, c) :: r, i => if k = i then some c else mget r i

def mset : Mem → Nat → List AV → Mem
  | [], i, c => [(i, c)]
  | (k, x) :: r, i, c => if k = i then (k, c) :: r else (k, x) :: mset r i c

def mdel : Mem → Nat → Mem
  | [], _ => []
  | (k, x) :: r, i => if k = i then mdel r i else (k, x) :: mdel r i

theorem mget_mset (m : Mem) (i j : Nat) (c : List AV) : mget (mset m i c) j = if i = j then some c else mget m j := by
  induction m with
  | nil => simp [mset, mget]
  | cons p r ih =>
    obtain ⟨k, x⟩ := p
    simp only [mset]
    by_cases hk : k = i
    · subst hk
      rw [if_pos rfl]
      simp only [mget]
      by_cases hj : k = j <;> simp [hj]
    · rw [if_neg hk]
      simp only [mget, ih]
      by_cases hj : k = j
      · subst hj; simp [Ne.symm hk]
      · simp [hj]

theorem mget_mdel (m : Mem) (i j : Nat) : mget (mdel m i) j = if i = j then none else mget m j := by
  induction m with
  | nil => simp [mdel, mget]
  | cons p r ih =>
    obtain ⟨k, x⟩ := p
    simp only [mdel]
    by_cases hk : k = i
    · subst hk
      rw [if_pos rfl, ih]
      simp only [mget]
      by_cases hj : k = j <;> simp [hj]
    · rw [if_neg hk]
      simp only [mget, ih]
      by_cases hj : k = j
      · subst hj; simp [Ne.symm hk]
      · simp [hj]

abbrev Fr := List (Nat × AV)

def fget : Fr → Nat → AV
  | [], _ => .any
  | (k, x) :: r, i => if k = i then x else fget r i

/-- No cell of a row of n is frozen. -/
def NoFz (n : Nat) (f : Nat × Nat) : Prop := f.1 = f.2 ∨ n ≤ f.1

def OwnR (c : Ctx) (w : World) (id : Nat) (cells : List AV) : Prop :=
  (c.φ id = .none ∧ cells = []) ∨
  ∃ b arr T f, c.φ id = .blk b ∧ ¬ c.imm b ∧ w.heap[b]? = some (.cells arr T f) ∧ NoFz arr.size f ∧ ∃ vs rest, arr.toList = vs ++ rest ∧ RelL c w cells vs

/-- Tables of the library's that nobody writes (by their blocks' numbers), and what is known of their cells: the seat's own constant. -/
def tabC : Nat → Option (Array Value → Prop) := fun g => if g = 3 then some (fun cs => cs = #[.int .u64 1, .int .u64 10, .int .u64 100, .int .u64 1000, .int .u64 10000, .int .u64 100000, .int .u64 1000000, .int .u64 10000000, .int .u64 100000000, .int .u64 1000000000, .int .u64 10000000000, .int .u64 100000000000, .int .u64 1000000000000, .int .u64 10000000000000, .int .u64 100000000000000, .int .u64 1000000000000000, .int .u64 10000000000000000, .int .u64 100000000000000000, .int .u64 1000000000000000000, .int .u64 10000000000000000000]) else if g = 0 ∨ g = 1 then some (fun cs => ∃ t p, cs = #[.iface t p]) else none

structure MR (c : Ctx) (m : Mem) (w : World) : Prop where
  own : ∀ id cells, mget m id = some cells → OwnR c w id cells
  inj : ∀ id id' b, (mget m id).isSome → (mget m id').isSome → c.φ id = .blk b → c.φ id' = .blk b → id = id'
  imm : ∀ b, c.imm b → b < w.heap.size
  tab : ∀ g Φ, tabC g = some Φ → c.imm g ∧ ∃ cs T f, w.heap[g]? = some (.cells cs T f) ∧ Φ cs

theorem MR.tabTo {c c' : Ctx} {m : Mem} {w w' : World} (h : MR c m w) (hi : ∀ b, c.imm b → c'.imm b) (hk : ∀ b, c.imm b → w'.heap[b]? = w.heap[b]?) :
    ∀ g Φ, tabC g = some Φ → c'.imm g ∧ ∃ cs T f, w'.heap[g]? = some (.cells cs T f) ∧ Φ cs := fun g Φ hg => by
  obtain ⟨h1, cs, T, f, h2, h3⟩ := h.tab g Φ hg
  exact ⟨hi g h1, cs, T, f, (hk g h1).trans h2, h3⟩

def FR (c : Ctx) (w : World) (t : Fr) (tmps : Array Value) : Prop := ∀ i, Rel c w (fget t i) (tmps.getD i undef)

/-- The blocks of memory m. -/
def Own (c : Ctx) (m : Mem) (b : Nat) : Prop := ∃ id, (mget m id).isSome ∧ c.φ id = .blk b

/-- One step's worth of change: what is not of O is as it was. -/
structure Step (O : Nat → Prop) (c c' : Ctx) (w w' : World) : Prop where
  os : w'.os = w.os
  tape : w'.tape = w.tape
  output : w'.output = w.output
  size : w.heap.size ≤ w'.heap.size
  keep : ∀ k, k < w.heap.size → ¬ O k → w'.heap[k]? = w.heap[k]?
  rows : ∀ b n, rowSize w b = some n → rowSize w' b = some n
  imm : ∀ b, c.imm b → c'.imm b
  imm' : ∀ b, c'.imm b → c.imm b ∨ O b ∨ w.heap.size ≤ b

theorem Step.refl (O : Nat → Prop) (c : Ctx) (w : World) : Step O c c w w :=
  ⟨rfl, rfl, rfl, Nat.le_refl _, fun _ _ _ => rfl, fun _ _ h => h, fun _ h => h, fun _ h => .inl h⟩

theorem Step.trans {O O' : Nat → Prop} {c c' c'' : Ctx} {w w' w'' : World} (h : Step O c c' w w') (h' : Step O' c' c'' w' w'')
    (hO : ∀ b, O' b → O b ∨ w.heap.size ≤ b) : Step O c c'' w w'' where
  os := h'.os.trans h.os
  tape := h'.tape.trans h.tape
  output := h'.output.trans h.output
  size := Nat.le_trans h.size h'.size
  keep := fun k hk hn => (h'.keep k (Nat.lt_of_lt_of_le hk h.size) fun hO' => by rcases hO k hO' with h1 | h1; exact hn h1; omega).trans (h.keep k hk hn)
  rows := fun b n hn => h'.rows b n (h.rows b n hn)
  imm := fun b hb => h'.imm b (h.imm b hb)
  imm' := fun b hb => by
    rcases h'.imm' b hb with h1 | h1 | h1
    · exact h.imm' b h1
    · rcases hO b h1 with h2 | h2
      · exact .inr (.inl h2)
      · exact .inr (.inr h2)
    · exact .inr (.inr (Nat.le_trans h.size h1))

theorem Step.weaken {O O' : Nat → Prop} {c c' : Ctx} {w w' : World} (h : Step O c c' w w') (hO : ∀ b, O b → O' b) : Step O' c c' w w' :=
  { h with keep := fun k hk hn => h.keep k hk fun h1 => hn (hO k h1), imm' := fun b hb => (h.imm' b hb).imp id fun h1 => h1.imp (hO b) id }

/-- What the immutable blocks hold is never an own block's. -/
theorem MR.sep {c : Ctx} {m : Mem} {w : World} (h : MR c m w) {b : Nat} (hi : c.imm b) : ¬ Own c m b := by
  rintro ⟨id, hid, hb⟩
  obtain ⟨cells, hc⟩ := Option.isSome_iff_exists.1 hid
  rcases h.own id cells hc with ⟨h0, _⟩ | ⟨b', arr, T, f, hb', hni, _⟩
  · rw [h0] at hb; cases hb
  · rw [hb'] at hb; cases hb; exact hni hi

theorem Step.later {c c' : Ctx} {m : Mem} {w w' : World} (hm : MR c m w) (h : Step (Own c m) c c' w w') (hext : ∀ id, c.φ id ≠ .free → c'.φ id = c.φ id) : Later c c' w w' :=
  ⟨h.imm, fun b hb => h.keep b (hm.imm b hb) (hm.sep hb), hext, h.rows⟩

end Go.Jq

/-! The abstract layer, part 2: operations with their types resolved, and what each does to abstract values. -/
namespace Go.Jq
open Go

/-! ### Operations -/

inductive Opd where
  | t (i : Nat)
  | c (x : AV)

inductive AOp where
  | mv (x : Opd)
  | pick (c a b : Opd)
  | alloc (zero : List AV)
  | box (x : Opd)
  | build (zero : List AV) (parts : List (Nat × Nat × Opd))
  | bslice (esz len : Nat) (zero : List AV) (parts : List (Nat × Nat × Opd))
  | load (k : Option Nat) (x : Opd)
  | store (k : Nat) (a v : Opd)
  | nilck (x : Opd)
  | bin (op : BinOp) (x y : Opd)
  | eqb (neg : Bool) (x y : Opd)
  | eqp (neg : Bool) (x y : Opd)
  | eqf (neg : Bool) (x y : Opd)
  | eqs (sz : List Nat) (neg : Bool) (x y : Opd)
  | un (op : UnOp) (x : Opd)
  | cvi (k : IntKind) (x : Opd)
  | cvrune (x : Opd)
  | cvbs (x : Opd)
  | cvsb (x : Opd)
  | cvll (x : Opd)
  | mkfn (f : Nat) (caps : List Opd)
  | mksl (esz bytes : Nat) (zero : List AV) (len cap : Opd)
  | slcs (x : Opd) (lo hi : Option Opd)
  | slcl (esz : Nat) (x : Opd) (lo hi : Option Opd)
  | faddr (x : Opd) (off : Nat)
  | fld (x : Opd) (off : Nat) (k : Option Nat)
  | iaddr (esz : Nat) (n : Option Nat) (x i : Opd)
  | idxs (x i : Opd)
  | idxa (n esz : Nat) (k : Option Nat) (x i : Opd)
  | ext (x : Opd) (i : Nat)
  | lens (x : Opd)
  | lenl (x : Opd)
  | minI (x y : Opd)
  | maxI (x y : Opd)
  | app (esz bytes el : Nat) (x y : Opd)
  | callf (f : Nat) (args : List Opd)
  | callv (x : Opd) (args : List Opd)

structure AOper where
  dst : Option Nat
  op : AOp
  guard : Option (Nat × Bool)

/-- What an operation does to memory: nothing; a new own block; an own block's cells anew; an own block goes on under a new number. -/
inductive Eff where
  | nil
  | new (cells : List AV)
  | put (id : Nat) (cells : List AV)
  | mov (id : Nat) (cells : List AV)

def Eff.mem (m : Mem) (n : Nat) : Eff → Mem
  | .nil => m
  | .new c => mset m n c
  | .put id c => mset m id c
  | .mov id c => mset (mdel m id) n c

def Eff.next (n : Nat) : Eff → Nat
  | .nil => n
  | .new _ => n + 1
  | .put _ _ => n
  | .mov _ _ => n + 1

/-! ### What each comes to -/

def ev (t : Fr) : Opd → AV
  | .t i => fget t i
  | .c x => x

def cellsOf : AV → Option (List AV)
  | .agg cs => some cs
  | .tup _ => none
  | .any => none
  | x => some [x]

def oneB : AV → Bool
  | .agg _ => false
  | .tup _ => false
  | .any => false
  | _ => true

/-- A new block's cells, its own number put in. -/
def fixZ (n : Nat) : List AV → List AV
  | .npt _ T :: r => .npt n T :: r
  | z => z

def putAt : List AV → Nat → List AV → List AV
  | l, _, [] => l
  | l, o, v :: vs => putAt (l.set o v) (o + 1) vs

def fillA : List AV → List (Nat × Nat × AV) → Option (List AV)
  | cs, [] => some cs
  | cs, (off, size, v) :: r =>
    match cellsOf v with
    | some vs => if vs.length = size ∧ off + size ≤ cs.length then fillA (putAt cs off vs) r else none
    | none => none

def evParts (t : Fr) (ps : List (Nat × Nat × Opd)) : List (Nat × Nat × AV) := ps.map fun p => (p.1, p.2.1, ev t p.2.2)

def bytesAV (s : List UInt8) : List AV := s.map fun b => .d (.int .u8 b.toNat)

/-- A slice's elements: how many, and their cells. -/
def elemsOf (m : Mem) (esz : Nat) : AV → Option (Nat × List AV)
  | .d .nsl => some (0, [])
  | .d (.sl n cells) => if cells.length = n * esz then some (n, cells.map .d) else none
  | .d (.str s) => if esz = 1 then some (s.length, bytesAV s) else none
  | .sl id e off len => match mget m id with
    | some cs => if e = esz ∧ off + len * esz ≤ cs.length ∧ ((cs.drop off).take (len * esz)).all oneB = true then some (len, (cs.drop off).take (len * esz)) else none
    | none => none
  | _ => none

def wrapI (k : IntKind) (n : Int) : AV := .d (.int k (k.wrap n))
def boolA (b : Bool) : AV := .d (.bool b)

def binI (op : BinOp) (k : IntKind) (a b : Int) : Option AV :=
  match op with
  | .add => some (wrapI k (a + b))
  | .sub => some (wrapI k (a - b))
  | .mul => some (wrapI k (a * b))
  | .quo => if b = 0 then none else some (wrapI k (a.tdiv b))
  | .rem => if b = 0 then none else some (.d (.int k (a.tmod b)))
  | .and => some (.d (.int k (bits .and k a b)))
  | .or => some (.d (.int k (bits .or k a b)))
  | .xor => some (.d (.int k (bits .xor k a b)))
  | .andNot => some (.d (.int k (bits .andNot k a b)))
  | .shl => none
  | .shr => none
  | .eql => some (boolA (decide (a = b)))
  | .neq => some (boolA (!decide (a = b)))
  | .lss => some (boolA (decide (a < b)))
  | .leq => some (boolA (decide (a ≤ b)))
  | .gtr => some (boolA (decide (b < a)))
  | .geq => some (boolA (decide (b ≤ a)))

def shI (op : BinOp) (k : IntKind) (a b : Int) : Option AV :=
  if b < 0 then none else
  match op with
  | .shl => some (wrapI k (a * 2 ^ min b.toNat k.bits))
  | .shr => some (.d (.int k (a.fdiv (2 ^ min b.toNat k.bits))))
  | _ => none

def binS (op : BinOp) (a b : List UInt8) : Option AV :=
  match op with
  | .add => if a.length + b.length ≤ 9223372036854775807 then some (.d (.str (a ++ b))) else none
  | .eql => some (boolA (decide (a = b)))
  | .neq => some (boolA (!decide (a = b)))
  | .lss => some (boolA (Op.bytesLess a b))
  | .leq => some (boolA (Op.bytesLess a b || decide (a = b)))
  | .gtr => some (boolA (!(Op.bytesLess a b || decide (a = b))))
  | .geq => some (boolA (!Op.bytesLess a b))
  | _ => none

def binA (op : BinOp) : AV → AV → Option AV
  | .d (.int k a), .d (.int k' b) =>
    if op = .shl ∨ op = .shr then shI op k a b else if k = k' then binI op k a b else none
  | .d (.str a), .d (.str b) => binS op a b
  | _, _ => none

def unA (op : UnOp) : AV → Option AV
  | .d (.int k a) => match op with
    | .neg => some (wrapI k (0 - a))
    | .xor => some (.d (.int k (bits .xor k (if k.signed then -1 else k.max) a)))
    | _ => none
  | .d (.bool b) => match op with
    | .not => some (boolA (!b))
    | _ => none
  | _ => none

/-- Pointers against nil. -/
def eqpA (neg : Bool) : AV → AV → Option AV
  | .ptr _ _, .d .nptr => some (boolA neg)
  | .dptr _, .d .nptr => some (boolA neg)
  | .d .nptr, .ptr _ _ => some (boolA neg)
  | .d .nptr, .dptr _ => some (boolA neg)
  | .d .nptr, .d .nptr => some (boolA (!neg))
  | _, _ => none

/-- Functions against nil. -/
def eqfA (neg : Bool) : AV → AV → Option AV
  | .fn _ _, .d .nfn => some (boolA neg)
  | .d .nfn, .fn _ _ => some (boolA neg)
  | .d .nfn, .d .nfn => some (boolA (!neg))
  | _, _ => none

/-- Cell against cell, of the kind told: 0: a number; 1: a bool; 2: a string. -/
def eqCell : Nat → AV → AV → Option Bool
  | 0, .d (.int k a), .d (.int k' b) => if k = k' then some (decide (a = b)) else none
  | 1, .d (.bool a), .d (.bool b) => some (a == b)
  | 2, .d (.str a), .d (.str b) => some (decide (a = b))
  | _, _, _ => none

def eqCells : List Nat → List AV → List AV → Option Bool
  | [], [], [] => some true
  | k :: ks, x :: xs, y :: ys => match eqCell k x y, eqCells ks xs ys with
    | some a, some b => some (a && b)
    | _, _ => none
  | _, _, _ => none

def lenA : AV → Option Nat
  | .d .nsl => some 0
  | .d (.sl n _) => some n
  | .sl _ _ _ len => some len
  | _ => none

/-- A byte list out of cells. -/
def cellBytes : List AV → Option (List UInt8)
  | [] => some []
  | .d (.int .u8 n) :: r => (cellBytes r).map (UInt8.ofNat n.toNat :: ·)
  | _ :: _ => none

def bndA (x : Option AV) (dflt : Nat) : Option Nat :=
  match x with
  | none => some dflt
  | some (.d (.int _ n)) => if 0 ≤ n then some n.toNat else none
  | _ => none

def loadA (k : Option Nat) (cells : List AV) : Option AV :=
  match k with
  | none => cells[0]?
  | some k => if k ≤ cells.length then some (.agg (cells.take k)) else none

def slcA (esz lo hi len : Nat) : AV → Option AV
  | .d .nsl => if lo = 0 ∧ hi = 0 then some (.d .nsl) else none
  | .d (.sl n cells) => if lo ≤ hi ∧ hi ≤ n ∧ n = len then some (.d (.sl (hi - lo) ((cells.drop (lo * esz)).take ((hi - lo) * esz)))) else none
  | .sl id e off n => if e = esz ∧ n = len ∧ lo ≤ hi ∧ hi ≤ n then
      (if lo = 0 then some (.sl id esz off hi) else if lo = hi then some (.d (.sl 0 [])) else some (.sl id esz (off + lo * esz) (hi - lo))) else none
  | _ => none

def aevN (o : AOp) (t : Fr) (m : Mem) (n : Nat) : Option (AV × Eff) :=
  match o with
  | .mv x => some (ev t x, .nil)
  | .pick c a b => match ev t c with
    | .d (.bool v) => some (if v = true then ev t a else ev t b, .nil)
    | _ => none
  | .alloc z => some (.ptr n 0, .new (fixZ n z))
  | .box x => (cellsOf (ev t x)).map fun cs => (.ptr n 0, .new cs)
  | .build z ps => (fillA z (evParts t ps)).map fun cs => (.agg cs, .nil)
  | .bslice esz len z ps => (fillA z (evParts t ps)).map fun cs => (.sl n esz 0 len, .new cs)
  | .load k x => match ev t x with
    | .ptr id off => match mget m id with
      | some cs => (loadA k (cs.drop off)).map fun v => (v, .nil)
      | none => none
    | .dptr cs => (loadA k (cs.map .d)).map fun v => (v, .nil)
    | _ => none
  | .store k a v => match ev t a, cellsOf (ev t v) with
    | .ptr id off, some vs => match mget m id with
      | some cs => if vs.length = k ∧ vs.all oneB = true ∧ off + k ≤ cs.length then some (.any, .put id (putAt cs off vs)) else none
      | none => none
    | _, _ => none
  | .nilck x => match ev t x with
    | .ptr id off => some (.ptr id off, .nil)
    | .dptr cs => some (.dptr cs, .nil)
    | .fn f cs => some (.fn f cs, .nil)
    | _ => none
  | .bin op x y => (binA op (ev t x) (ev t y)).map fun v => (v, .nil)
  | .eqb neg x y => match ev t x, ev t y with
    | .d (.bool a), .d (.bool b) => some (boolA ((a == b) != neg), .nil)
    | _, _ => none
  | .eqp neg x y => (eqpA neg (ev t x) (ev t y)).map fun v => (v, .nil)
  | .eqf neg x y => (eqfA neg (ev t x) (ev t y)).map fun v => (v, .nil)
  | .eqs sz neg x y => match ev t x, ev t y with
    | .agg xs, .agg ys => (eqCells sz xs ys).map fun b => (boolA (b != neg), .nil)
    | _, _ => none
  | .un op x => (unA op (ev t x)).map fun v => (v, .nil)
  | .cvi k x => match ev t x with
    | .d (.int _ a) => some (wrapI k a, .nil)
    | _ => none
  | .cvrune x => match ev t x with
    | .d (.int _ a) => some (.d (.str (Utf8.encode a).data.toList), .nil)
    | .d (.str s) => some (.d (.str s), .nil)
    | _ => none
  | .cvbs x => match ev t x with
    | .d (.str _) => none
    | y => match elemsOf m 1 y with
      | some (_, cs) => (cellBytes cs).map fun s => (.d (.str s), .nil)
      | none => none
  | .cvsb x => match ev t x with
    | .d (.str s) => some (.sl n 1 0 s.length, .new (bytesAV s))
    | _ => none
  | .cvll x => match ev t x with
    | .sl id e off len => match mget m id with
      | some _ => if len = 0 then none else some (.sl id e off len, .nil)
      | none => none
    | _ => none
  | .mkfn f caps => some (.fn f (caps.map (ev t)), .nil)
  | .mksl esz bytes z l c => match ev t l, ev t c with
    | .d (.int .i64 a), .d (.int .i64 b) =>
      if 0 ≤ a ∧ a ≤ b ∧ bytes * b ≤ 140737488351232 ∧ b ≤ 9223372036854775807 then some (.sl n esz 0 a.toNat, .new ((List.range (a.toNat * esz)).map fun i => z.getD (i % z.length) .any)) else none
    | _, _ => none
  | .slcs x lo hi => match ev t x with
    | .d (.str s) => match bndA (lo.map (ev t)) 0, bndA (hi.map (ev t)) s.length with
      | some l, some h => if l ≤ h ∧ h ≤ s.length then some (.d (.str ((s.take h).drop l)), .nil) else none
      | _, _ => none
    | _ => none
  | .slcl esz x lo hi => match lenA (ev t x) with
    | some len => match bndA (lo.map (ev t)) 0, bndA (hi.map (ev t)) len with
      | some l, some h => (slcA esz l h len (ev t x)).map fun v => (v, .nil)
      | _, _ => none
    | none => none
  | .faddr x off => match ev t x with
    | .ptr id o => some (.ptr id (o + off), .nil)
    | .dptr cs => some (.dptr (cs.drop off), .nil)
    | _ => none
  | .fld x off k => match ev t x with
    | .agg cs => (loadA k (cs.drop off)).map fun v => (v, .nil)
    | _ => none
  | .iaddr esz n x i => match ev t x, ev t i with
    | .ptr id o, .d (.int _ i) => match n with
      | some n => if 0 ≤ i ∧ i < n then some (.ptr id (o + i.toNat * esz), .nil) else none
      | none => none
    | .dptr cs, .d (.int _ i) => match n with
      | some n => if 0 ≤ i ∧ i < n then some (.dptr (cs.drop (i.toNat * esz)), .nil) else none
      | none => none
    | .sl id e off len, .d (.int _ i) => if n = none ∧ e = esz ∧ 0 ≤ i ∧ i < len then some (.ptr id (off + i.toNat * esz), .nil) else none
    | .d (.sl len cs), .d (.int _ i) => if n = none ∧ 0 ≤ i ∧ i < len ∧ i.toNat * esz < cs.length then some (.dptr (cs.drop (i.toNat * esz)), .nil) else none
    | _, _ => none
  | .idxs x i => match ev t x, ev t i with
    | .d (.str s), .d (.int _ i) => if 0 ≤ i ∧ i < s.length then some (.d (.int .u8 (s.getD i.toNat 0).toNat), .nil) else none
    | _, _ => none
  | .idxa n esz k x i => match ev t x, ev t i with
    | .agg cs, .d (.int _ i) => if 0 ≤ i ∧ i < n then (loadA k (cs.drop (i.toNat * esz))).map fun v => (v, .nil) else none
    | _, _ => none
  | .ext x i => match ev t x with
    | .tup vs => vs[i]?.map fun v => (v, .nil)
    | _ => none
  | .lens x => match ev t x with
    | .d (.str s) => some (.d (.int .i64 (s.length : Int)), .nil)
    | _ => none
  | .lenl x => (lenA (ev t x)).map fun (l : Nat) => (.d (.int .i64 (l : Int)), .nil)
  | .minI x y => match ev t x, ev t y with
    | .d (.int k a), .d (.int _ b) => some (.d (.int k (if b < a then b else a)), .nil)
    | _, _ => none
  | .maxI x y => match ev t x, ev t y with
    | .d (.int k a), .d (.int _ b) => some (.d (.int k (if a < b then b else a)), .nil)
    | _, _ => none
  | .app esz bytes el x y => match elemsOf m esz (ev t y) with
    | some (k, new) =>
      match ev t x with
      | .d .nsl => if k * bytes ≤ 140737488351232 then (if k = 0 then some (.d .nsl, .nil) else some (.sl n esz 0 k, .new new)) else none
      | .sl id e off len => match mget m id with
        | some cs => if e = esz ∧ off + len * esz = cs.length ∧ (len + k) * bytes ≤ 140737488351232 then
            (if k = 0 then some (.sl id esz off len, .nil) else if off = 0 then some (.sl n esz 0 (len + k), .mov id (cs ++ new)) else none) else none
        | none => none
      | .slT id T len => match mget m id with
        | some cs => if esz = 1 ∧ T = el ∧ len = cs.length ∧ (len + k) * bytes ≤ 140737488351232 then
            (if k = 0 then some (.slT id T len, .nil) else some (.slT n T (len + k), .mov id (cs ++ new))) else none
        | none => none
      | _ => none
    | none => none
  | .callf _ _ => none
  | .callv _ _ => none

/-! ### From the model's operations -/

def cval1 : Value → AV
  | .bool b => .d (.bool b)
  | .int k n => .d (.int k n)
  | .string s => .d (.str s.data.toList)
  | .pointer none => .d .nptr
  | .slice none 0 0 => .d .nsl
  | .nilFunc => .d .nfn
  | .nilIface => .d .nif
  | _ => .any

def cval : Value → AV
  | .agg cs => .agg (cs.toList.map cval1)
  | v => cval1 v

def cOpd : Operand → Opd
  | .tmp t => .t t
  | .const v => .c (cval v)
  | .func f => .c (.fn f [])
  | .global _ => .c .any

/-- How many cells a variable of the type is loaded as: none: one cell. -/
def ldk (P : Program) (t : TypeId) : Option (Option Nat) :=
  match P.info? t, P.underlying t with
  | some i, some (.struct _) => some (some i.size)
  | some i, some (.array _ _) => some (some i.size)
  | some _, some _ => some none
  | _, _ => none

def zeroOf (P : Program) (t : TypeId) : Option (List AV) :=
  match P.info? t with
  | some i => match i.zero with
    | some z => some (z.cells.toList.map cval1)
    | none => none
  | none => none

def fieldPlace' (P : Program) (fs : Array Field) (f : Nat) : Option (Nat × Nat) :=
  match fs[f]? with
  | some fd => match P.info? fd.type with
    | some i => some (fd.offset, i.size)
    | none => none
  | none => none

def partsOf (place : Nat → Option (Nat × Nat)) : List (Nat × Operand) → Option (List (Nat × Nat × Opd))
  | [] => some []
  | (i, x) :: r => match place i, partsOf place r with
    | some (off, size), some r' => some ((off, size, cOpd x) :: r')
    | _, _ => none

/-- The kinds of the fields' cells of a struct all of whose cells are plain, from offset 'acc' on. -/
def flatFs (P : Program) (sz : TypeId → Option (List Nat)) : List Field → Nat → Option (List Nat)
  | [], _ => some []
  | f :: r, acc => match sz f.type with
    | some s => if f.name ≠ "_" ∧ f.offset = acc ∧ (P.info? f.type).map (·.size) = some s.length then (flatFs P sz r (acc + s.length)).map (s ++ ·) else none
    | none => none

/-- All cells of the type are plain: numbers, bools, strings: their kinds. -/
def flatSz (P : Program) : Nat → TypeId → Option (List Nat)
  | 0, _ => none
  | d + 1, t => match P.underlying t with
    | some (.int _) => some [0]
    | some .bool => some [1]
    | some .string => some [2]
    | some (.struct fs) => if P.stoodInHeld t then none else flatFs P (flatSz P d) fs.toList 0
    | _ => none

def goesB (P : Program) (f : Nat) : Bool :=
  match P.funcs[f]? with
  | some fn => fn.body.isSome && fn.name != "runtime.NumGoroutine"
  | none => false

def isIntD : TypeDesc → Bool
  | .int _ => true
  | _ => false

def cBuiltin (P : Program) (b : Builtin) (ts : Array TypeId) (args : Array Operand) : Option AOp :=
  match b, ts.toList, args.toList with
  | .len, [t], [x] => match P.underlying t with
    | some .string => some (.lens (cOpd x))
    | some (.slice _) => some (.lenl (cOpd x))
    | some (.array n _) => some (.mv (.c (.d (.int .i64 n))))
    | _ => none
  | .append, [s, t], [x, y] => match P.underlying s, P.underlying t with
    | some (.slice e), some u => if isIntD u = true then none else match P.info? e with
      | some i => match i.zero with
        | some z => if z.cells.size = i.size ∧ i.bytes ≠ 0 then some (.app i.size i.bytes e (cOpd x) (cOpd y)) else none
        | none => none
      | none => none
    | _, _ => none
  | .min, _, [x, y] => some (.minI (cOpd x) (cOpd y))
  | .max, _, [x, y] => some (.maxI (cOpd x) (cOpd y))
  | _, _, _ => none

/-- A new block that begins with a nil pointer and a nil slice: its type is kept in mind. -/
def markZ (T : Nat) : List AV → List AV
  | [.d .nptr, .d .nsl] => [.npt 0 T, .d .nsl]
  | z => z

def cOp (P : Program) : Op → Option AOp
  | .move x => some (.mv (cOpd x))
  | .assign x => some (.mv (cOpd x))
  | .pick c a b => some (.pick (cOpd c) (cOpd a) (cOpd b))
  | .alloc e => (zeroOf P e).map fun z => .alloc (markZ e z)
  | .box _ x => some (.box (cOpd x))
  | .build t ps => match P.underlying t, zeroOf P t with
    | some (.struct fs), some z => if (fs.all fun f => (P.info? f.type).isSome) then (partsOf (fieldPlace' P fs) ps.toList).map (.build z) else none
    | some (.array _ e), some z => match P.info? e with
      | some i => (partsOf (fun j => some (j * i.size, i.size)) ps.toList).map (.build z)
      | none => none
    | _, _ => none
  | .buildSlice t len ps => match P.underlying t with
    | some (.slice e) => match P.info? e, zeroOf P e with
      | some i, some z => if z.length = i.size ∧ len * i.size ≤ 2 ^ 24 then
          (partsOf (fun j => some (j * i.size, i.size)) ps.toList).map (.bslice i.size len ((List.range (len * i.size)).map fun j => z.getD (j % z.length) .any)) else none
      | _, _ => none
    | _ => none
  | .load t a => (ldk P t).map fun k => .load k (cOpd a)
  | .store t a v => (P.info? t).map fun i => .store i.size (cOpd a) (cOpd v)
  | .nilCheck x => some (.nilck (cOpd x))
  | .binOp op t x y _ =>
    match P.underlying t with
    | some (.int _) => some (.bin op (cOpd x) (cOpd y))
    | some .string => some (.bin op (cOpd x) (cOpd y))
    | some .bool => match op with
      | .eql => some (.eqb false (cOpd x) (cOpd y))
      | .neq => some (.eqb true (cOpd x) (cOpd y))
      | _ => none
    | some (.pointer _) => match op with
      | .eql => some (.eqp false (cOpd x) (cOpd y))
      | .neq => some (.eqp true (cOpd x) (cOpd y))
      | _ => none
    | some (.func ..) => match op with
      | .eql => some (.eqf false (cOpd x) (cOpd y))
      | .neq => some (.eqf true (cOpd x) (cOpd y))
      | _ => none
    | some (.struct _) => match flatSz P 20 t with
      | some s => if P.eqGuardType P.depth t then none else match op with
        | .eql => some (.eqs s false (cOpd x) (cOpd y))
        | .neq => some (.eqs s true (cOpd x) (cOpd y))
        | _ => none
      | none => none
    | _ => none
  | .unOp op _ x => some (.un op (cOpd x))
  | .convert s d x => match P.underlying s, P.underlying d with
    | some (.int _), some (.int k) => some (.cvi k (cOpd x))
    | some (.int _), some .string => some (.cvrune (cOpd x))
    | some .string, some .string => some (.cvrune (cOpd x))
    | some (.slice e), some .string => match P.underlying e with
      | some (.int .u8) => some (.cvbs (cOpd x))
      | _ => none
    | some .string, some (.slice e) => match P.underlying e with
      | some (.int .u8) => some (.cvsb (cOpd x))
      | _ => none
    | some (.slice _), some (.slice e) => if s = d then (match P.underlying e with
      | some (.int .u8) => some (.cvll (cOpd x))
      | _ => none) else none
    | _, _ => none
  | .makeFunc (.func f) first caps => if first.isEmpty then some (.mkfn f (caps.toList.map cOpd)) else none
  | .makeSlice t l c => match P.underlying t with
    | some (.slice e) => match P.info? e, zeroOf P e with
      | some i, some z => if z.length = i.size ∧ z.length ≠ 0 then some (.mksl i.size i.bytes z (cOpd l) (cOpd c)) else none
      | _, _ => none
    | _ => none
  | .slice t x lo hi none => match P.underlying t with
    | some .string => some (.slcs (cOpd x) (lo.map cOpd) (hi.map cOpd))
    | some (.slice e) => match P.info? e with
      | some i => some (.slcl i.size (cOpd x) (lo.map cOpd) (hi.map cOpd))
      | none => none
    | _ => none
  | .fieldAddr s x f => match P.underlying s with
    | some (.struct fs) => match fieldPlace' P fs f with
      | some (off, size) => if size = 0 then none else some (.faddr (cOpd x) off)
      | none => none
    | _ => none
  | .field s x f => match P.underlying s with
    | some (.struct fs) => match fs[f]? with
      | some fd => (ldk P fd.type).map fun k => .fld (cOpd x) fd.offset k
      | none => none
    | _ => none
  | .indexAddr t x i => match P.underlying t with
    | some (.slice e) => (P.info? e).map fun i' => .iaddr i'.size none (cOpd x) (cOpd i)
    | some (.array n e) => (P.info? e).map fun i' => .iaddr i'.size (some n) (cOpd x) (cOpd i)
    | _ => none
  | .index t x i => match P.underlying t with
    | some .string => some (.idxs (cOpd x) (cOpd i))
    | some (.array n e) => match P.info? e, ldk P e with
      | some i', some k => some (.idxa n i'.size k (cOpd x) (cOpd i))
      | _, _ => none
    | _ => none
  | .extract x i => some (.ext (cOpd x) i)
  | .call c => match c.callee with
    | .builtin b => cBuiltin P b c.argTypes c.args
    | .value (.func f) => if goesB P f then some (.callf f (c.args.toList.map cOpd)) else none
    | .value x => some (.callv (cOpd x) (c.args.toList.map cOpd))
    | .invoke _ _ => none
  | _ => none

def cGuard (ops : Array Oper) : Option (Nat × Bool) → Option (Option (Nat × Bool))
  | none => some none
  | some (j, w) => match ops[j]? with
    | some o => match o.dst with
      | some d => some (some (d, w))
      | none => none
    | none => none

def dstOk (k : Nat) : Option Nat → Bool
  | some d => decide (d < k)
  | none => true

def cOper (P : Program) (ops : Array Oper) (k : Nat) (o : Oper) : Option AOper :=
  match cOp P o.op, cGuard ops o.guard with
  | some a, some g => if dstOk k o.dst = true then some ⟨o.dst, a, g⟩ else none
  | _, _ => none

def cOpers (P : Program) (ops : Array Oper) (k : Nat) : List Oper → Option (List AOper)
  | [] => some []
  | o :: r => match cOper P ops k o, cOpers P ops k r with
    | some a, some r' => some (a :: r')
    | _, _ => none

end Go.Jq

/-! The abstract layer, part 3: each operation's abstract evaluation is what the model does. -/
namespace Go.Jq
open Go

/-! ### Addresses, cells, rows -/

theorem addr_add (b o n : Nat) : (Addr.add ⟨b, o, none⟩ n) = ⟨b, o + n, none⟩ := by
  unfold Addr.add
  split
  · rename_i h; subst h; rfl
  · rfl

theorem cell_of_row {w : World} {b : Nat} {arr : Array Value} {T : TypeId} {f : Nat × Nat} (h : w.heap[b]? = some (.cells arr T f)) (o : Nat) :
    w.cell? ⟨b, o, none⟩ = arr[o]? := by simp [World.cell?, h]

theorem frozen_of_row {w : World} {b : Nat} {arr : Array Value} {T : TypeId} {f : Nat × Nat} (h : w.heap[b]? = some (.cells arr T f)) (hf : NoFz arr.size f) {o : Nat} (ho : o < arr.size) :
    w.frozen? ⟨b, o, none⟩ = false := by
  simp only [World.frozen?, h]
  rcases hf with h1 | h1
  · have : ¬ (f.1 ≤ o ∧ o < f.2) := by omega
    simp only [Bool.and_eq_false_iff, decide_eq_false_iff_not]
    omega
  · simp only [Bool.and_eq_false_iff, decide_eq_false_iff_not]
    omega

theorem rowSize_of_row {w : World} {b : Nat} {arr : Array Value} {T : TypeId} {f : Nat × Nat} (h : w.heap[b]? = some (.cells arr T f)) : rowSize w b = some (T, arr.size) := by
  simp [rowSize, h]

theorem run_loadCellsFrom (P : Program) (w : World) (b : Nat) : ∀ (n o i : Nat) (acc : Array Value) (us : List Value),
    us.length = n → (∀ j u, us[j]? = some u → w.cell? ⟨b, o + i + j, none⟩ = some u) → (loadCellsFrom ⟨b, o, none⟩ i n acc).run P w = .ok (acc ++ us.toArray) w
  | 0, o, i, acc, us, hl, _ => by
    have : us = [] := List.eq_nil_of_length_eq_zero hl
    subst this
    simp [loadCellsFrom]
  | n + 1, o, i, acc, us, hl, h => by
    cases us with
    | nil => simp at hl
    | cons u us =>
      have h0 := h 0 u rfl
      simp only [Nat.add_zero] at h0
      have ih := run_loadCellsFrom P w b n o (i + 1) (acc.push u) us (by simpa using hl) (fun j u' hj => by
        have := h (j + 1) u' (by simpa using hj)
        rw [← this]; congr 2; omega)
      simp only [loadCellsFrom, Sem.run_bind, addr_add, run_load, h0, Result.andThen_ok, ih]
      congr 1
      apply Array.ext'
      simp

theorem run_loadCells (P : Program) (w : World) (b o : Nat) (us : List Value) (h : ∀ j u, us[j]? = some u → w.cell? ⟨b, o + j, none⟩ = some u) :
    (loadCells ⟨b, o, none⟩ us.length).run P w = .ok us.toArray w := by
  have := run_loadCellsFrom P w b us.length o 0 #[] us rfl (by simpa using h)
  simpa [loadCells] using this

/-- One block's row turned, all else as it was. -/
structure RowTo (w w' : World) (b : Nat) (arr' : Array Value) (T : TypeId) (f : Nat × Nat) : Prop where
  os : w'.os = w.os
  tape : w'.tape = w.tape
  output : w'.output = w.output
  size : w'.heap.size = w.heap.size
  other : ∀ k, k ≠ b → w'.heap[k]? = w.heap[k]?
  row : w'.heap[b]? = some (.cells arr' T f)

def putVs : List Value → Nat → List Value → List Value
  | l, _, [] => l
  | l, o, v :: vs => putVs (l.set o v) (o + 1) vs

theorem length_putVs : ∀ (vs l : List Value) (o : Nat), (putVs l o vs).length = l.length
  | [], l, o => rfl
  | v :: vs, l, o => by simp only [putVs]; rw [length_putVs vs]; simp

theorem length_putAt : ∀ (vs l : List AV) (o : Nat), (putAt l o vs).length = l.length
  | [], l, o => rfl
  | v :: vs, l, o => by simp only [putAt]; rw [length_putAt vs]; simp

theorem relL_putAt {c : Ctx} {w : World} : ∀ (xs : List AV) (vs : List Value) (l : List AV) (us : List Value) (o : Nat), RelL c w l us → RelL c w xs vs → RelL c w (putAt l o xs) (putVs us o vs)
  | [], vs, l, us, o, h, h' => by simp only [RelL] at h'; subst h'; exact h
  | x :: xs, vs, l, us, o, h, h' => by
    simp only [RelL] at h'
    obtain ⟨v, vs', rfl, hv, h'⟩ := h'
    simp only [putAt, putVs]
    exact relL_putAt xs vs' _ _ _ (RelL.set o h hv) h'

theorem putVs_append : ∀ (vs us rest : List Value) (o : Nat), o + vs.length ≤ us.length → putVs (us ++ rest) o vs = putVs us o vs ++ rest
  | [], us, rest, o, _ => rfl
  | v :: vs, us, rest, o, h => by
    simp only [List.length_cons] at h
    simp only [putVs]
    rw [List.set_append_left o v (by omega)]
    exact putVs_append vs _ rest (o + 1) (by simp; omega)

theorem putVs_end : ∀ (vs us rest : List Value), vs.length ≤ rest.length → ∃ rest', putVs (us ++ rest) us.length vs = us ++ vs ++ rest' ∧ rest'.length = rest.length - vs.length
  | [], us, rest, _ => ⟨rest, by simp [putVs], by simp⟩
  | v :: vs, us, [], h => by simp at h
  | v :: vs, us, r :: rest, h => by
    simp only [putVs]
    rw [List.set_append_right us.length v (Nat.le_refl _)]
    simp only [Nat.sub_self, List.set_cons_zero]
    obtain ⟨rest', h1, h2⟩ := putVs_end vs (us ++ [v]) rest (by simpa using h)
    refine ⟨rest', ?_, by simp; omega⟩
    rw [show us ++ v :: rest = us ++ [v] ++ rest by simp, show us.length + 1 = (us ++ [v]).length by simp, h1]
    simp

theorem run_storeCells (P : Program) (b : Nat) (T : TypeId) (f : Nat × Nat) : ∀ (vs : List Value) (w : World) (arr : Array Value) (o i : Nat),
    w.heap[b]? = some (.cells arr T f) → NoFz arr.size f → (∀ v ∈ vs, v.oneCell' = true) → o + i + vs.length ≤ arr.size →
    ∃ w', (storeCells ⟨b, o, none⟩ vs i).run P w = .ok () w' ∧ RowTo w w' b (putVs arr.toList (o + i) vs).toArray T f
  | [], w, arr, o, i, hb, _, _, _ => ⟨w, by simp [storeCells], rfl, rfl, rfl, rfl, fun _ _ => rfl, by simpa [putVs] using hb⟩
  | v :: vs, w, arr, o, i, hb, hf, hv, hl => by
    have hlt : o + i < arr.size := by simp at hl; omega
    have hc : w.cell? ⟨b, o + i, none⟩ = some arr[o + i] := by rw [cell_of_row hb]; simp [hlt]
    have hfz := frozen_of_row hb hf hlt
    have hrow : (w.setCell ⟨b, o + i, none⟩ v).heap[b]? = some (.cells (arr.setIfInBounds (o + i) v) T f) := by
      simp only [World.setCell, Array.getElem?_modify, if_true, hb, Option.map_some]
      simp
    obtain ⟨w', hr, h⟩ := run_storeCells P b T f vs (w.setCell ⟨b, o + i, none⟩ v) (arr.setIfInBounds (o + i) v) o (i + 1) hrow (by simpa using hf)
      (fun u hu => hv u (List.mem_cons_of_mem _ hu)) (by simp at hl ⊢; omega)
    refine ⟨w', ?_, ?_⟩
    · simp only [storeCells, Sem.run_bind, addr_add, run_store P w _ v .plain (hv v List.mem_cons_self), hc, hfz, Result.andThen_ok, Bool.false_eq_true, if_false]
      exact hr
    · refine ⟨h.os, h.tape, h.output, h.size.trans (by simp), fun k hk => (h.other k hk).trans (RowKit.Below.heap_setCell _ _ _ _ hk), ?_⟩
      rw [h.row]
      simp only [putVs, Nat.add_assoc, Array.toList_setIfInBounds]
  termination_by vs => vs.length

/-! ### Memory's changes -/

def Ctx.bind (c : Ctx) (n : Nat) (s : Spot) : Ctx := { c with φ := fun i => if i = n then s else c.φ i }

theorem Ctx.bind_ne {c : Ctx} {n : Nat} {s : Spot} {id : Nat} (h : id ≠ n) : (c.bind n s).φ id = c.φ id := by simp [Ctx.bind, h]
theorem Ctx.bind_eq {c : Ctx} {n : Nat} {s : Spot} : (c.bind n s).φ n = s := by simp [Ctx.bind]

theorem ext_of_ne {c c' : Ctx} {n : Nat} (hn : c.φ n = .free) (h : ∀ id, id ≠ n → c'.φ id = c.φ id) : ∀ id, c.φ id ≠ .free → c'.φ id = c.φ id :=
  fun id hid => h id fun e => hid (e ▸ hn)

theorem OwnR.later {c c' : Ctx} {w w' : World} (hl : Later c c' w w') {id : Nat} {cells : List AV} (h : OwnR c w id cells)
    (hsame : ∀ b, c.φ id = .blk b → w'.heap[b]? = w.heap[b]? ∧ ¬ c'.imm b) : OwnR c' w' id cells := by
  rcases h with ⟨h0, h1⟩ | ⟨b, arr, T, f, hb, hi, hw, hf, vs, rest, ha, hr⟩
  · exact .inl ⟨by rw [hl.ext id (by rw [h0]; simp)]; exact h0, h1⟩
  · exact .inr ⟨b, arr, T, f, by rw [hl.ext id (by rw [hb]; simp)]; exact hb, (hsame b hb).2, by rw [(hsame b hb).1]; exact hw, hf, vs, rest, ha, relL_mono hl cells vs hr⟩

theorem MR.del {c : Ctx} {m : Mem} {w : World} (h : MR c m w) (id : Nat) : MR c (mdel m id) w where
  own := fun i cells hi => by rw [mget_mdel] at hi; split at hi; · simp at hi
                              · exact h.own i cells hi
  inj := fun i j b hi hj => by
    rw [mget_mdel] at hi hj
    split at hi
    · simp at hi
    · split at hj
      · simp at hj
      · exact h.inj i j b hi hj
  imm := h.imm
  tab := h.tab

theorem MR.not_free {c : Ctx} {m : Mem} {w : World} (h : MR c m w) {id : Nat} (hi : (mget m id).isSome) : c.φ id ≠ .free := by
  obtain ⟨cells, hc⟩ := Option.isSome_iff_exists.1 hi
  rcases h.own id cells hc with ⟨h0, _⟩ | ⟨b, _, _, _, hb, _⟩
  · rw [h0]; simp
  · rw [hb]; simp

theorem MR.blk_lt {c : Ctx} {m : Mem} {w : World} (h : MR c m w) {b : Nat} (ho : Own c m b) : b < w.heap.size := by
  obtain ⟨id, hid, hb⟩ := ho
  obtain ⟨cells, hc⟩ := Option.isSome_iff_exists.1 hid
  rcases h.own id cells hc with ⟨h0, _⟩ | ⟨b', arr, T, f, hb', _, hw, _⟩
  · rw [h0] at hb; cases hb
  · rw [hb'] at hb; cases hb
    rcases Nat.lt_or_ge b w.heap.size with h1 | h1
    · exact h1
    · rw [Array.getElem?_eq_none h1] at hw; cases hw

/-- One new block behind all others. -/
structure OneMore (w w' : World) (arr : Array Value) (T : TypeId) (f : Nat × Nat) : Prop where
  os : w'.os = w.os
  tape : w'.tape = w.tape
  output : w'.output = w.output
  size : w'.heap.size = w.heap.size + 1
  old : ∀ k, k < w.heap.size → w'.heap[k]? = w.heap[k]?
  row : w'.heap[w.heap.size]? = some (.cells arr T f)

theorem rowSize_eq {w w' : World} {b : Nat} (h : w'.heap[b]? = w.heap[b]?) : rowSize w' b = rowSize w b := by simp [rowSize, h]

theorem rowSize_lt {w : World} {b : Nat} {k : TypeId × Nat} (h : rowSize w b = some k) : b < w.heap.size := by
  rcases Nat.lt_or_ge b w.heap.size with h1 | h1
  · exact h1
  · simp [rowSize, Array.getElem?_eq_none h1] at h

theorem OneMore.rows {w w' : World} {arr : Array Value} {T : TypeId} {f : Nat × Nat} (h : OneMore w w' arr T f) : ∀ b n, rowSize w b = some n → rowSize w' b = some n :=
  fun b _ hn => (rowSize_eq (h.old b (rowSize_lt hn))).trans hn

theorem OneMore.later {c : Ctx} {m : Mem} {w w' : World} {arr : Array Value} {T : TypeId} {f : Nat × Nat} (h : OneMore w w' arr T f) (hm : MR c m w) {n : Nat} (hn : c.φ n = .free) :
    Later c (c.bind n (.blk w.heap.size)) w w' :=
  ⟨fun _ hb => hb, fun b hb => h.old b (hm.imm b hb), ext_of_ne hn fun _ hid => Ctx.bind_ne hid, h.rows⟩

theorem OneMore.step {c : Ctx} {m : Mem} {w w' : World} {arr : Array Value} {T : TypeId} {f : Nat × Nat} (h : OneMore w w' arr T f) (n : Nat) :
    Step (Own c m) c (c.bind n (.blk w.heap.size)) w w' :=
  ⟨h.os, h.tape, h.output, by rw [h.size]; omega, fun k hk _ => h.old k hk, h.rows, fun _ hb => hb, fun _ hb => .inl hb⟩

theorem MR.new {c : Ctx} {m : Mem} {w w' : World} {arr : Array Value} {T : TypeId} {f : Nat × Nat} (hm : MR c m w) (h : OneMore w w' arr T f) {n : Nat} (hn : c.φ n = .free)
    (hf : NoFz arr.size f) {cells : List AV} {vs rest : List Value} (ha : arr.toList = vs ++ rest) (hr : RelL c w cells vs) :
    MR (c.bind n (.blk w.heap.size)) (mset m n cells) w' where
  own := fun id cs hid => by
    have hl := h.later hm hn
    rw [mget_mset] at hid
    split at hid
    · rename_i e
      subst e
      cases hid
      exact .inr ⟨w.heap.size, arr, T, f, Ctx.bind_eq, fun hi => Nat.lt_irrefl _ (hm.imm _ hi), h.row, hf, vs, rest, ha, relL_mono hl _ _ hr⟩
    · refine (hm.own id cs hid).later hl fun b hb => ⟨h.old b (hm.blk_lt ⟨id, by rw [hid]; rfl, hb⟩), fun hi => hm.sep hi ⟨id, by rw [hid]; rfl, hb⟩⟩
  inj := fun i j b hi hj hib hjb => by
    rw [mget_mset] at hi hj
    by_cases e1 : n = i
    · by_cases e2 : n = j
      · exact e1.symm.trans e2
      · exfalso
        subst e1
        rw [Ctx.bind_eq] at hib
        cases hib
        rw [if_neg e2] at hj
        rw [Ctx.bind_ne (Ne.symm e2)] at hjb
        exact Nat.lt_irrefl _ (hm.blk_lt ⟨j, hj, hjb⟩)
    · by_cases e2 : n = j
      · exfalso
        subst e2
        rw [Ctx.bind_eq] at hjb
        cases hjb
        rw [if_neg e1] at hi
        rw [Ctx.bind_ne (Ne.symm e1)] at hib
        exact Nat.lt_irrefl _ (hm.blk_lt ⟨i, hi, hib⟩)
      · rw [if_neg e1] at hi
        rw [if_neg e2] at hj
        rw [Ctx.bind_ne (Ne.symm e1)] at hib
        rw [Ctx.bind_ne (Ne.symm e2)] at hjb
        exact hm.inj i j b hi hj hib hjb
  imm := fun b hb => by rw [h.size]; exact Nat.lt_succ_of_lt (hm.imm b hb)
  tab := hm.tabTo (h.later hm hn).imm (h.later hm hn).same

theorem own_new {c : Ctx} {m : Mem} {w : World} {n : Nat} {cells : List AV} {b : Nat} (h : Own (c.bind n (.blk w.heap.size)) (mset m n cells) b) : Own c m b ∨ w.heap.size ≤ b := by
  obtain ⟨id, hid, hb⟩ := h
  rw [mget_mset] at hid
  by_cases e : n = id
  · subst e; rw [Ctx.bind_eq] at hb; cases hb; exact .inr (Nat.le_refl _)
  · rw [if_neg e] at hid; rw [Ctx.bind_ne (Ne.symm e)] at hb; exact .inl ⟨id, hid, hb⟩

theorem oneMore_alloc (w : World) (arr : Array Value) (T : TypeId) : OneMore w (w.alloc (.cells arr T)) arr T (0, 0) :=
  ⟨rfl, rfl, rfl, by simp, fun k hk => RowKit.Below.heap_alloc w _ k hk, by simp only [World.alloc, Array.getElem?_push_size]⟩

theorem noFz_zero (n : Nat) : NoFz n (0, 0) := .inl rfl

/-- An own block's row turned, its size as it was. -/
theorem RowTo.later {c : Ctx} {w w' : World} {b : Nat} {arr arr' : Array Value} {T : TypeId} {f : Nat × Nat} (h : RowTo w w' b arr' T f)
    (hb : w.heap[b]? = some (.cells arr T f)) (hs : arr'.size = arr.size) (hi : ¬ c.imm b) : Later c c w w' := by
  refine ⟨fun _ h => h, fun k hk => h.other k fun e => hi (e ▸ hk), fun _ _ => rfl, fun k n hn => ?_⟩
  by_cases e : k = b
  · subst e; rw [rowSize_of_row hb] at hn; rw [rowSize_of_row h.row, hs]; exact hn
  · rw [rowSize_eq (h.other k e)]; exact hn

theorem RowTo.step {c : Ctx} {m : Mem} {w w' : World} {b : Nat} {arr arr' : Array Value} {T : TypeId} {f : Nat × Nat} (h : RowTo w w' b arr' T f)
    (hb : w.heap[b]? = some (.cells arr T f)) (hs : arr'.size = arr.size) (ho : Own c m b) : Step (Own c m) c c w w' :=
  ⟨h.os, h.tape, h.output, by rw [h.size]; exact Nat.le_refl _, fun k _ hk => h.other k fun e => hk (e ▸ ho), fun k n hn => by
    by_cases e : k = b
    · subst e; rw [rowSize_of_row hb] at hn; rw [rowSize_of_row h.row, hs]; exact hn
    · rw [rowSize_eq (h.other k e)]; exact hn, fun _ h => h, fun _ h => .inl h⟩

theorem MR.put {c : Ctx} {m : Mem} {w w' : World} {id b : Nat} {arr arr' : Array Value} {T : TypeId} {f : Nat × Nat} {old cells : List AV} {vs rest : List Value} (hm : MR c m w)
    (hid : mget m id = some old) (hφ : c.φ id = .blk b) (h : RowTo w w' b arr' T f) (hb : w.heap[b]? = some (.cells arr T f)) (hs : arr'.size = arr.size) (hi : ¬ c.imm b)
    (hf : NoFz arr.size f) (ha : arr'.toList = vs ++ rest) (hr : RelL c w cells vs) : MR c (mset m id cells) w' where
  own := fun i cs hi' => by
    have hl := h.later hb hs hi
    rw [mget_mset] at hi'
    split at hi'
    · rename_i e
      subst e
      cases hi'
      exact .inr ⟨b, arr', T, f, hφ, hi, h.row, by rw [hs]; exact hf, vs, rest, ha, relL_mono hl _ _ hr⟩
    · rename_i e
      refine (hm.own i cs hi').later hl fun b' hb' => ⟨h.other b' fun eb => e ?_, fun him => hm.sep him ⟨i, by rw [hi']; rfl, hb'⟩⟩
      exact hm.inj id i b (by rw [hid]; rfl) (by rw [hi']; rfl) hφ (eb ▸ hb')
  inj := fun i j b' hi' hj' => by
    rw [mget_mset] at hi' hj'
    refine hm.inj i j b' ?_ ?_
    · split at hi'
      · rename_i e; subst e; rw [hid]; rfl
      · exact hi'
    · split at hj'
      · rename_i e; subst e; rw [hid]; rfl
      · exact hj'
  imm := fun k hk => by rw [h.size]; exact hm.imm k hk
  tab := hm.tabTo (h.later hb hs hi).imm (h.later hb hs hi).same

theorem own_put {c : Ctx} {m : Mem} {id : Nat} {old cells : List AV} (hid : mget m id = some old) {b : Nat} (h : Own c (mset m id cells) b) : Own c m b := by
  obtain ⟨i, hi, hb⟩ := h
  rw [mget_mset] at hi
  by_cases e : id = i
  · subst e; exact ⟨id, by rw [hid]; rfl, hb⟩
  · rw [if_neg e] at hi; exact ⟨i, hi, hb⟩

/-- An own block goes on under a new number. -/
theorem MR.again {c : Ctx} {m : Mem} {w : World} {id n : Nat} {cells : List AV} (hm : MR c m w) (hid : mget m id = some cells) (hn : c.φ n = .free) (s : Spot) (hs : c.φ id = s) :
    MR (c.bind n s) (mset (mdel m id) n cells) w where
  own := fun i cs hi => by
    have hl : Later c (c.bind n s) w w := ⟨fun _ h => h, fun _ _ => rfl, ext_of_ne hn fun _ h => Ctx.bind_ne h, fun _ _ h => h⟩
    rw [mget_mset] at hi
    split at hi
    · rename_i e
      subst e
      cases hi
      have h := hm.own id cells hid
      unfold OwnR at *
      rw [Ctx.bind_eq]
      rw [hs] at h
      rcases h with h | ⟨b, arr, T, f, h1, h2, h3, h4, vs, rest, h5, h6⟩
      · exact .inl h
      · exact .inr ⟨b, arr, T, f, h1, h2, h3, h4, vs, rest, h5, relL_mono hl _ _ h6⟩
    · rw [mget_mdel] at hi
      split at hi
      · simp at hi
      · exact (hm.own i cs hi).later hl fun b hb => ⟨rfl, fun him => hm.sep him ⟨i, by rw [hi]; rfl, hb⟩⟩
  inj := fun i j b hi hj hib hjb => by
    rw [mget_mset, mget_mdel] at hi hj
    have hid' : (mget m id).isSome := by rw [hid]; rfl
    by_cases e1 : n = i
    · by_cases e2 : n = j
      · exact e1.symm.trans e2
      · exfalso
        subst e1
        rw [Ctx.bind_eq] at hib
        rw [if_neg e2] at hj
        rw [Ctx.bind_ne (Ne.symm e2)] at hjb
        by_cases e3 : id = j
        · rw [if_pos e3] at hj; simp at hj
        · rw [if_neg e3] at hj; exact e3 (hm.inj id j b hid' hj (hs.trans hib) hjb)
    · by_cases e2 : n = j
      · exfalso
        subst e2
        rw [Ctx.bind_eq] at hjb
        rw [if_neg e1] at hi
        rw [Ctx.bind_ne (Ne.symm e1)] at hib
        by_cases e3 : id = i
        · rw [if_pos e3] at hi; simp at hi
        · rw [if_neg e3] at hi; exact e3 (hm.inj id i b hid' hi (hs.trans hjb) hib)
      · rw [if_neg e1] at hi
        rw [if_neg e2] at hj
        rw [Ctx.bind_ne (Ne.symm e1)] at hib
        rw [Ctx.bind_ne (Ne.symm e2)] at hjb
        split at hi
        · simp at hi
        · split at hj
          · simp at hj
          · exact hm.inj i j b hi hj hib hjb
  imm := hm.imm
  tab := hm.tab

theorem own_again {c : Ctx} {m : Mem} {id n : Nat} {cells : List AV} (hid : (mget m id).isSome) {s : Spot} (hs : c.φ id = s) {b : Nat} (h : Own (c.bind n s) (mset (mdel m id) n cells) b) : Own c m b := by
  obtain ⟨i, hi, hb⟩ := h
  rw [mget_mset] at hi
  by_cases e : n = i
  · subst e; rw [Ctx.bind_eq] at hb; exact ⟨id, hid, hs.trans hb⟩
  · rw [if_neg e, mget_mdel] at hi
    rw [Ctx.bind_ne (Ne.symm e)] at hb
    split at hi
    · simp at hi
    · exact ⟨i, hi, hb⟩

theorem own_del {c : Ctx} {m : Mem} {id b : Nat} (h : Own c (mdel m id) b) : Own c m b := by
  obtain ⟨i, hi, hb⟩ := h
  rw [mget_mdel] at hi
  split at hi
  · simp at hi
  · exact ⟨i, hi, hb⟩

end Go.Jq

/-! The abstract layer, part 4: soundness of each operation. -/
namespace Go.Jq
open Go

/-- What an operation's run comes to: a value that stands to v (or none), memory as told, nothing else touched. -/
def Outc (P : Program) (s : Sem Next) (c : Ctx) (m : Mem) (n : Nat) (w : World) (v : AV) (e : Eff) : Prop :=
  ∃ r w' c', s.run P w = .ok r w' ∧ ((∃ u, r = .value u ∧ Rel c' w' v u) ∨ (r = .skip ∧ v = .any)) ∧ MR c' (e.mem m n) w' ∧ Step (Own c m) c c' w w' ∧
    (∀ id, (id ≠ n ∨ e.next n = n) → c'.φ id = c.φ id) ∧ (∀ b, Own c' (e.mem m n) b → Own c m b ∨ w.heap.size ≤ b)

section
variable {P : Program} {c : Ctx} {m : Mem} {n : Nat} {w : World} {t : Fr} {a : Act}

theorem outc_pure {s : Sem Value} {u : Value} {v : AV} (hM : MR c m w) (hs : s.run P w = .ok u w) (hr : Rel c w v u) :
    Outc P (do pure (.value (← s))) c m n w v .nil :=
  ⟨.value u, w, c, by simp [hs], .inl ⟨u, rfl, hr⟩, hM, Step.refl _ _ _, fun _ _ => rfl, fun _ h => .inl h⟩

theorem outc_val {u : Value} {v : AV} (hM : MR c m w) (hr : Rel c w v u) : Outc P (pure (.value u)) c m n w v .nil :=
  ⟨.value u, w, c, by simp, .inl ⟨u, rfl, hr⟩, hM, Step.refl _ _ _, fun _ _ => rfl, fun _ h => .inl h⟩

/-- One new block. -/
theorem outc_new {s : Sem Value} {u : Value} {v : AV} {w' : World} {arr : Array Value} {T : TypeId} {f : Nat × Nat} {cells : List AV} {vs rest : List Value} (hM : MR c m w) (hn : c.φ n = .free)
    (hs : s.run P w = .ok u w') (h : OneMore w w' arr T f) (hf : NoFz arr.size f) (ha : arr.toList = vs ++ rest) (hr : RelL c w cells vs)
    (hv : Rel (c.bind n (.blk w.heap.size)) w' v u) : Outc P (do pure (.value (← s))) c m n w v (.new cells) :=
  ⟨.value u, w', c.bind n (.blk w.heap.size), by simp [hs], .inl ⟨u, rfl, hv⟩, hM.new h hn hf ha hr, h.step n, fun _ h => Ctx.bind_ne (h.resolve_right (by simp [Eff.next])), fun _ h => own_new h⟩

/-! ### Operands -/

theorem rel_cval1 (v : Value) : Rel c w (cval1 v) v := by
  unfold cval1
  split <;> simp [Rel, RelD]

theorem relL_cval1 : ∀ (vs : List Value), RelL c w (vs.map cval1) vs
  | [] => by simp [RelL]
  | v :: vs => by simp only [List.map_cons, RelL]; exact ⟨v, vs, rfl, rel_cval1 v, relL_cval1 vs⟩

theorem rel_cval (v : Value) : Rel c w (cval v) v := by
  unfold cval
  split
  · rename_i cs
    simp only [Rel]
    exact ⟨cs.toList, by simp, relL_cval1 _⟩
  · exact rel_cval1 v

theorem rel_ev (hF : FR c w t a.tmps) (x : Operand) : Rel c w (ev t (cOpd x)) (a.eval x) := by
  cases x with
  | tmp i => exact hF i
  | const v => exact rel_cval v
  | global g => simp [cOpd, ev, Rel]
  | func f => simp only [cOpd, ev, Rel, Act.eval, RelL]; exact ⟨[], by simp, rfl⟩

theorem relL_ev (hF : FR c w t a.tmps) : ∀ (xs : List Operand), RelL c w ((xs.map cOpd).map (ev t)) (xs.map a.eval)
  | [] => by simp [RelL]
  | x :: xs => by simp only [List.map_cons, RelL]; exact ⟨_, _, rfl, rel_ev hF x, relL_ev hF xs⟩

/-- A value's cells. -/
theorem rel_cells {x : AV} {v : Value} {cs : List AV} (h : Rel c w x v) (hc : cellsOf x = some cs) : ∃ vs, v.cells = vs.toArray ∧ RelL c w cs vs := by
  cases x with
  | d x =>
    simp only [cellsOf, Option.some.injEq] at hc
    subst hc
    refine ⟨[v], ?_, by simp only [RelL]; exact ⟨v, [], rfl, h, rfl⟩⟩
    simp only [Rel] at h
    cases x <;> simp only [RelD] at h
    case sl => obtain ⟨a, cap, rfl, _⟩ := h; rfl
    all_goals (subst h; rfl)
  | ptr id off =>
    simp only [cellsOf, Option.some.injEq] at hc
    subst hc
    refine ⟨[v], ?_, by simp only [RelL]; exact ⟨v, [], rfl, h, rfl⟩⟩
    simp only [Rel] at h
    obtain ⟨b, _, rfl⟩ := h
    rfl
  | npt id T =>
    simp only [cellsOf, Option.some.injEq] at hc
    subst hc
    refine ⟨[v], ?_, by simp only [RelL]; exact ⟨v, [], rfl, h, rfl⟩⟩
    simp only [Rel] at h
    obtain ⟨rfl, _⟩ := h
    rfl
  | dptr cells =>
    simp only [cellsOf, Option.some.injEq] at hc
    subst hc
    refine ⟨[v], ?_, by simp only [RelL]; exact ⟨v, [], rfl, h, rfl⟩⟩
    simp only [Rel] at h
    obtain ⟨b, o, _, rfl, _⟩ := h
    rfl
  | sl id esz off len =>
    simp only [cellsOf, Option.some.injEq] at hc
    subst hc
    refine ⟨[v], ?_, by simp only [RelL]; exact ⟨v, [], rfl, h, rfl⟩⟩
    simp only [Rel] at h
    rcases h with ⟨_, _, _, rfl⟩ | ⟨b, cap, n, _, rfl, _⟩ <;> rfl
  | slT id T len =>
    simp only [cellsOf, Option.some.injEq] at hc
    subst hc
    refine ⟨[v], ?_, by simp only [RelL]; exact ⟨v, [], rfl, h, rfl⟩⟩
    simp only [Rel] at h
    rcases h with ⟨_, _, rfl⟩ | ⟨b, cap, n, _, rfl, _⟩ <;> rfl
  | fn f cap =>
    simp only [cellsOf, Option.some.injEq] at hc
    subst hc
    refine ⟨[v], ?_, by simp only [RelL]; exact ⟨v, [], rfl, h, rfl⟩⟩
    simp only [Rel] at h
    obtain ⟨vs, rfl, _⟩ := h
    rfl
  | agg cells =>
    simp only [cellsOf, Option.some.injEq] at hc
    subst hc
    simp only [Rel] at h
    obtain ⟨vs, rfl, h⟩ := h
    exact ⟨vs, rfl, h⟩
  | tup vs => simp [cellsOf] at hc
  | any => simp [cellsOf] at hc

theorem rel_one {x : AV} {v : Value} (h : Rel c w x v) (hx : oneB x = true) : v.oneCell' = true := by
  cases x with
  | d x =>
    simp only [Rel] at h
    cases x <;> simp only [RelD] at h
    case sl => obtain ⟨a, cap, rfl, _⟩ := h; rfl
    all_goals (subst h; rfl)
  | ptr id off => simp only [Rel] at h; obtain ⟨b, _, rfl⟩ := h; rfl
  | npt id T => simp only [Rel] at h; obtain ⟨rfl, _⟩ := h; rfl
  | dptr cells => simp only [Rel] at h; obtain ⟨b, o, _, rfl, _⟩ := h; rfl
  | sl id esz off len => simp only [Rel] at h; rcases h with ⟨_, _, _, rfl⟩ | ⟨b, cap, n, _, rfl, _⟩ <;> rfl
  | slT id T len => simp only [Rel] at h; rcases h with ⟨_, _, rfl⟩ | ⟨b, cap, n, _, rfl, _⟩ <;> rfl
  | fn f cap => simp only [Rel] at h; obtain ⟨vs, rfl, _⟩ := h; rfl
  | agg cells => simp [oneB] at hx
  | tup vs => simp [oneB] at hx
  | any => simp [oneB] at hx

theorem relL_one {xs : List AV} {vs : List Value} (h : RelL c w xs vs) (hx : xs.all oneB = true) : ∀ v ∈ vs, v.oneCell' = true := by
  intro v hv
  obtain ⟨i, hi⟩ := List.getElem?_of_mem hv
  have hl := h.length
  have hlt : i < xs.length := by
    have := (List.getElem?_eq_some_iff.1 hi).1
    omega
  obtain ⟨u, hu, hr⟩ := h.get (i := i) (x := xs[i]) (by simp [hlt])
  rw [hi] at hu
  cases hu
  exact rel_one hr (List.all_eq_true.1 hx _ (List.getElem_mem hlt))

theorem relL_d {cs : List DV} {vs : List Value} : (∀ (i : Nat) (x : DV) (v : Value), cs[i]? = some x → vs[i]? = some v → RelD c.imm w x v) → vs.length = cs.length → RelL c w (cs.map .d) vs :=
  fun h hl => RelL.of_get (by simpa using hl) fun i x v hx hv => by
    rw [List.getElem?_map] at hx
    cases hc : cs[i]? with
    | none => rw [hc] at hx; simp at hx
    | some d => rw [hc] at hx; simp at hx; subst hx; simp only [Rel]; exact h i d v hc hv

/-! ### Loads -/

/-- What lies at a place: the cells from there on, each readable. -/
def CellsAt (c : Ctx) (w : World) (b o : Nat) (cells : List AV) : Prop := ∀ (i : Nat) (x : AV), cells[i]? = some x → ∃ u, w.cell? ⟨b, o + i, none⟩ = some u ∧ Rel c w x u

theorem cellsAt_own {id b : Nat} {cells : List AV} (hM : MR c m w) (hid : mget m id = some cells) (hφ : c.φ id = .blk b) (off : Nat) : CellsAt c w b off (cells.drop off) := by
  intro i x hx
  rcases hM.own id cells hid with ⟨h0, _⟩ | ⟨b', arr, T, f, hb, _, hw, _, vs, rest, ha, hr⟩
  · rw [h0] at hφ; cases hφ
  · rw [hb] at hφ
    cases hφ
    rw [List.getElem?_drop] at hx
    obtain ⟨v, hv, hrel⟩ := hr.get hx
    refine ⟨v, ?_, hrel⟩
    rw [cell_of_row hw, ← Array.getElem?_toList, ha, List.getElem?_append_left (List.getElem?_eq_some_iff.1 hv).1]
    exact hv

theorem cellsAt_data {b o : Nat} {cells : List DV} (h : RelDs c.imm w cells b o) : CellsAt c w b o (cells.map .d) := by
  intro i x hx
  rw [List.getElem?_map] at hx
  cases hc : cells[i]? with
  | none => rw [hc] at hx; simp at hx
  | some d =>
    rw [hc] at hx
    simp at hx
    subst hx
    obtain ⟨u, hu, hr⟩ := h.get hc
    exact ⟨u, hu, by simp only [Rel]; exact hr⟩

theorem cellsAt_vals {b o : Nat} {cells : List AV} (h : CellsAt c w b o cells) (k : Nat) (hk : k ≤ cells.length) :
    ∃ us : List Value, us.length = k ∧ (∀ j u, us[j]? = some u → w.cell? ⟨b, o + j, none⟩ = some u) ∧ RelL c w (cells.take k) us := by
  induction k with
  | zero => exact ⟨[], rfl, by simp, by simp [RelL]⟩
  | succ k ih =>
    obtain ⟨us, hl, hc, hr⟩ := ih (by omega)
    obtain ⟨u, hu, hrel⟩ := h k cells[k] (by simp)
    refine ⟨us ++ [u], by simp [hl], fun j v hj => ?_, ?_⟩
    · rcases Nat.lt_or_ge j us.length with h1 | h1
      · rw [List.getElem?_append_left h1] at hj; exact hc j v hj
      · rw [List.getElem?_append_right h1] at hj
        have : j = k := by
          have := (List.getElem?_eq_some_iff.1 hj).1
          simp at this
          omega
        subst this
        rw [hl] at hj
        simp at hj
        rw [← hj]; exact hu
    · rw [List.take_succ_eq_append_getElem (by omega)]
      exact hr.append (by simp only [RelL]; exact ⟨u, [], rfl, hrel, rfl⟩)

theorem ldk_spec {T : TypeId} {k : Option Nat} (h : ldk P T = some k) :
    (∃ i, P.info? T = some i ∧ k = some i.size ∧ ∀ w, (isAgg T).run P w = .ok true w) ∨ (k = none ∧ ∀ w, (isAgg T).run P w = .ok false w) := by
  unfold ldk at h
  split at h
  · rename_i i fs h1 h2
    cases h
    exact .inl ⟨i, h1, rfl, fun w => by simp [isAgg, underlying, h2]⟩
  · rename_i i n e h1 h2
    cases h
    exact .inl ⟨i, h1, rfl, fun w => by simp [isAgg, underlying, h2]⟩
  · rename_i i d hn1 hn2 h1 h2
    cases h
    refine .inr ⟨rfl, fun w => ?_⟩
    simp only [isAgg, underlying, Sem.run_bind, run_program, Result.andThen_ok, h2]
    cases d <;> first | rfl | (exact absurd rfl (hn1 _)) | (exact absurd rfl (hn2 _ _)) | (exact absurd h2 (hn1 _ _ h1)) | (exact absurd h2 (hn2 _ _ _ h1)) | (exact (hn1 _ _ h1 h2).elim) | (exact (hn2 _ _ _ h1 h2).elim)
  · cases h

theorem run_sizeOf {T : TypeId} {i : TypeInfo} (h : P.info? T = some i) : (sizeOf T).run P w = .ok i.size w := by
  simp [sizeOf, typeInfo, h]

theorem run_loadVar {T : TypeId} {k : Option Nat} (hk : ldk P T = some k) {b o : Nat} {cells : List AV} (h : CellsAt c w b o cells) {v : AV} (hv : loadA k cells = some v) :
    ∃ u, (loadVar T ⟨b, o, none⟩).run P w = .ok u w ∧ Rel c w v u := by
  rcases ldk_spec hk with ⟨i, hi, rfl, hagg⟩ | ⟨rfl, hagg⟩
  · simp only [loadA] at hv
    split at hv
    · rename_i hle
      cases hv
      obtain ⟨us, hl, hc, hr⟩ := cellsAt_vals h i.size hle
      refine ⟨.agg us.toArray, ?_, by simp only [Rel]; exact ⟨us, rfl, hr⟩⟩
      have hlc := run_loadCells P w b o us hc
      rw [hl] at hlc
      simp only [loadVar, Sem.run_bind, hagg, Result.andThen_ok, if_true, run_sizeOf hi, hlc, Sem.run_pure]
    · cases hv
  · simp only [loadA] at hv
    obtain ⟨u, hu, hr⟩ := h 0 v hv
    refine ⟨u, ?_, hr⟩
    simp only [Nat.add_zero] at hu
    simp only [loadVar, Sem.run_bind, hagg, Result.andThen_ok, run_load, hu, Bool.false_eq_true, if_false]

theorem outc_load {T : TypeId} {k : Option Nat} {x : Operand} (hk : ldk P T = some k) (hF : FR c w t a.tmps) (hM : MR c m w) {v : AV} {e : Eff}
    (he : aevN (.load k (cOpd x)) t m n = some (v, e)) : Outc P (do pure (.value (← Instr.loadAt T (a.eval x)))) c m n w v e := by
  have hx := rel_ev hF x
  simp only [aevN] at he
  split at he
  · rename_i id off hev
    rw [hev] at hx
    simp only [Rel] at hx
    obtain ⟨b, hb, hv⟩ := hx
    split at he
    · rename_i cs hcs
      rw [Option.map_eq_some_iff] at he
      obtain ⟨v', hl, he⟩ := he
      cases he
      obtain ⟨u, hu, hr⟩ := run_loadVar hk (cellsAt_own hM hcs hb off) hl
      exact outc_pure hM (by simp only [Instr.loadAt, hv, Instr.sureAddr, Sem.run_bind, Sem.run_pure, Result.andThen_ok, hu]) hr
    · cases he
  · rename_i cs hev
    rw [hev] at hx
    simp only [Rel] at hx
    obtain ⟨b, o, hb, hv, hc⟩ := hx
    rw [Option.map_eq_some_iff] at he
    obtain ⟨v', hl, he⟩ := he
    cases he
    obtain ⟨u, hu, hr⟩ := run_loadVar hk (cellsAt_data hc) hl
    exact outc_pure hM (by simp only [Instr.loadAt, hv, Instr.sureAddr, Sem.run_bind, Sem.run_pure, Result.andThen_ok, hu]) hr
  · cases he

/-! ### Stores -/

theorem outc_store {T : TypeId} {i : TypeInfo} {x y : Operand} (hi : P.info? T = some i) (hF : FR c w t a.tmps) (hM : MR c m w) {v : AV} {e : Eff}
    (he : aevN (.store i.size (cOpd x) (cOpd y)) t m n = some (v, e)) : Outc P (do Instr.storeAt T (a.eval x) (a.eval y); pure .skip) c m n w v e := by
  have hx := rel_ev hF x
  have hy := rel_ev hF y
  simp only [aevN] at he
  split at he
  · rename_i id off vs hev hcs
    rw [hev] at hx
    obtain ⟨us, hus, hrl⟩ := rel_cells hy hcs
    simp only [Rel] at hx
    obtain ⟨b, hb, hv⟩ := hx
    split at he
    · rename_i cs hm
      split at he
      · rename_i hcond
        obtain ⟨h1, h2, h3⟩ := hcond
        cases he
        rcases hM.own id cs hm with ⟨h0, _⟩ | ⟨b', arr, T', f, hb', hni, hw, hf, vs', rest, ha, hr⟩
        · rw [h0] at hb; cases hb
        · rw [hb'] at hb
          cases hb
          have hlen := hr.length
          have hus1 := hrl.length
          have hsz : arr.size = vs'.length + rest.length := by rw [← Array.length_toList, ha, List.length_append]
          obtain ⟨w', hrun, hto⟩ := run_storeCells P b T' f us w arr off 0 hw hf (relL_one hrl h2) (by omega)
          have hs : (putVs arr.toList (off + 0) us).toArray.size = arr.size := by simp [length_putVs]
          refine ⟨.skip, w', c, ?_, .inr ⟨rfl, rfl⟩, ?_, hto.step hw hs ⟨id, by rw [hm]; rfl, hb'⟩, fun _ _ => rfl, fun b hb => .inl (own_put hm hb)⟩
          · have h4 : us.length = i.size := by omega
            simp only [Instr.storeAt, hv, Instr.sureAddr, storeVar, Sem.run_bind, Sem.run_pure, Result.andThen_ok, run_sizeOf hi, hus]
            simp [h4, hrun]
          · refine hM.put hm hb' hto hw hs hni hf (vs := putVs vs' off us) (rest := rest) ?_ (relL_putAt vs us cs vs' off hr hrl)
            simp only [ha, Nat.add_zero]
            rw [putVs_append us vs' rest off (by omega)]
      · cases he
    · cases he
  · cases he

/-! ### New blocks -/

theorem MR.recell {c : Ctx} {m : Mem} {w : World} {n : Nat} {z z' : List AV} (hM : MR c (mset m n z) w) (h : OwnR c w n z') : MR c (mset m n z') w where
  own := fun id cs hid => by
    rw [mget_mset] at hid
    split at hid
    · rename_i e; subst e; cases hid; exact h
    · rename_i e; exact hM.own id cs (by rw [mget_mset, if_neg e]; exact hid)
  inj := fun i j b hi hj => by
    have key : ∀ i, (mget (mset m n z') i).isSome → (mget (mset m n z) i).isSome := fun i h => by
      rw [mget_mset] at h ⊢
      split at h
      · rename_i e; rw [if_pos e]; rfl
      · rename_i e; rw [if_neg e]; exact h
    exact hM.inj i j b (key i hi) (key j hj)
  imm := hM.imm
  tab := hM.tab

theorem outc_alloc {T : TypeId} {z : List AV} (hz : zeroOf P T = some z) (hM : MR c m w) (hn : c.φ n = .free) :
    Outc P (do pure (.value (← Instr.alloc T true (.tuple #[])))) c m n w (.ptr n 0) (.new (fixZ n (markZ T z))) := by
  unfold zeroOf at hz
  split at hz
  · rename_i i hi
    split at hz
    · rename_i zv hzv
      cases hz
      have hone := oneMore_alloc w zv.cells T
      have hrun : (Instr.alloc T true (.tuple #[])).run P w = .ok (.pointer (some ⟨w.heap.size, 0, none⟩)) (w.alloc (.cells zv.cells T)) := by
        simp [Instr.alloc, zeroValue, typeInfo, hi, hzv, newVar, newRow]
      have hnew := hM.new (cells := zv.cells.toList.map cval1) hone hn (noFz_zero _) (vs := zv.cells.toList) (rest := []) (by simp) (relL_cval1 _)
      refine ⟨.value (.pointer (some ⟨w.heap.size, 0, none⟩)), w.alloc (.cells zv.cells T), c.bind n (.blk w.heap.size), by simp [hrun], .inl ⟨_, rfl, by simp only [Rel]; exact ⟨w.heap.size, Ctx.bind_eq, rfl⟩⟩, ?_, hone.step n, fun _ h => Ctx.bind_ne (h.resolve_right (by simp [Eff.next])), fun _ h => own_new h⟩
      show MR _ (mset m n (fixZ n (markZ T (zv.cells.toList.map cval1)))) _
      refine hnew.recell ?_
      have hsame : fixZ n (markZ T (zv.cells.toList.map cval1)) = zv.cells.toList.map cval1 ∨ (zv.cells.toList.map cval1 = [.d .nptr, .d .nsl] ∧ fixZ n (markZ T (zv.cells.toList.map cval1)) = [.npt n T, .d .nsl]) := by
        unfold markZ
        split
        · rename_i h; exact .inr ⟨h, rfl⟩
        · refine .inl ?_
          unfold fixZ
          split
          · rename_i id T' r h
            cases hl : zv.cells.toList with
            | nil => rw [hl] at h; cases h
            | cons v l =>
              rw [hl] at h
              simp only [List.map_cons, List.cons.injEq] at h
              have := h.1
              unfold cval1 at this
              repeat' split at this
              all_goals cases this
          · rfl
      rcases hsame with h | ⟨h1, h2⟩
      · rw [h]
        exact hnew.own n _ (by rw [mget_mset, if_pos rfl])
      · rw [h2]
        have hr : RelL c w (zv.cells.toList.map cval1) zv.cells.toList := relL_cval1 _
        rw [h1] at hr
        simp only [RelL, Rel, RelD] at hr
        obtain ⟨v1, r1, e1, rfl, v2, r2, rfl, rfl, rfl⟩ := hr
        refine .inr ⟨w.heap.size, zv.cells, T, (0, 0), Ctx.bind_eq, fun hi => Nat.lt_irrefl _ (hM.imm _ hi), hone.row, noFz_zero _, [.pointer none, .slice none 0 0], [], by rw [e1]; rfl, ?_⟩
        simp only [RelL, Rel, RelD]
        refine ⟨_, _, rfl, ⟨rfl, w.heap.size, Ctx.bind_eq, ?_⟩, _, _, rfl, rfl, rfl⟩
        rw [rowSize_of_row hone.row]
        have hsz : zv.cells.size = 2 := by rw [← Array.length_toList, e1]; rfl
        rw [hsz]
    · cases hz
  · cases hz

theorem outc_box {T : TypeId} {x : Operand} (hF : FR c w t a.tmps) (hM : MR c m w) (hn : c.φ n = .free) {cs : List AV} (hcs : cellsOf (ev t (cOpd x)) = some cs) :
    Outc P (do pure (.value (← Instr.box T (a.eval x)))) c m n w (.ptr n 0) (.new cs) := by
  obtain ⟨vs, hvs, hr⟩ := rel_cells (rel_ev hF x) hcs
  refine outc_new (u := .pointer (some ⟨w.heap.size, 0, none⟩)) hM hn ?_ (oneMore_alloc w (a.eval x).cells T) (noFz_zero _) (vs := vs) (rest := []) (by simp [hvs]) hr
    (by simp only [Rel]; exact ⟨w.heap.size, Ctx.bind_eq, rfl⟩)
  simp [Instr.box, newVar, newRow]

end
end Go.Jq

/-! The abstract layer, part 5: soundness of the other operations. -/
namespace Go.Jq
open Go

section
variable {P : Program} {c : Ctx} {m : Mem} {n : Nat} {w : World} {t : Fr} {a : Act}

/-! ### Aggregates -/

theorem putVs_fill (vs : List Value) : ∀ (cs : Array Value) (off j : Nat),
    (vs.zipIdx j).foldl (fun cs (p : Value × Nat) => cs.setIfInBounds (off + p.2) p.1) cs = (putVs cs.toList (off + j) vs).toArray := by
  induction vs with
  | nil => intro cs off j; simp [putVs]
  | cons v vs ih =>
    intro cs off j
    simp only [List.zipIdx_cons, List.foldl_cons, putVs]
    rw [ih, Array.toList_setIfInBounds, Nat.add_assoc]

theorem fill_one (cs : Array Value) (off : Nat) (vs : List Value) :
    vs.toArray.zipIdx.foldl (fun cs (c, j) => cs.setIfInBounds (off + j) c) cs = (putVs cs.toList off vs).toArray := by
  rw [← Array.foldl_toList]
  simp only [Array.toList_zipIdx]
  exact putVs_fill vs cs off 0

/-- Parts, each a value that stands to its abstract one. -/
inductive PartsR (c : Ctx) (w : World) (place : Nat → Option (Nat × Nat)) : List (Nat × Nat × AV) → List (Nat × Value) → Prop where
  | nil : PartsR c w place [] []
  | cons {i off size : Nat} {x : AV} {v : Value} {ps : List (Nat × Nat × AV)} {vs : List (Nat × Value)} (hp : place i = some (off, size)) (hx : Rel c w x v) (h : PartsR c w place ps vs) :
      PartsR c w place ((off, size, x) :: ps) ((i, v) :: vs)

theorem partsR_of (hF : FR c w t a.tmps) {place : Nat → Option (Nat × Nat)} : ∀ (ps : List (Nat × Operand)) {qs : List (Nat × Nat × Opd)}, partsOf place ps = some qs →
    PartsR c w place (evParts t qs) (ps.map fun p => (p.1, a.eval p.2))
  | [], qs, h => by simp only [partsOf, Option.some.injEq] at h; subst h; exact .nil
  | (i, x) :: ps, qs, h => by
    simp only [partsOf] at h
    split at h
    · rename_i off size r' h1 h2
      cases h
      exact .cons h1 (rel_ev hF x) (partsR_of hF ps h2)
    · cases h

theorem fill_sound {place : Nat → Option (Nat × Nat)} {ps : List (Nat × Nat × AV)} {vs : List (Nat × Value)} (hp : PartsR c w place ps vs) :
    ∀ {cs : List AV} {us : List Value} {cs' : List AV}, RelL c w cs us → fillA cs ps = some cs' → ∃ us', Instr.fill place us.toArray vs = some us'.toArray ∧ RelL c w cs' us' := by
  induction hp with
  | nil => intro cs us cs' hr h; simp only [fillA, Option.some.injEq] at h; subst h; exact ⟨us, rfl, hr⟩
  | cons hpl hx _ ih =>
    intro cs us cs' hr h
    simp only [fillA] at h
    split at h
    · rename_i vs' hc
      split at h
      · rename_i hcond
        obtain ⟨h1, h2⟩ := hcond
        obtain ⟨ws, hws, hrl⟩ := rel_cells hx hc
        obtain ⟨us', hf, hr'⟩ := ih (relL_putAt vs' ws cs us _ hr hrl) h
        refine ⟨us', ?_, hr'⟩
        have hl1 := hrl.length
        have hl2 := hr.length
        simp only [Instr.fill, hpl, hws]
        rw [if_neg, fill_one]
        · exact hf
        · simp; omega
      · cases h
    · cases h

theorem relL_range {z : List AV} {us : List Value} (h : RelL c w z us) (k : Nat) (hz : k = 0 ∨ z.length ≠ 0) :
    RelL c w ((List.range k).map fun i => z.getD (i % z.length) .any) ((List.range k).map fun i => us.toArray[i % us.length]!) := by
  have hl := h.length
  refine RelL.of_get (by simp) fun i x v hx hv => ?_
  rw [List.getElem?_map] at hx hv
  by_cases hi : i < k
  · simp only [List.getElem?_range hi, Option.map_some, Option.some.injEq] at hx hv
    have hlt : i % z.length < z.length := Nat.mod_lt _ (by omega)
    obtain ⟨u, hu, hr⟩ := h.get (i := i % z.length) (x := z[i % z.length]) (by simp [hlt])
    rw [hl] at hv
    have h1 : us.toArray[i % z.length]! = u := by
      rw [Array.getElem!_eq_getD, Array.getD_eq_getD_getElem?, List.getElem?_toArray, hu]; rfl
    rw [h1] at hv
    subst hv
    rw [← hx]
    simpa [hlt] using hr
  · rw [List.getElem?_eq_none (by simpa using Nat.le_of_not_lt hi)] at hx; simp at hx

theorem run_zero {T : TypeId} {z : List AV} (hz : zeroOf P T = some z) : ∃ zv : Value, (zeroValue T).run P w = .ok zv w ∧ z = zv.cells.toList.map cval1 := by
  unfold zeroOf at hz
  split at hz
  · rename_i i hi
    split at hz
    · rename_i zv hzv
      cases hz
      exact ⟨zv, by simp [zeroValue, typeInfo, hi, hzv], rfl⟩
    · cases hz
  · cases hz

theorem run_places {fs : List Field} (h : ∀ f ∈ fs, (P.info? f.type).isSome) :
    (fs.mapM fun f => do pure (f.offset, ← sizeOf f.type) : Sem (List (Nat × Nat))).run P w = .ok (fs.map fun f => (f.offset, ((P.info? f.type).map (·.size)).getD 0)) w := by
  induction fs with
  | nil => simp
  | cons f fs ih =>
    obtain ⟨i, hi⟩ := Option.isSome_iff_exists.1 (h f List.mem_cons_self)
    have := ih fun g hg => h g (List.mem_cons_of_mem _ hg)
    simp only [List.mapM_cons, Sem.run_bind, run_sizeOf hi, Result.andThen_ok, Sem.run_pure, this, List.map_cons, hi, Option.map_some, Option.getD_some]

theorem outc_build {T : TypeId} {ps : Array (Nat × Operand)} {ao : AOp} (hc : cOp P (.build T ps) = some ao) (hF : FR c w t a.tmps) (hM : MR c m w) {v : AV} {e : Eff}
    (he : aevN ao t m n = some (v, e)) : Outc P (do pure (.value (← Instr.build T (ps.map fun (i, x) => (i, a.eval x))))) c m n w v e := by
  simp only [cOp] at hc
  split at hc
  · rename_i fs z hu hz
    split at hc
    · rename_i hall
      rw [Option.map_eq_some_iff] at hc
      obtain ⟨qs, hq, rfl⟩ := hc
      simp only [aevN, Option.map_eq_some_iff] at he
      obtain ⟨cs, hfl, he⟩ := he
      cases he
      obtain ⟨zv, hzv, rfl⟩ := run_zero (w := w) hz
      have hpl : ∀ i, fieldPlace' P fs i = (fs.map fun f => (f.offset, ((P.info? f.type).map (·.size)).getD 0))[i]? := by
        intro i
        unfold fieldPlace'
        rw [Array.getElem?_map]
        cases hfi : fs[i]? with
        | none => simp
        | some fd =>
          have := Array.all_eq_true_iff_forall_mem.1 hall fd (Array.mem_of_getElem? hfi)
          obtain ⟨i', hi'⟩ := Option.isSome_iff_exists.1 this
          simp [hi']
      obtain ⟨us', hf, hr⟩ := fill_sound (partsR_of hF ps.toList hq) (us := zv.cells.toList) (relL_cval1 _) hfl
      have hfun : fieldPlace' P fs = fun i => (fs.map fun f => (f.offset, ((P.info? f.type).map (·.size)).getD 0))[i]? := funext hpl
      rw [hfun] at hf
      refine outc_pure (u := .agg us'.toArray) hM ?_ (by simp only [Rel]; exact ⟨us', rfl, hr⟩)
      have hpl' : (fs.mapM fun f => do pure (f.offset, ← sizeOf f.type) : Sem (Array (Nat × Nat))).run P w = .ok (fs.map fun f => (f.offset, ((P.info? f.type).map (·.size)).getD 0)) w := by
        have := run_places (P := P) (w := w) (fs := fs.toList) fun f hf => Array.all_eq_true_iff_forall_mem.1 hall f (by simpa using hf)
        rw [← Array.toArray_toList (xs := fs)]
        rw [List.mapM_toArray]
        simp only [Sem.run_map, this, Result.andThen_ok]
        congr 1
        exact Array.ext' (by simp)
      simp only [Instr.build, Sem.run_bind, hzv, Result.andThen_ok, underlying, run_program, hu, hpl', Sem.run_pure]
      have hm : (Array.map (fun x => (x.fst, a.eval x.snd)) ps).toList = ps.toList.map fun p => (p.1, a.eval p.2) := by simp
      simp only [Array.toArray_toList] at hf
      simp only [hm, hf, Sem.run_pure]
    · cases hc
  · rename_i len e' z hu hz
    split at hc
    · rename_i i hi
      rw [Option.map_eq_some_iff] at hc
      obtain ⟨qs, hq, rfl⟩ := hc
      simp only [aevN, Option.map_eq_some_iff] at he
      obtain ⟨cs, hfl, he⟩ := he
      cases he
      obtain ⟨zv, hzv, rfl⟩ := run_zero (w := w) hz
      obtain ⟨us', hf, hr⟩ := fill_sound (partsR_of hF ps.toList hq) (us := zv.cells.toList) (relL_cval1 _) hfl
      refine outc_pure (u := .agg us'.toArray) hM ?_ (by simp only [Rel]; exact ⟨us', rfl, hr⟩)
      simp only [Instr.build, Sem.run_bind, hzv, Result.andThen_ok, underlying, run_program, hu, run_sizeOf hi, Sem.run_pure]
      have hm : (Array.map (fun x => (x.fst, a.eval x.snd)) ps).toList = ps.toList.map fun p => (p.1, a.eval p.2) := by simp
      simp only [Array.toArray_toList] at hf
      simp only [hm, hf, Sem.run_pure]
    · cases hc
  · cases hc

theorem outc_bslice {T len : Nat} {ps : Array (Nat × Operand)} {ao : AOp} (hc : cOp P (.buildSlice T len ps) = some ao) (hF : FR c w t a.tmps) (hM : MR c m w) (hn : c.φ n = .free) {v : AV} {e : Eff}
    (he : aevN ao t m n = some (v, e)) : Outc P (do pure (.value (← Instr.buildSlice T len (ps.map fun (i, x) => (i, a.eval x))))) c m n w v e := by
  simp only [cOp] at hc
  split at hc
  · rename_i el hu
    split at hc
    · rename_i i z hi hz
      split at hc
      · rename_i hcond
        obtain ⟨hzl, hle⟩ := hcond
        rw [Option.map_eq_some_iff] at hc
        obtain ⟨qs, hq, rfl⟩ := hc
        simp only [aevN, Option.map_eq_some_iff] at he
        obtain ⟨cs, hfl, he⟩ := he
        cases he
        obtain ⟨zv, hzv, hzz⟩ := run_zero (w := w) hz
        have hzr : RelL c w z zv.cells.toList := by rw [hzz]; exact relL_cval1 _
        have hzl2 := hzr.length
        have hz0 : len * i.size = 0 ∨ z.length ≠ 0 := by
          rcases Nat.eq_zero_or_pos (len * i.size) with h | h
          · exact .inl h
          · right
            intro h0
            rw [h0] at hzl
            rw [← hzl] at h
            simp at h
        obtain ⟨us', hf, hr⟩ := fill_sound (partsR_of hF ps.toList hq) (relL_range hzr (len * i.size) hz0) hfl
        have hlen' : us'.length = cs.length := hr.length
        have hcells : cs.length = len * i.size := by
          have : ∀ (qs : List (Nat × Nat × AV)) (cs cs' : List AV), fillA cs qs = some cs' → cs'.length = cs.length := by
            intro qs
            induction qs with
            | nil => intro cs cs' h; simp only [fillA, Option.some.injEq] at h; rw [h]
            | cons p qs ih =>
              obtain ⟨o, s, x⟩ := p
              intro cs cs' h
              simp only [fillA] at h
              split at h
              · split at h
                · rw [ih _ _ h, length_putAt]
                · cases h
              · cases h
          rw [this _ _ _ hfl]
          simp
        refine outc_new (u := .slice (some ⟨w.heap.size, 0, none⟩) len len) hM hn ?_ (oneMore_alloc w us'.toArray el) (noFz_zero _) (vs := us') (rest := []) (by simp) hr ?_
        · have hm : (Array.map (fun x => (x.fst, a.eval x.snd)) ps).toList = ps.toList.map fun p => (p.1, a.eval p.2) := by simp
          simp only [Instr.buildSlice, Sem.run_bind, underlying, run_program, Result.andThen_ok, hu, Sem.run_pure, run_sizeOf hi]
          rw [if_neg (by omega)]
          by_cases h0 : len * i.size = 0
          · rw [if_pos h0]
            rw [h0] at hf
            simp only [Sem.run_bind, Sem.run_pure, Result.andThen_ok, h0, show Array.range 0 = #[] from rfl, Array.map_empty]
            simp only [List.range_zero, List.map_nil] at hf
            simp only [hm, hf, Sem.run_bind, newRow, run_newObj, Result.andThen_ok, Sem.run_pure, World.alloc_eq]
          · rw [if_neg h0]
            have hmap : ((Array.range (len * i.size)).map fun x => zv.cells[x % zv.cells.size]!) = ((List.range (len * i.size)).map fun i => zv.cells.toList.toArray[i % zv.cells.toList.length]!).toArray := by
              apply Array.ext'
              simp only [Array.toList_map, Array.toList_range, Array.toArray_toList, Array.length_toList]
            simp only [Sem.run_bind, hzv, Sem.run_pure, Result.andThen_ok, hmap, hm, hf, newRow, run_newObj, World.alloc_eq]
        · simp only [Rel]
          refine .inr ⟨w.heap.size, len, (el, len * i.size), Ctx.bind_eq, rfl, Nat.le_refl _, ?_, by omega⟩
          rw [rowSize_of_row (oneMore_alloc w us'.toArray el).row]
          simp; omega
      · cases hc
    · cases hc
  · cases hc

end
end Go.Jq
