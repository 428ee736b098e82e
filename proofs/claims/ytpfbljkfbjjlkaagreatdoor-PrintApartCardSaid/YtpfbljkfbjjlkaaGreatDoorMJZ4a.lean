/- What the statement's proof leans on, part 1: the layer, the walks, the plain laws. -/
import Derived.WalkKit
import Derived.Orders
import Derived.Below
set_option linter.unusedSimpArgs false
set_option linter.unusedVariables false

/- The abstract layer: values, worlds, operations. -/
namespace Go.Jq
open Go
inductive DV where
  | int (k : IntKind) (n : Int)
  | bool (b : Bool)
  | str (s : List UInt8)
  | nsl
  | nptr
  | nfn
  | nif
  | sl (n : Nat) (cells : List DV)
instance : Inhabited DV := ⟨.nsl⟩
inductive AV where
  | d (x : DV)
  | ptr (id off : Nat)
  | npt (id T : Nat)
  | dptr (cells : List DV)
  | sl (id esz off len : Nat)
  | slT (id T len : Nat)
  | fn (f : Nat) (cap : List AV)
  | agg (cells : List AV)
  | tup (vs : List AV)
  | any
instance : Inhabited AV := ⟨.any⟩
inductive Spot where
  | free
  | none
  | blk (b : Nat)
structure Ctx where
  φ : Nat → Spot
  imm : Nat → Prop
def rowSize (w : World) (b : Nat) : Option (TypeId × Nat) :=
  match w.heap[b]? with
  | some (.cells c T _) => some (T, c.size)
  | _ => none
mutual
def RelD (I : Nat → Prop) (w : World) : DV → Value → Prop
  | .int k n, v => v = .int k n
  | .bool b, v => v = .bool b
  | .str s, v => v = .string ⟨s.toArray⟩
  | .nsl, v => v = .slice none 0 0
  | .nptr, v => v = .pointer none
  | .nfn, v => v = .nilFunc
  | .nif, v => v = .nilIface
  | .sl n cells, v => ∃ a cap, v = .slice a n cap ∧ n ≤ cap ∧
      ((n = 0 ∧ cells = []) ∨ ∃ b o, a = some ⟨b, o, none⟩ ∧ I b ∧ RelDs I w cells b o)
def RelDs (I : Nat → Prop) (w : World) : List DV → Nat → Nat → Prop
  | [], _, _ => True
  | c :: cs, b, o => (∃ u, w.cell? ⟨b, o, none⟩ = some u ∧ RelD I w c u) ∧ RelDs I w cs b (o + 1)
end
mutual
def Rel (c : Ctx) (w : World) : AV → Value → Prop
  | .d x, v => RelD c.imm w x v
  | .ptr id off, v => ∃ b, c.φ id = .blk b ∧ v = .pointer (some ⟨b, off, none⟩)
  | .npt id T, v => v = .pointer none ∧ ∃ b, c.φ id = .blk b ∧ rowSize w b = some (T, 2)
  | .dptr cells, v => ∃ b o, c.imm b ∧ v = .pointer (some ⟨b, o, none⟩) ∧ RelDs c.imm w cells b o
  | .sl id esz off len, v => (c.φ id = .none ∧ off = 0 ∧ len = 0 ∧ v = .slice none 0 0) ∨
      ∃ b cap n, c.φ id = .blk b ∧ v = .slice (some ⟨b, off, none⟩) len cap ∧ len ≤ cap ∧ rowSize w b = some n ∧ off + cap * esz ≤ n.2
  | .slT id T len, v => (c.φ id = .none ∧ len = 0 ∧ v = .slice none 0 0) ∨
      ∃ b cap N, c.φ id = .blk b ∧ v = .slice (some ⟨b, 0, none⟩) len cap ∧ len ≤ cap ∧ rowSize w b = some (T, N) ∧ cap ≤ N
  | .fn f cap, v => ∃ vs, v = .func (.func f) #[] vs.toArray ∧ RelL c w cap vs
  | .agg cs, v => ∃ vs, v = .agg vs.toArray ∧ RelL c w cs vs
  | .tup cs, v => ∃ vs, v = .tuple vs.toArray ∧ RelL c w cs vs
  | .any, _ => True
def RelL (c : Ctx) (w : World) : List AV → List Value → Prop
  | [], vs => vs = []
  | x :: xs, vs => ∃ v vs', vs = v :: vs' ∧ Rel c w x v ∧ RelL c w xs vs'
end
theorem RelL.length {c : Ctx} {w : World} : ∀ {xs : List AV} {vs : List Value}, RelL c w xs vs → vs.length = xs.length
  | [], _, h => by simp only [RelL] at h; subst h; rfl
  | x :: xs, _, h => by
    simp only [RelL] at h
    obtain ⟨v, vs', rfl, _, h⟩ := h
    simp [RelL.length h]
theorem RelL.get {c : Ctx} {w : World} : ∀ {xs : List AV} {vs : List Value} (_ : RelL c w xs vs) {i : Nat} {x : AV}, xs[i]? = some x → ∃ v, vs[i]? = some v ∧ Rel c w x v
  | [], _, _, i, x, hi => by simp at hi
  | y :: xs, _, h, i, x, hi => by
    simp only [RelL] at h
    obtain ⟨v, vs', rfl, hv, h⟩ := h
    cases i with
    | zero => simp at hi; subst hi; exact ⟨v, rfl, hv⟩
    | succ i => simp at hi; simpa using RelL.get h hi
theorem RelL.of_get {c : Ctx} {w : World} : ∀ {xs : List AV} {vs : List Value}, vs.length = xs.length →
    (∀ (i : Nat) (x : AV) (v : Value), xs[i]? = some x → vs[i]? = some v → Rel c w x v) → RelL c w xs vs
  | [], vs, hl, _ => by simp only [RelL]; exact List.eq_nil_of_length_eq_zero (by simpa using hl)
  | x :: xs, [], hl, _ => by simp at hl
  | x :: xs, v :: vs, hl, h => by
    simp only [RelL]
    exact ⟨v, vs, rfl, h 0 x v rfl rfl, RelL.of_get (by simpa using hl) fun i y u hy hu => h (i + 1) y u (by simpa using hy) (by simpa using hu)⟩
theorem RelL.append {c : Ctx} {w : World} : ∀ {xs ys : List AV} {vs us : List Value}, RelL c w xs vs → RelL c w ys us → RelL c w (xs ++ ys) (vs ++ us)
  | [], _, _, _, h, h' => by simp only [RelL] at h; subst h; simpa using h'
  | x :: xs, _, _, _, h, h' => by
    simp only [RelL] at h
    obtain ⟨v, vs', rfl, hv, h⟩ := h
    simp only [List.cons_append, RelL]
    exact ⟨v, _, rfl, hv, RelL.append h h'⟩
theorem RelL.take {c : Ctx} {w : World} : ∀ {xs : List AV} {vs : List Value} (n : Nat), RelL c w xs vs → RelL c w (xs.take n) (vs.take n)
  | [], _, n, h => by simp only [RelL] at h; subst h; simp [RelL]
  | x :: xs, _, 0, h => by simp [RelL]
  | x :: xs, _, n + 1, h => by
    simp only [RelL] at h
    obtain ⟨v, vs', rfl, hv, h⟩ := h
    simp only [List.take_succ_cons, RelL]
    exact ⟨v, _, rfl, hv, RelL.take n h⟩
theorem RelL.drop {c : Ctx} {w : World} : ∀ {xs : List AV} {vs : List Value} (n : Nat), RelL c w xs vs → RelL c w (xs.drop n) (vs.drop n)
  | [], _, n, h => by simp only [RelL] at h; subst h; simp [RelL]
  | x :: xs, _, 0, h => by simpa using h
  | x :: xs, _, n + 1, h => by
    simp only [RelL] at h
    obtain ⟨v, vs', rfl, hv, h⟩ := h
    simpa using RelL.drop n h
theorem RelL.set {c : Ctx} {w : World} : ∀ {xs : List AV} {vs : List Value} (i : Nat) {x : AV} {v : Value}, RelL c w xs vs → Rel c w x v → RelL c w (xs.set i x) (vs.set i v)
  | [], _, i, _, _, h, _ => by simp only [RelL] at h; subst h; simp [RelL]
  | y :: xs, _, 0, _, _, h, hx => by
    simp only [RelL] at h
    obtain ⟨v, vs', rfl, hv, h⟩ := h
    simp only [List.set_cons_zero, RelL]
    exact ⟨_, _, rfl, hx, h⟩
  | y :: xs, _, i + 1, _, _, h, hx => by
    simp only [RelL] at h
    obtain ⟨v, vs', rfl, hv, h⟩ := h
    simp only [List.set_cons_succ, RelL]
    exact ⟨_, _, rfl, hv, RelL.set i h hx⟩
theorem RelDs.get {I : Nat → Prop} {w : World} : ∀ {cs : List DV} {b o : Nat} (_ : RelDs I w cs b o) {i : Nat} {c : DV}, cs[i]? = some c →
    ∃ u, w.cell? ⟨b, o + i, none⟩ = some u ∧ RelD I w c u
  | [], _, _, _, i, c, hi => by simp at hi
  | x :: cs, b, o, h, i, c, hi => by
    simp only [RelDs] at h
    cases i with
    | zero => simp at hi; subst hi; exact h.1
    | succ i =>
      simp at hi
      obtain ⟨u, hu, hr⟩ := RelDs.get h.2 hi
      exact ⟨u, by rw [← hu]; congr 2; omega, hr⟩
theorem RelDs.of_get {I : Nat → Prop} {w : World} : ∀ {cs : List DV} {b o : Nat},
    (∀ (i : Nat) (c : DV), cs[i]? = some c → ∃ u, w.cell? ⟨b, o + i, none⟩ = some u ∧ RelD I w c u) → RelDs I w cs b o
  | [], _, _, _ => by simp [RelDs]
  | x :: cs, b, o, h => by
    simp only [RelDs]
    refine ⟨by simpa using h 0 x rfl, RelDs.of_get fun i c hi => ?_⟩
    obtain ⟨u, hu, hr⟩ := h (i + 1) c (by simpa using hi)
    exact ⟨u, by rw [← hu]; congr 2; omega, hr⟩
theorem RelDs.drop {I : Nat → Prop} {w : World} {cs : List DV} {b o : Nat} (h : RelDs I w cs b o) (n : Nat) : RelDs I w (cs.drop n) b (o + n) :=
  RelDs.of_get fun i c hi => by
    rw [List.getElem?_drop] at hi
    obtain ⟨u, hu, hr⟩ := RelDs.get h hi
    exact ⟨u, by rw [← hu]; congr 2; omega, hr⟩
theorem RelDs.take {I : Nat → Prop} {w : World} {cs : List DV} {b o : Nat} (h : RelDs I w cs b o) (n : Nat) : RelDs I w (cs.take n) b o :=
  RelDs.of_get fun i c hi => by
    rw [List.getElem?_take] at hi
    split at hi
    · exact RelDs.get h hi
    · simp at hi
def SameOn (I : Nat → Prop) (w w' : World) : Prop := ∀ b, I b → w'.heap[b]? = w.heap[b]?
theorem SameOn.cell {I : Nat → Prop} {w w' : World} (h : SameOn I w w') {b : Nat} (hb : I b) (o : Nat) : w'.cell? ⟨b, o, none⟩ = w.cell? ⟨b, o, none⟩ := by
  simp only [World.cell?, h b hb]
mutual
theorem relD_mono {I I' : Nat → Prop} {w w' : World} (hI : ∀ b, I b → I' b) (hs : SameOn I w w') : ∀ (x : DV) (v : Value), RelD I w x v → RelD I' w' x v
  | .int _ _, _, h => h
  | .bool _, _, h => h
  | .str _, _, h => h
  | .nsl, _, h => h
  | .nptr, _, h => h
  | .nfn, _, h => h
  | .nif, _, h => h
  | .sl n cells, v, h => by
    simp only [RelD] at h ⊢
    obtain ⟨a, cap, hv, hn, h⟩ := h
    refine ⟨a, cap, hv, hn, ?_⟩
    rcases h with h | ⟨b, o, ha, hb, hc⟩
    · exact .inl h
    · exact .inr ⟨b, o, ha, hI b hb, relDs_mono hI hs cells b o hb hc⟩
theorem relDs_mono {I I' : Nat → Prop} {w w' : World} (hI : ∀ b, I b → I' b) (hs : SameOn I w w') : ∀ (cs : List DV) (b o : Nat), I b → RelDs I w cs b o → RelDs I' w' cs b o
  | [], _, _, _, _ => by simp [RelDs]
  | c :: cs, b, o, hb, h => by
    simp only [RelDs] at h ⊢
    obtain ⟨⟨u, hu, hr⟩, h⟩ := h
    exact ⟨⟨u, by rw [hs.cell hb]; exact hu, relD_mono hI hs c u hr⟩, relDs_mono hI hs cs b (o + 1) hb h⟩
end
structure Later (c c' : Ctx) (w w' : World) : Prop where
  imm : ∀ b, c.imm b → c'.imm b
  same : SameOn c.imm w w'
  ext : ∀ id, c.φ id ≠ .free → c'.φ id = c.φ id
  size : ∀ b n, rowSize w b = some n → rowSize w' b = some n
mutual
theorem rel_mono {c c' : Ctx} {w w' : World} (h : Later c c' w w') : ∀ (x : AV) (v : Value), Rel c w x v → Rel c' w' x v
  | .d x, v, hr => by simp only [Rel] at hr ⊢; exact relD_mono h.imm h.same x v hr
  | .ptr id off, v, hr => by
    simp only [Rel] at hr ⊢
    obtain ⟨b, hb, hv⟩ := hr
    exact ⟨b, by rw [h.ext id (by rw [hb]; simp)]; exact hb, hv⟩
  | .npt id T, v, hr => by
    simp only [Rel] at hr ⊢
    obtain ⟨hv, b, hb, hs⟩ := hr
    exact ⟨hv, b, by rw [h.ext id (by rw [hb]; simp)]; exact hb, h.size b _ hs⟩
  | .dptr cells, v, hr => by
    simp only [Rel] at hr ⊢
    obtain ⟨b, o, hb, hv, hc⟩ := hr
    exact ⟨b, o, h.imm b hb, hv, relDs_mono h.imm h.same cells b o hb hc⟩
  | .sl id esz off len, v, hr => by
    simp only [Rel] at hr ⊢
    rcases hr with ⟨h0, hr⟩ | ⟨b, cap, n, hb, hv, hl, hn, hr⟩
    · exact .inl ⟨by rw [h.ext id (by rw [h0]; simp)]; exact h0, hr⟩
    · exact .inr ⟨b, cap, n, by rw [h.ext id (by rw [hb]; simp)]; exact hb, hv, hl, h.size b n hn, hr⟩
  | .slT id T len, v, hr => by
    simp only [Rel] at hr ⊢
    rcases hr with ⟨h0, hr⟩ | ⟨b, cap, n, hb, hv, hl, hn, hr⟩
    · exact .inl ⟨by rw [h.ext id (by rw [h0]; simp)]; exact h0, hr⟩
    · exact .inr ⟨b, cap, n, by rw [h.ext id (by rw [hb]; simp)]; exact hb, hv, hl, h.size b _ hn, hr⟩
  | .fn f cap, v, hr => by
    simp only [Rel] at hr ⊢
    obtain ⟨vs, hv, hl⟩ := hr
    exact ⟨vs, hv, relL_mono h cap vs hl⟩
  | .agg cs, v, hr => by
    simp only [Rel] at hr ⊢
    obtain ⟨vs, hv, hl⟩ := hr
    exact ⟨vs, hv, relL_mono h cs vs hl⟩
  | .tup cs, v, hr => by
    simp only [Rel] at hr ⊢
    obtain ⟨vs, hv, hl⟩ := hr
    exact ⟨vs, hv, relL_mono h cs vs hl⟩
  | .any, _, _ => by simp [Rel]
theorem relL_mono {c c' : Ctx} {w w' : World} (h : Later c c' w w') : ∀ (xs : List AV) (vs : List Value), RelL c w xs vs → RelL c' w' xs vs
  | [], _, hr => by simpa [RelL] using hr
  | x :: xs, vs, hr => by
    simp only [RelL] at hr ⊢
    obtain ⟨v, vs', hv, hx, hl⟩ := hr
    exact ⟨v, vs', hv, rel_mono h x v hx, relL_mono h xs vs' hl⟩
end
abbrev Mem := List (Nat × List AV)
def mget : Mem → Nat → Option (List AV)
  | [], _ => none
  | (k, c) :: r, i => if k = i then some c else mget r i
def mset : Mem → Nat → List AV → Mem
  | [], i, c => [(i, c)]
  | (k, x) :: r, i, c => if k = i then (k, c) :: r else (k, x) :: mset r i c
def mdel : Mem → Nat → Mem
  | [], _ => []
  | (k, x) :: r, i => if k = i then mdel r i else (k, x) :: mdel r i
theorem mget_mset (m : Mem) (i j : Nat) (c : List AV) : mget (mset m i c) j = if i = j then some c else mget m j := by
  induction m with
  | nil => simp [mset, mget]
  | cons p r ih =>
    obtain ⟨k, x⟩ := p
    simp only [mset]
    by_cases hk : k = i
    · subst hk
      rw [if_pos rfl]
      simp only [mget]
      by_cases hj : k = j <;> simp [hj]
    · rw [if_neg hk]
      simp only [mget, ih]
      by_cases hj : k = j
      · subst hj; simp [Ne.symm hk]
      · simp [hj]
theorem mget_mdel (m : Mem) (i j : Nat) : mget (mdel m i) j = if i = j then none else mget m j := by
  induction m with
  | nil => simp [mdel, mget]
  | cons p r ih =>
    obtain ⟨k, x⟩ := p
    simp only [mdel]
    by_cases hk : k = i
    · subst hk
      rw [if_pos rfl, ih]
      simp only [mget]
      by_cases hj : k = j <;> simp [hj]
    · rw [if_neg hk]
      simp only [mget, ih]
      by_cases hj : k = j
      · subst hj; simp [Ne.symm hk]
      · simp [hj]
abbrev Fr := List (Nat × AV)
def fget : Fr → Nat → AV
  | [], _ => .any
  | (k, x) :: r, i => if k = i then x else fget r i
def NoFz (n : Nat) (f : Nat × Nat) : Prop := f.1 = f.2 ∨ n ≤ f.1
def OwnR (c : Ctx) (w : World) (id : Nat) (cells : List AV) : Prop :=
  (c.φ id = .none ∧ cells = []) ∨
  ∃ b arr T f, c.φ id = .blk b ∧ ¬ c.imm b ∧ w.heap[b]? = some (.cells arr T f) ∧ NoFz arr.size f ∧ ∃ vs rest, arr.toList = vs ++ rest ∧ RelL c w cells vs
def tabC : Nat → Option (Array Value → Prop) := fun g => if g = 0 then some (fun cs => cs = #[.int .u64 1, .int .u64 10, .int .u64 100, .int .u64 1000, .int .u64 10000, .int .u64 100000, .int .u64 1000000, .int .u64 10000000, .int .u64 100000000, .int .u64 1000000000, .int .u64 10000000000, .int .u64 100000000000, .int .u64 1000000000000, .int .u64 10000000000000, .int .u64 100000000000000, .int .u64 1000000000000000, .int .u64 10000000000000000, .int .u64 100000000000000000, .int .u64 1000000000000000000, .int .u64 10000000000000000000]) else if g = 2 ∨ g = 3 then some (fun cs => ∃ t p, cs = #[.iface t p]) else none
structure MR (c : Ctx) (m : Mem) (w : World) : Prop where
  own : ∀ id cells, mget m id = some cells → OwnR c w id cells
  inj : ∀ id id' b, (mget m id).isSome → (mget m id').isSome → c.φ id = .blk b → c.φ id' = .blk b → id = id'
  imm : ∀ b, c.imm b → b < w.heap.size
  tab : ∀ g Φ, tabC g = some Φ → c.imm g ∧ ∃ cs T f, w.heap[g]? = some (.cells cs T f) ∧ Φ cs
theorem MR.tabTo {c c' : Ctx} {m : Mem} {w w' : World} (h : MR c m w) (hi : ∀ b, c.imm b → c'.imm b) (hk : ∀ b, c.imm b → w'.heap[b]? = w.heap[b]?) :
    ∀ g Φ, tabC g = some Φ → c'.imm g ∧ ∃ cs T f, w'.heap[g]? = some (.cells cs T f) ∧ Φ cs := fun g Φ hg => by
  obtain ⟨h1, cs, T, f, h2, h3⟩ := h.tab g Φ hg
  exact ⟨hi g h1, cs, T, f, (hk g h1).trans h2, h3⟩
def FR (c : Ctx) (w : World) (t : Fr) (tmps : Array Value) : Prop := ∀ i, Rel c w (fget t i) (tmps.getD i undef)
def Own (c : Ctx) (m : Mem) (b : Nat) : Prop := ∃ id, (mget m id).isSome ∧ c.φ id = .blk b
structure Step (O : Nat → Prop) (c c' : Ctx) (w w' : World) : Prop where
  os : w'.os = w.os
  tape : w'.tape = w.tape
  output : w'.output = w.output
  size : w.heap.size ≤ w'.heap.size
  keep : ∀ k, k < w.heap.size → ¬ O k → w'.heap[k]? = w.heap[k]?
  rows : ∀ b n, rowSize w b = some n → rowSize w' b = some n
  imm : ∀ b, c.imm b → c'.imm b
  imm' : ∀ b, c'.imm b → c.imm b ∨ O b ∨ w.heap.size ≤ b
theorem Step.refl (O : Nat → Prop) (c : Ctx) (w : World) : Step O c c w w :=
  ⟨rfl, rfl, rfl, Nat.le_refl _, fun _ _ _ => rfl, fun _ _ h => h, fun _ h => h, fun _ h => .inl h⟩
theorem Step.trans {O O' : Nat → Prop} {c c' c'' : Ctx} {w w' w'' : World} (h : Step O c c' w w') (h' : Step O' c' c'' w' w'')
    (hO : ∀ b, O' b → O b ∨ w.heap.size ≤ b) : Step O c c'' w w'' where
  os := h'.os.trans h.os
  tape := h'.tape.trans h.tape
  output := h'.output.trans h.output
  size := Nat.le_trans h.size h'.size
  keep := fun k hk hn => (h'.keep k (Nat.lt_of_lt_of_le hk h.size) fun hO' => by rcases hO k hO' with h1 | h1; exact hn h1; omega).trans (h.keep k hk hn)
  rows := fun b n hn => h'.rows b n (h.rows b n hn)
  imm := fun b hb => h'.imm b (h.imm b hb)
  imm' := fun b hb => by
    rcases h'.imm' b hb with h1 | h1 | h1
    · exact h.imm' b h1
    · rcases hO b h1 with h2 | h2
      · exact .inr (.inl h2)
      · exact .inr (.inr h2)
    · exact .inr (.inr (Nat.le_trans h.size h1))
theorem Step.weaken {O O' : Nat → Prop} {c c' : Ctx} {w w' : World} (h : Step O c c' w w') (hO : ∀ b, O b → O' b) : Step O' c c' w w' :=
  { h with keep := fun k hk hn => h.keep k hk fun h1 => hn (hO k h1), imm' := fun b hb => (h.imm' b hb).imp id fun h1 => h1.imp (hO b) id }
theorem MR.sep {c : Ctx} {m : Mem} {w : World} (h : MR c m w) {b : Nat} (hi : c.imm b) : ¬ Own c m b := by
  rintro ⟨id, hid, hb⟩
  obtain ⟨cells, hc⟩ := Option.isSome_iff_exists.1 hid
  rcases h.own id cells hc with ⟨h0, _⟩ | ⟨b', arr, T, f, hb', hni, _⟩
  · rw [h0] at hb; cases hb
  · rw [hb'] at hb; cases hb; exact hni hi
theorem Step.later {c c' : Ctx} {m : Mem} {w w' : World} (hm : MR c m w) (h : Step (Own c m) c c' w w') (hext : ∀ id, c.φ id ≠ .free → c'.φ id = c.φ id) : Later c c' w w' :=
  ⟨h.imm, fun b hb => h.keep b (hm.imm b hb) (hm.sep hb), hext, h.rows⟩
end Go.Jq
namespace Go.Jq
open Go
inductive Opd where
  | t (i : Nat)
  | c (x : AV)
inductive AOp where
  | mv (x : Opd)
  | pick (c a b : Opd)
  | alloc (zero : List AV)
  | box (x : Opd)
  | build (zero : List AV) (parts : List (Nat × Nat × Opd))
  | bslice (esz len : Nat) (zero : List AV) (parts : List (Nat × Nat × Opd))
  | load (k : Option Nat) (x : Opd)
  | store (k : Nat) (a v : Opd)
  | nilck (x : Opd)
  | bin (op : BinOp) (x y : Opd)
  | eqb (neg : Bool) (x y : Opd)
  | eqp (neg : Bool) (x y : Opd)
  | eqf (neg : Bool) (x y : Opd)
  | eqs (sz : List Nat) (neg : Bool) (x y : Opd)
  | un (op : UnOp) (x : Opd)
  | cvi (k : IntKind) (x : Opd)
  | cvrune (x : Opd)
  | cvbs (x : Opd)
  | cvsb (x : Opd)
  | cvll (x : Opd)
  | mkfn (f : Nat) (caps : List Opd)
  | mksl (esz bytes : Nat) (zero : List AV) (len cap : Opd)
  | slcs (x : Opd) (lo hi : Option Opd)
  | slcl (esz : Nat) (x : Opd) (lo hi : Option Opd)
  | faddr (x : Opd) (off : Nat)
  | fld (x : Opd) (off : Nat) (k : Option Nat)
  | iaddr (esz : Nat) (n : Option Nat) (x i : Opd)
  | idxs (x i : Opd)
  | idxa (n esz : Nat) (k : Option Nat) (x i : Opd)
  | ext (x : Opd) (i : Nat)
  | lens (x : Opd)
  | lenl (x : Opd)
  | minI (x y : Opd)
  | maxI (x y : Opd)
  | app (esz bytes el : Nat) (x y : Opd)
  | callf (f : Nat) (args : List Opd)
  | callv (x : Opd) (args : List Opd)
structure AOper where
  dst : Option Nat
  op : AOp
  guard : Option (Nat × Bool)
inductive Eff where
  | nil
  | new (cells : List AV)
  | put (id : Nat) (cells : List AV)
  | mov (id : Nat) (cells : List AV)
def Eff.mem (m : Mem) (n : Nat) : Eff → Mem
  | .nil => m
  | .new c => mset m n c
  | .put id c => mset m id c
  | .mov id c => mset (mdel m id) n c
def Eff.next (n : Nat) : Eff → Nat
  | .nil => n
  | .new _ => n + 1
  | .put _ _ => n
  | .mov _ _ => n + 1
def ev (t : Fr) : Opd → AV
  | .t i => fget t i
  | .c x => x
def cellsOf : AV → Option (List AV)
  | .agg cs => some cs
  | .tup _ => none
  | .any => none
  | x => some [x]
def oneB : AV → Bool
  | .agg _ => false
  | .tup _ => false
  | .any => false
  | _ => true
def fixZ (n : Nat) : List AV → List AV
  | .npt _ T :: r => .npt n T :: r
  | z => z
def putAt : List AV → Nat → List AV → List AV
  | l, _, [] => l
  | l, o, v :: vs => putAt (l.set o v) (o + 1) vs
def fillA : List AV → List (Nat × Nat × AV) → Option (List AV)
  | cs, [] => some cs
  | cs, (off, size, v) :: r =>
    match cellsOf v with
    | some vs => if vs.length = size ∧ off + size ≤ cs.length then fillA (putAt cs off vs) r else none
    | none => none
def evParts (t : Fr) (ps : List (Nat × Nat × Opd)) : List (Nat × Nat × AV) := ps.map fun p => (p.1, p.2.1, ev t p.2.2)
def bytesAV (s : List UInt8) : List AV := s.map fun b => .d (.int .u8 b.toNat)
def elemsOf (m : Mem) (esz : Nat) : AV → Option (Nat × List AV)
  | .d .nsl => some (0, [])
  | .d (.sl n cells) => if cells.length = n * esz then some (n, cells.map .d) else none
  | .d (.str s) => if esz = 1 then some (s.length, bytesAV s) else none
  | .sl id e off len => match mget m id with
    | some cs => if e = esz ∧ off + len * esz ≤ cs.length ∧ ((cs.drop off).take (len * esz)).all oneB = true then some (len, (cs.drop off).take (len * esz)) else none
    | none => none
  | _ => none
def wrapI (k : IntKind) (n : Int) : AV := .d (.int k (k.wrap n))
def boolA (b : Bool) : AV := .d (.bool b)
def binI (op : BinOp) (k : IntKind) (a b : Int) : Option AV :=
  match op with
  | .add => some (wrapI k (a + b))
  | .sub => some (wrapI k (a - b))
  | .mul => some (wrapI k (a * b))
  | .quo => if b = 0 then none else some (wrapI k (a.tdiv b))
  | .rem => if b = 0 then none else some (.d (.int k (a.tmod b)))
  | .and => some (.d (.int k (bits .and k a b)))
  | .or => some (.d (.int k (bits .or k a b)))
  | .xor => some (.d (.int k (bits .xor k a b)))
  | .andNot => some (.d (.int k (bits .andNot k a b)))
  | .shl => none
  | .shr => none
  | .eql => some (boolA (decide (a = b)))
  | .neq => some (boolA (!decide (a = b)))
  | .lss => some (boolA (decide (a < b)))
  | .leq => some (boolA (decide (a ≤ b)))
  | .gtr => some (boolA (decide (b < a)))
  | .geq => some (boolA (decide (b ≤ a)))
def shI (op : BinOp) (k : IntKind) (a b : Int) : Option AV :=
  if b < 0 then none else
  match op with
  | .shl => some (wrapI k (a * 2 ^ min b.toNat k.bits))
  | .shr => some (.d (.int k (a.fdiv (2 ^ min b.toNat k.bits))))
  | _ => none
def binS (op : BinOp) (a b : List UInt8) : Option AV :=
  match op with
  | .add => if a.length + b.length ≤ 9223372036854775807 then some (.d (.str (a ++ b))) else none
  | .eql => some (boolA (decide (a = b)))
  | .neq => some (boolA (!decide (a = b)))
  | .lss => some (boolA (Op.bytesLess a b))
  | .leq => some (boolA (Op.bytesLess a b || decide (a = b)))
  | .gtr => some (boolA (!(Op.bytesLess a b || decide (a = b))))
  | .geq => some (boolA (!Op.bytesLess a b))
  | _ => none
def binA (op : BinOp) : AV → AV → Option AV
  | .d (.int k a), .d (.int k' b) =>
    if op = .shl ∨ op = .shr then shI op k a b else if k = k' then binI op k a b else none
  | .d (.str a), .d (.str b) => binS op a b
  | _, _ => none
def unA (op : UnOp) : AV → Option AV
  | .d (.int k a) => match op with
    | .neg => some (wrapI k (0 - a))
    | .xor => some (.d (.int k (bits .xor k (if k.signed then -1 else k.max) a)))
    | _ => none
  | .d (.bool b) => match op with
    | .not => some (boolA (!b))
    | _ => none
  | _ => none
def eqpA (neg : Bool) : AV → AV → Option AV
  | .ptr _ _, .d .nptr => some (boolA neg)
  | .dptr _, .d .nptr => some (boolA neg)
  | .d .nptr, .ptr _ _ => some (boolA neg)
  | .d .nptr, .dptr _ => some (boolA neg)
  | .d .nptr, .d .nptr => some (boolA (!neg))
  | _, _ => none
def eqfA (neg : Bool) : AV → AV → Option AV
  | .fn _ _, .d .nfn => some (boolA neg)
  | .d .nfn, .fn _ _ => some (boolA neg)
  | .d .nfn, .d .nfn => some (boolA (!neg))
  | _, _ => none
def eqCell : Nat → AV → AV → Option Bool
  | 0, .d (.int k a), .d (.int k' b) => if k = k' then some (decide (a = b)) else none
  | 1, .d (.bool a), .d (.bool b) => some (a == b)
  | 2, .d (.str a), .d (.str b) => some (decide (a = b))
  | _, _, _ => none
def eqCells : List Nat → List AV → List AV → Option Bool
  | [], [], [] => some true
  | k :: ks, x :: xs, y :: ys => match eqCell k x y, eqCells ks xs ys with
    | some a, some b => some (a && b)
    | _, _ => none
  | _, _, _ => none
def lenA : AV → Option Nat
  | .d .nsl => some 0
  | .d (.sl n _) => some n
  | .sl _ _ _ len => some len
  | _ => none
def cellBytes : List AV → Option (List UInt8)
  | [] => some []
  | .d (.int .u8 n) :: r => (cellBytes r).map (UInt8.ofNat n.toNat :: ·)
  | _ :: _ => none
def bndA (x : Option AV) (dflt : Nat) : Option Nat :=
  match x with
  | none => some dflt
  | some (.d (.int _ n)) => if 0 ≤ n then some n.toNat else none
  | _ => none
def loadA (k : Option Nat) (cells : List AV) : Option AV :=
  match k with
  | none => cells[0]?
  | some k => if k ≤ cells.length then some (.agg (cells.take k)) else none
def slcA (esz lo hi len : Nat) : AV → Option AV
  | .d .nsl => if lo = 0 ∧ hi = 0 then some (.d .nsl) else none
  | .d (.sl n cells) => if lo ≤ hi ∧ hi ≤ n ∧ n = len then some (.d (.sl (hi - lo) ((cells.drop (lo * esz)).take ((hi - lo) * esz)))) else none
  | .sl id e off n => if e = esz ∧ n = len ∧ lo ≤ hi ∧ hi ≤ n then
      (if lo = 0 then some (.sl id esz off hi) else if lo = hi then some (.d (.sl 0 [])) else some (.sl id esz (off + lo * esz) (hi - lo))) else none
  | _ => none
def aevN (o : AOp) (t : Fr) (m : Mem) (n : Nat) : Option (AV × Eff) :=
  match o with
  | .mv x => some (ev t x, .nil)
  | .pick c a b => match ev t c with
    | .d (.bool v) => some (if v = true then ev t a else ev t b, .nil)
    | _ => none
  | .alloc z => some (.ptr n 0, .new (fixZ n z))
  | .box x => (cellsOf (ev t x)).map fun cs => (.ptr n 0, .new cs)
  | .build z ps => (fillA z (evParts t ps)).map fun cs => (.agg cs, .nil)
  | .bslice esz len z ps => (fillA z (evParts t ps)).map fun cs => (.sl n esz 0 len, .new cs)
  | .load k x => match ev t x with
    | .ptr id off => match mget m id with
      | some cs => (loadA k (cs.drop off)).map fun v => (v, .nil)
      | none => none
    | .dptr cs => (loadA k (cs.map .d)).map fun v => (v, .nil)
    | _ => none
  | .store k a v => match ev t a, cellsOf (ev t v) with
    | .ptr id off, some vs => match mget m id with
      | some cs => if vs.length = k ∧ vs.all oneB = true ∧ off + k ≤ cs.length then some (.any, .put id (putAt cs off vs)) else none
      | none => none
    | _, _ => none
  | .nilck x => match ev t x with
    | .ptr id off => some (.ptr id off, .nil)
    | .dptr cs => some (.dptr cs, .nil)
    | .fn f cs => some (.fn f cs, .nil)
    | _ => none
  | .bin op x y => (binA op (ev t x) (ev t y)).map fun v => (v, .nil)
  | .eqb neg x y => match ev t x, ev t y with
    | .d (.bool a), .d (.bool b) => some (boolA ((a == b) != neg), .nil)
    | _, _ => none
  | .eqp neg x y => (eqpA neg (ev t x) (ev t y)).map fun v => (v, .nil)
  | .eqf neg x y => (eqfA neg (ev t x) (ev t y)).map fun v => (v, .nil)
  | .eqs sz neg x y => match ev t x, ev t y with
    | .agg xs, .agg ys => (eqCells sz xs ys).map fun b => (boolA (b != neg), .nil)
    | _, _ => none
  | .un op x => (unA op (ev t x)).map fun v => (v, .nil)
  | .cvi k x => match ev t x with
    | .d (.int _ a) => some (wrapI k a, .nil)
    | _ => none
  | .cvrune x => match ev t x with
    | .d (.int _ a) => some (.d (.str (Utf8.encode a).data.toList), .nil)
    | .d (.str s) => some (.d (.str s), .nil)
    | _ => none
  | .cvbs x => match ev t x with
    | .d (.str _) => none
    | y => match elemsOf m 1 y with
      | some (_, cs) => (cellBytes cs).map fun s => (.d (.str s), .nil)
      | none => none
  | .cvsb x => match ev t x with
    | .d (.str s) => some (.sl n 1 0 s.length, .new (bytesAV s))
    | _ => none
  | .cvll x => match ev t x with
    | .sl id e off len => match mget m id with
      | some _ => if len = 0 then none else some (.sl id e off len, .nil)
      | none => none
    | _ => none
  | .mkfn f caps => some (.fn f (caps.map (ev t)), .nil)
  | .mksl esz bytes z l c => match ev t l, ev t c with
    | .d (.int .i64 a), .d (.int .i64 b) =>
      if 0 ≤ a ∧ a ≤ b ∧ bytes * b ≤ 140737488351232 ∧ b ≤ 9223372036854775807 then some (.sl n esz 0 a.toNat, .new ((List.range (a.toNat * esz)).map fun i => z.getD (i % z.length) .any)) else none
    | _, _ => none
  | .slcs x lo hi => match ev t x with
    | .d (.str s) => match bndA (lo.map (ev t)) 0, bndA (hi.map (ev t)) s.length with
      | some l, some h => if l ≤ h ∧ h ≤ s.length then some (.d (.str ((s.take h).drop l)), .nil) else none
      | _, _ => none
    | _ => none
  | .slcl esz x lo hi => match lenA (ev t x) with
    | some len => match bndA (lo.map (ev t)) 0, bndA (hi.map (ev t)) len with
      | some l, some h => (slcA esz l h len (ev t x)).map fun v => (v, .nil)
      | _, _ => none
    | none => none
  | .faddr x off => match ev t x with
    | .ptr id o => some (.ptr id (o + off), .nil)
    | .dptr cs => some (.dptr (cs.drop off), .nil)
    | _ => none
  | .fld x off k => match ev t x with
    | .agg cs => (loadA k (cs.drop off)).map fun v => (v, .nil)
    | _ => none
  | .iaddr esz n x i => match ev t x, ev t i with
    | .ptr id o, .d (.int _ i) => match n with
      | some n => if 0 ≤ i ∧ i < n then some (.ptr id (o + i.toNat * esz), .nil) else none
      | none => none
    | .dptr cs, .d (.int _ i) => match n with
      | some n => if 0 ≤ i ∧ i < n then some (.dptr (cs.drop (i.toNat * esz)), .nil) else none
      | none => none
    | .sl id e off len, .d (.int _ i) => if n = none ∧ e = esz ∧ 0 ≤ i ∧ i < len then some (.ptr id (off + i.toNat * esz), .nil) else none
    | .d (.sl len cs), .d (.int _ i) => if n = none ∧ 0 ≤ i ∧ i < len ∧ i.toNat * esz < cs.length then some (.dptr (cs.drop (i.toNat * esz)), .nil) else none
    | _, _ => none
  | .idxs x i => match ev t x, ev t i with
    | .d (.str s), .d (.int _ i) => if 0 ≤ i ∧ i < s.length then some (.d (.int .u8 (s.getD i.toNat 0).toNat), .nil) else none
    | _, _ => none
  | .idxa n esz k x i => match ev t x, ev t i with
    | .agg cs, .d (.int _ i) => if 0 ≤ i ∧ i < n then (loadA k (cs.drop (i.toNat * esz))).map fun v => (v, .nil) else none
    | _, _ => none
  | .ext x i => match ev t x with
    | .tup vs => vs[i]?.map fun v => (v, .nil)
    | _ => none
  | .lens x => match ev t x with
    | .d (.str s) => some (.d (.int .i64 (s.length : Int)), .nil)
    | _ => none
  | .lenl x => (lenA (ev t x)).map fun (l : Nat) => (.d (.int .i64 (l : Int)), .nil)
  | .minI x y => match ev t x, ev t y with
    | .d (.int k a), .d (.int _ b) => some (.d (.int k (if b < a then b else a)), .nil)
    | _, _ => none
  | .maxI x y => match ev t x, ev t y with
    | .d (.int k a), .d (.int _ b) => some (.d (.int k (if a < b then b else a)), .nil)
    | _, _ => none
  | .app esz bytes el x y => match elemsOf m esz (ev t y) with
    | some (k, new) =>
      match ev t x with
      | .d .nsl => if k * bytes ≤ 140737488351232 then (if k = 0 then some (.d .nsl, .nil) else some (.sl n esz 0 k, .new new)) else none
      | .sl id e off len => match mget m id with
        | some cs => if e = esz ∧ off + len * esz = cs.length ∧ (len + k) * bytes ≤ 140737488351232 then
            (if k = 0 then some (.sl id esz off len, .nil) else if off = 0 then some (.sl n esz 0 (len + k), .mov id (cs ++ new)) else none) else none
        | none => none
      | .slT id T len => match mget m id with
        | some cs => if esz = 1 ∧ T = el ∧ len = cs.length ∧ (len + k) * bytes ≤ 140737488351232 then
            (if k = 0 then some (.slT id T len, .nil) else some (.slT n T (len + k), .mov id (cs ++ new))) else none
        | none => none
      | _ => none
    | none => none
  | .callf _ _ => none
  | .callv _ _ => none
def cval1 : Value → AV
  | .bool b => .d (.bool b)
  | .int k n => .d (.int k n)
  | .string s => .d (.str s.data.toList)
  | .pointer none => .d .nptr
  | .slice none 0 0 => .d .nsl
  | .nilFunc => .d .nfn
  | .nilIface => .d .nif
  | _ => .any
def cval : Value → AV
  | .agg cs => .agg (cs.toList.map cval1)
  | v => cval1 v
def cOpd : Operand → Opd
  | .tmp t => .t t
  | .const v => .c (cval v)
  | .func f => .c (.fn f [])
  | .global _ => .c .any
def ldk (P : Program) (t : TypeId) : Option (Option Nat) :=
  match P.info? t, P.underlying t with
  | some i, some (.struct _) => some (some i.size)
  | some i, some (.array _ _) => some (some i.size)
  | some _, some _ => some none
  | _, _ => none
def zeroOf (P : Program) (t : TypeId) : Option (List AV) :=
  match P.info? t with
  | some i => match i.zero with
    | some z => some (z.cells.toList.map cval1)
    | none => none
  | none => none
def fieldPlace' (P : Program) (fs : Array Field) (f : Nat) : Option (Nat × Nat) :=
  match fs[f]? with
  | some fd => match P.info? fd.type with
    | some i => some (fd.offset, i.size)
    | none => none
  | none => none
def partsOf (place : Nat → Option (Nat × Nat)) : List (Nat × Operand) → Option (List (Nat × Nat × Opd))
  | [] => some []
  | (i, x) :: r => match place i, partsOf place r with
    | some (off, size), some r' => some ((off, size, cOpd x) :: r')
    | _, _ => none
def flatFs (P : Program) (sz : TypeId → Option (List Nat)) : List Field → Nat → Option (List Nat)
  | [], _ => some []
  | f :: r, acc => match sz f.type with
    | some s => if f.name ≠ "_" ∧ f.offset = acc ∧ (P.info? f.type).map (·.size) = some s.length then (flatFs P sz r (acc + s.length)).map (s ++ ·) else none
    | none => none
def flatSz (P : Program) : Nat → TypeId → Option (List Nat)
  | 0, _ => none
  | d + 1, t => match P.underlying t with
    | some (.int _) => some [0]
    | some .bool => some [1]
    | some .string => some [2]
    | some (.struct fs) => if P.stoodInHeld t then none else flatFs P (flatSz P d) fs.toList 0
    | _ => none
def goesB (P : Program) (f : Nat) : Bool :=
  match P.funcs[f]? with
  | some fn => fn.body.isSome && fn.name != "runtime.NumGoroutine"
  | none => false
def isIntD : TypeDesc → Bool
  | .int _ => true
  | _ => false
def cBuiltin (P : Program) (b : Builtin) (ts : Array TypeId) (args : Array Operand) : Option AOp :=
  match b, ts.toList, args.toList with
  | .len, [t], [x] => match P.underlying t with
    | some .string => some (.lens (cOpd x))
    | some (.slice _) => some (.lenl (cOpd x))
    | some (.array n _) => some (.mv (.c (.d (.int .i64 n))))
    | _ => none
  | .append, [s, t], [x, y] => match P.underlying s, P.underlying t with
    | some (.slice e), some u => if isIntD u = true then none else match P.info? e with
      | some i => match i.zero with
        | some z => if z.cells.size = i.size ∧ i.bytes ≠ 0 then some (.app i.size i.bytes e (cOpd x) (cOpd y)) else none
        | none => none
      | none => none
    | _, _ => none
  | .min, _, [x, y] => some (.minI (cOpd x) (cOpd y))
  | .max, _, [x, y] => some (.maxI (cOpd x) (cOpd y))
  | _, _, _ => none
def markZ (T : Nat) : List AV → List AV
  | [.d .nptr, .d .nsl] => [.npt 0 T, .d .nsl]
  | z => z
def cOp (P : Program) : Op → Option AOp
  | .move x => some (.mv (cOpd x))
  | .assign x => some (.mv (cOpd x))
  | .pick c a b => some (.pick (cOpd c) (cOpd a) (cOpd b))
  | .alloc e => (zeroOf P e).map fun z => .alloc (markZ e z)
  | .box _ x => some (.box (cOpd x))
  | .build t ps => match P.underlying t, zeroOf P t with
    | some (.struct fs), some z => if (fs.all fun f => (P.info? f.type).isSome) then (partsOf (fieldPlace' P fs) ps.toList).map (.build z) else none
    | some (.array _ e), some z => match P.info? e with
      | some i => (partsOf (fun j => some (j * i.size, i.size)) ps.toList).map (.build z)
      | none => none
    | _, _ => none
  | .buildSlice t len ps => match P.underlying t with
    | some (.slice e) => match P.info? e, zeroOf P e with
      | some i, some z => if z.length = i.size ∧ len * i.size ≤ 2 ^ 24 then
          (partsOf (fun j => some (j * i.size, i.size)) ps.toList).map (.bslice i.size len ((List.range (len * i.size)).map fun j => z.getD (j % z.length) .any)) else none
      | _, _ => none
    | _ => none
  | .load t a => (ldk P t).map fun k => .load k (cOpd a)
  | .store t a v => (P.info? t).map fun i => .store i.size (cOpd a) (cOpd v)
  | .nilCheck x => some (.nilck (cOpd x))
  | .binOp op t x y _ =>
    match P.underlying t with
    | some (.int _) => some (.bin op (cOpd x) (cOpd y))
    | some .string => some (.bin op (cOpd x) (cOpd y))
    | some .bool => match op with
      | .eql => some (.eqb false (cOpd x) (cOpd y))
      | .neq => some (.eqb true (cOpd x) (cOpd y))
      | _ => none
    | some (.pointer _) => match op with
      | .eql => some (.eqp false (cOpd x) (cOpd y))
      | .neq => some (.eqp true (cOpd x) (cOpd y))
      | _ => none
    | some (.func ..) => match op with
      | .eql => some (.eqf false (cOpd x) (cOpd y))
      | .neq => some (.eqf true (cOpd x) (cOpd y))
      | _ => none
    | some (.struct _) => match flatSz P 20 t with
      | some s => if P.eqGuardType P.depth t then none else match op with
        | .eql => some (.eqs s false (cOpd x) (cOpd y))
        | .neq => some (.eqs s true (cOpd x) (cOpd y))
        | _ => none
      | none => none
    | _ => none
  | .unOp op _ x => some (.un op (cOpd x))
  | .convert s d x => match P.underlying s, P.underlying d with
    | some (.int _), some (.int k) => some (.cvi k (cOpd x))
    | some (.int _), some .string => some (.cvrune (cOpd x))
    | some .string, some .string => some (.cvrune (cOpd x))
    | some (.slice e), some .string => match P.underlying e with
      | some (.int .u8) => some (.cvbs (cOpd x))
      | _ => none
    | some .string, some (.slice e) => match P.underlying e with
      | some (.int .u8) => some (.cvsb (cOpd x))
      | _ => none
    | some (.slice _), some (.slice e) => if s = d then (match P.underlying e with
      | some (.int .u8) => some (.cvll (cOpd x))
      | _ => none) else none
    | _, _ => none
  | .makeFunc (.func f) first caps => if first.isEmpty then some (.mkfn f (caps.toList.map cOpd)) else none
  | .makeSlice t l c => match P.underlying t with
    | some (.slice e) => match P.info? e, zeroOf P e with
      | some i, some z => if z.length = i.size ∧ z.length ≠ 0 then some (.mksl i.size i.bytes z (cOpd l) (cOpd c)) else none
      | _, _ => none
    | _ => none
  | .slice t x lo hi none => match P.underlying t with
    | some .string => some (.slcs (cOpd x) (lo.map cOpd) (hi.map cOpd))
    | some (.slice e) => match P.info? e with
      | some i => some (.slcl i.size (cOpd x) (lo.map cOpd) (hi.map cOpd))
      | none => none
    | _ => none
  | .fieldAddr s x f => match P.underlying s with
    | some (.struct fs) => match fieldPlace' P fs f with
      | some (off, size) => if size = 0 then none else some (.faddr (cOpd x) off)
      | none => none
    | _ => none
  | .field s x f => match P.underlying s with
    | some (.struct fs) => match fs[f]? with
      | some fd => (ldk P fd.type).map fun k => .fld (cOpd x) fd.offset k
      | none => none
    | _ => none
  | .indexAddr t x i => match P.underlying t with
    | some (.slice e) => (P.info? e).map fun i' => .iaddr i'.size none (cOpd x) (cOpd i)
    | some (.array n e) => (P.info? e).map fun i' => .iaddr i'.size (some n) (cOpd x) (cOpd i)
    | _ => none
  | .index t x i => match P.underlying t with
    | some .string => some (.idxs (cOpd x) (cOpd i))
    | some (.array n e) => match P.info? e, ldk P e with
      | some i', some k => some (.idxa n i'.size k (cOpd x) (cOpd i))
      | _, _ => none
    | _ => none
  | .extract x i => some (.ext (cOpd x) i)
  | .call c => match c.callee with
    | .builtin b => cBuiltin P b c.argTypes c.args
    | .value (.func f) => if goesB P f then some (.callf f (c.args.toList.map cOpd)) else none
    | .value x => some (.callv (cOpd x) (c.args.toList.map cOpd))
    | .invoke _ _ => none
  | _ => none
def cGuard (ops : Array Oper) : Option (Nat × Bool) → Option (Option (Nat × Bool))
  | none => some none
  | some (j, w) => match ops[j]? with
    | some o => match o.dst with
      | some d => some (some (d, w))
      | none => none
    | none => none
def dstOk (k : Nat) : Option Nat → Bool
  | some d => decide (d < k)
  | none => true
def cOper (P : Program) (ops : Array Oper) (k : Nat) (o : Oper) : Option AOper :=
  match cOp P o.op, cGuard ops o.guard with
  | some a, some g => if dstOk k o.dst = true then some ⟨o.dst, a, g⟩ else none
  | _, _ => none
def cOpers (P : Program) (ops : Array Oper) (k : Nat) : List Oper → Option (List AOper)
  | [] => some []
  | o :: r => match cOper P ops k o, cOpers P ops k r with
    | some a, some r' => some (a :: r')
    | _, _ => none
end Go.Jq
namespace Go.Jq
open Go
theorem addr_add (b o n : Nat) : (Addr.add ⟨b, o, none⟩ n) = ⟨b, o + n, none⟩ := by
  unfold Addr.add
  split
  · rename_i h; subst h; rfl
  · rfl
theorem cell_of_row {w : World} {b : Nat} {arr : Array Value} {T : TypeId} {f : Nat × Nat} (h : w.heap[b]? = some (.cells arr T f)) (o : Nat) :
    w.cell? ⟨b, o, none⟩ = arr[o]? := by simp [World.cell?, h]
theorem frozen_of_row {w : World} {b : Nat} {arr : Array Value} {T : TypeId} {f : Nat × Nat} (h : w.heap[b]? = some (.cells arr T f)) (hf : NoFz arr.size f) {o : Nat} (ho : o < arr.size) :
    w.frozen? ⟨b, o, none⟩ = false := by
  simp only [World.frozen?, h]
  rcases hf with h1 | h1
  · have : ¬ (f.1 ≤ o ∧ o < f.2) := by omega
    simp only [Bool.and_eq_false_iff, decide_eq_false_iff_not]
    omega
  · simp only [Bool.and_eq_false_iff, decide_eq_false_iff_not]
    omega
theorem rowSize_of_row {w : World} {b : Nat} {arr : Array Value} {T : TypeId} {f : Nat × Nat} (h : w.heap[b]? = some (.cells arr T f)) : rowSize w b = some (T, arr.size) := by
  simp [rowSize, h]
theorem run_loadCellsFrom (P : Program) (w : World) (b : Nat) : ∀ (n o i : Nat) (acc : Array Value) (us : List Value),
    us.length = n → (∀ j u, us[j]? = some u → w.cell? ⟨b, o + i + j, none⟩ = some u) → (loadCellsFrom ⟨b, o, none⟩ i n acc).run P w = .ok (acc ++ us.toArray) w
  | 0, o, i, acc, us, hl, _ => by
    have : us = [] := List.eq_nil_of_length_eq_zero hl
    subst this
    simp [loadCellsFrom]
  | n + 1, o, i, acc, us, hl, h => by
    cases us with
    | nil => simp at hl
    | cons u us =>
      have h0 := h 0 u rfl
      simp only [Nat.add_zero] at h0
      have ih := run_loadCellsFrom P w b n o (i + 1) (acc.push u) us (by simpa using hl) (fun j u' hj => by
        have := h (j + 1) u' (by simpa using hj)
        rw [← this]; congr 2; omega)
      simp only [loadCellsFrom, Sem.run_bind, addr_add, run_load, h0, Result.andThen_ok, ih]
      congr 1
      apply Array.ext'
      simp
theorem run_loadCells (P : Program) (w : World) (b o : Nat) (us : List Value) (h : ∀ j u, us[j]? = some u → w.cell? ⟨b, o + j, none⟩ = some u) :
    (loadCells ⟨b, o, none⟩ us.length).run P w = .ok us.toArray w := by
  have := run_loadCellsFrom P w b us.length o 0 #[] us rfl (by simpa using h)
  simpa [loadCells] using this
structure RowTo (w w' : World) (b : Nat) (arr' : Array Value) (T : TypeId) (f : Nat × Nat) : Prop where
  os : w'.os = w.os
  tape : w'.tape = w.tape
  output : w'.output = w.output
  size : w'.heap.size = w.heap.size
  other : ∀ k, k ≠ b → w'.heap[k]? = w.heap[k]?
  row : w'.heap[b]? = some (.cells arr' T f)
def putVs : List Value → Nat → List Value → List Value
  | l, _, [] => l
  | l, o, v :: vs => putVs (l.set o v) (o + 1) vs
theorem length_putVs : ∀ (vs l : List Value) (o : Nat), (putVs l o vs).length = l.length
  | [], l, o => rfl
  | v :: vs, l, o => by simp only [putVs]; rw [length_putVs vs]; simp
theorem length_putAt : ∀ (vs l : List AV) (o : Nat), (putAt l o vs).length = l.length
  | [], l, o => rfl
  | v :: vs, l, o => by simp only [putAt]; rw [length_putAt vs]; simp
theorem relL_putAt {c : Ctx} {w : World} : ∀ (xs : List AV) (vs : List Value) (l : List AV) (us : List Value) (o : Nat), RelL c w l us → RelL c w xs vs → RelL c w (putAt l o xs) (putVs us o vs)
  | [], vs, l, us, o, h, h' => by simp only [RelL] at h'; subst h'; exact h
  | x :: xs, vs, l, us, o, h, h' => by
    simp only [RelL] at h'
    obtain ⟨v, vs', rfl, hv, h'⟩ := h'
    simp only [putAt, putVs]
    exact relL_putAt xs vs' _ _ _ (RelL.set o h hv) h'
theorem putVs_append : ∀ (vs us rest : List Value) (o : Nat), o + vs.length ≤ us.length → putVs (us ++ rest) o vs = putVs us o vs ++ rest
  | [], us, rest, o, _ => rfl
  | v :: vs, us, rest, o, h => by
    simp only [List.length_cons] at h
    simp only [putVs]
    rw [List.set_append_left o v (by omega)]
    exact putVs_append vs _ rest (o + 1) (by simp; omega)
theorem putVs_end : ∀ (vs us rest : List Value), vs.length ≤ rest.length → ∃ rest', putVs (us ++ rest) us.length vs = us ++ vs ++ rest' ∧ rest'.length = rest.length - vs.length
  | [], us, rest, _ => ⟨rest, by simp [putVs], by simp⟩
  | v :: vs, us, [], h => by simp at h
  | v :: vs, us, r :: rest, h => by
    simp only [putVs]
    rw [List.set_append_right us.length v (Nat.le_refl _)]
    simp only [Nat.sub_self, List.set_cons_zero]
    obtain ⟨rest', h1, h2⟩ := putVs_end vs (us ++ [v]) rest (by simpa using h)
    refine ⟨rest', ?_, by simp; omega⟩
    rw [show us ++ v :: rest = us ++ [v] ++ rest by simp, show us.length + 1 = (us ++ [v]).length by simp, h1]
    simp
theorem run_storeCells (P : Program) (b : Nat) (T : TypeId) (f : Nat × Nat) : ∀ (vs : List Value) (w : World) (arr : Array Value) (o i : Nat),
    w.heap[b]? = some (.cells arr T f) → NoFz arr.size f → (∀ v ∈ vs, v.oneCell' = true) → o + i + vs.length ≤ arr.size →
    ∃ w', (storeCells ⟨b, o, none⟩ vs i).run P w = .ok () w' ∧ RowTo w w' b (putVs arr.toList (o + i) vs).toArray T f
  | [], w, arr, o, i, hb, _, _, _ => ⟨w, by simp [storeCells], rfl, rfl, rfl, rfl, fun _ _ => rfl, by simpa [putVs] using hb⟩
  | v :: vs, w, arr, o, i, hb, hf, hv, hl => by
    have hlt : o + i < arr.size := by simp at hl; omega
    have hc : w.cell? ⟨b, o + i, none⟩ = some arr[o + i] := by rw [cell_of_row hb]; simp [hlt]
    have hfz := frozen_of_row hb hf hlt
    have hrow : (w.setCell ⟨b, o + i, none⟩ v).heap[b]? = some (.cells (arr.setIfInBounds (o + i) v) T f) := by
      simp only [World.setCell, Array.getElem?_modify, if_true, hb, Option.map_some]
      simp
    obtain ⟨w', hr, h⟩ := run_storeCells P b T f vs (w.setCell ⟨b, o + i, none⟩ v) (arr.setIfInBounds (o + i) v) o (i + 1) hrow (by simpa using hf)
      (fun u hu => hv u (List.mem_cons_of_mem _ hu)) (by simp at hl ⊢; omega)
    refine ⟨w', ?_, ?_⟩
    · simp only [storeCells, Sem.run_bind, addr_add, run_store P w _ v .plain (hv v List.mem_cons_self), hc, hfz, Result.andThen_ok, Bool.false_eq_true, if_false]
      exact hr
    · refine ⟨h.os, h.tape, h.output, h.size.trans (by simp), fun k hk => (h.other k hk).trans (RowKit.Below.heap_setCell _ _ _ _ hk), ?_⟩
      rw [h.row]
      simp only [putVs, Nat.add_assoc, Array.toList_setIfInBounds]
  termination_by vs => vs.length
def Ctx.bind (c : Ctx) (n : Nat) (s : Spot) : Ctx := { c with φ := fun i => if i = n then s else c.φ i }
theorem Ctx.bind_ne {c : Ctx} {n : Nat} {s : Spot} {id : Nat} (h : id ≠ n) : (c.bind n s).φ id = c.φ id := by simp [Ctx.bind, h]
theorem Ctx.bind_eq {c : Ctx} {n : Nat} {s : Spot} : (c.bind n s).φ n = s := by simp [Ctx.bind]
theorem ext_of_ne {c c' : Ctx} {n : Nat} (hn : c.φ n = .free) (h : ∀ id, id ≠ n → c'.φ id = c.φ id) : ∀ id, c.φ id ≠ .free → c'.φ id = c.φ id :=
  fun id hid => h id fun e => hid (e ▸ hn)
theorem OwnR.later {c c' : Ctx} {w w' : World} (hl : Later c c' w w') {id : Nat} {cells : List AV} (h : OwnR c w id cells)
    (hsame : ∀ b, c.φ id = .blk b → w'.heap[b]? = w.heap[b]? ∧ ¬ c'.imm b) : OwnR c' w' id cells := by
  rcases h with ⟨h0, h1⟩ | ⟨b, arr, T, f, hb, hi, hw, hf, vs, rest, ha, hr⟩
  · exact .inl ⟨by rw [hl.ext id (by rw [h0]; simp)]; exact h0, h1⟩
  · exact .inr ⟨b, arr, T, f, by rw [hl.ext id (by rw [hb]; simp)]; exact hb, (hsame b hb).2, by rw [(hsame b hb).1]; exact hw, hf, vs, rest, ha, relL_mono hl cells vs hr⟩
theorem MR.del {c : Ctx} {m : Mem} {w : World} (h : MR c m w) (id : Nat) : MR c (mdel m id) w where
  own := fun i cells hi => by rw [mget_mdel] at hi; split at hi; · simp at hi
                              · exact h.own i cells hi
  inj := fun i j b hi hj => by
    rw [mget_mdel] at hi hj
    split at hi
    · simp at hi
    · split at hj
      · simp at hj
      · exact h.inj i j b hi hj
  imm := h.imm
  tab := h.tab
theorem MR.not_free {c : Ctx} {m : Mem} {w : World} (h : MR c m w) {id : Nat} (hi : (mget m id).isSome) : c.φ id ≠ .free := by
  obtain ⟨cells, hc⟩ := Option.isSome_iff_exists.1 hi
  rcases h.own id cells hc with ⟨h0, _⟩ | ⟨b, _, _, _, hb, _⟩
  · rw [h0]; simp
  · rw [hb]; simp
theorem MR.blk_lt {c : Ctx} {m : Mem} {w : World} (h : MR c m w) {b : Nat} (ho : Own c m b) : b < w.heap.size := by
  obtain ⟨id, hid, hb⟩ := ho
  obtain ⟨cells, hc⟩ := Option.isSome_iff_exists.1 hid
  rcases h.own id cells hc with ⟨h0, _⟩ | ⟨b', arr, T, f, hb', _, hw, _⟩
  · rw [h0] at hb; cases hb
  · rw [hb'] at hb; cases hb
    rcases Nat.lt_or_ge b w.heap.size with h1 | h1
    · exact h1
    · rw [Array.getElem?_eq_none h1] at hw; cases hw
structure OneMore (w w' : World) (arr : Array Value) (T : TypeId) (f : Nat × Nat) : Prop where
  os : w'.os = w.os
  tape : w'.tape = w.tape
  output : w'.output = w.output
  size : w'.heap.size = w.heap.size + 1
  old : ∀ k, k < w.heap.size → w'.heap[k]? = w.heap[k]?
  row : w'.heap[w.heap.size]? = some (.cells arr T f)
theorem rowSize_eq {w w' : World} {b : Nat} (h : w'.heap[b]? = w.heap[b]?) : rowSize w' b = rowSize w b := by simp [rowSize, h]
theorem rowSize_lt {w : World} {b : Nat} {k : TypeId × Nat} (h : rowSize w b = some k) : b < w.heap.size := by
  rcases Nat.lt_or_ge b w.heap.size with h1 | h1
  · exact h1
  · simp [rowSize, Array.getElem?_eq_none h1] at h
theorem OneMore.rows {w w' : World} {arr : Array Value} {T : TypeId} {f : Nat × Nat} (h : OneMore w w' arr T f) : ∀ b n, rowSize w b = some n → rowSize w' b = some n :=
  fun b _ hn => (rowSize_eq (h.old b (rowSize_lt hn))).trans hn
theorem OneMore.later {c : Ctx} {m : Mem} {w w' : World} {arr : Array Value} {T : TypeId} {f : Nat × Nat} (h : OneMore w w' arr T f) (hm : MR c m w) {n : Nat} (hn : c.φ n = .free) :
    Later c (c.bind n (.blk w.heap.size)) w w' :=
  ⟨fun _ hb => hb, fun b hb => h.old b (hm.imm b hb), ext_of_ne hn fun _ hid => Ctx.bind_ne hid, h.rows⟩
theorem OneMore.step {c : Ctx} {m : Mem} {w w' : World} {arr : Array Value} {T : TypeId} {f : Nat × Nat} (h : OneMore w w' arr T f) (n : Nat) :
    Step (Own c m) c (c.bind n (.blk w.heap.size)) w w' :=
  ⟨h.os, h.tape, h.output, by rw [h.size]; omega, fun k hk _ => h.old k hk, h.rows, fun _ hb => hb, fun _ hb => .inl hb⟩
theorem MR.new {c : Ctx} {m : Mem} {w w' : World} {arr : Array Value} {T : TypeId} {f : Nat × Nat} (hm : MR c m w) (h : OneMore w w' arr T f) {n : Nat} (hn : c.φ n = .free)
    (hf : NoFz arr.size f) {cells : List AV} {vs rest : List Value} (ha : arr.toList = vs ++ rest) (hr : RelL c w cells vs) :
    MR (c.bind n (.blk w.heap.size)) (mset m n cells) w' where
  own := fun id cs hid => by
    have hl := h.later hm hn
    rw [mget_mset] at hid
    split at hid
    · rename_i e
      subst e
      cases hid
      exact .inr ⟨w.heap.size, arr, T, f, Ctx.bind_eq, fun hi => Nat.lt_irrefl _ (hm.imm _ hi), h.row, hf, vs, rest, ha, relL_mono hl _ _ hr⟩
    · refine (hm.own id cs hid).later hl fun b hb => ⟨h.old b (hm.blk_lt ⟨id, by rw [hid]; rfl, hb⟩), fun hi => hm.sep hi ⟨id, by rw [hid]; rfl, hb⟩⟩
  inj := fun i j b hi hj hib hjb => by
    rw [mget_mset] at hi hj
    by_cases e1 : n = i
    · by_cases e2 : n = j
      · exact e1.symm.trans e2
      · exfalso
        subst e1
        rw [Ctx.bind_eq] at hib
        cases hib
        rw [if_neg e2] at hj
        rw [Ctx.bind_ne (Ne.symm e2)] at hjb
        exact Nat.lt_irrefl _ (hm.blk_lt ⟨j, hj, hjb⟩)
    · by_cases e2 : n = j
      · exfalso
        subst e2
        rw [Ctx.bind_eq] at hjb
        cases hjb
        rw [if_neg e1] at hi
        rw [Ctx.bind_ne (Ne.symm e1)] at hib
        exact Nat.lt_irrefl _ (hm.blk_lt ⟨i, hi, hib⟩)
      · rw [if_neg e1] at hi
        rw [if_neg e2] at hj
        rw [Ctx.bind_ne (Ne.symm e1)] at hib
        rw [Ctx.bind_ne (Ne.symm e2)] at hjb
        exact hm.inj i j b hi hj hib hjb
  imm := fun b hb => by rw [h.size]; exact Nat.lt_succ_of_lt (hm.imm b hb)
  tab := hm.tabTo (h.later hm hn).imm (h.later hm hn).same
theorem own_new {c : Ctx} {m : Mem} {w : World} {n : Nat} {cells : List AV} {b : Nat} (h : Own (c.bind n (.blk w.heap.size)) (mset m n cells) b) : Own c m b ∨ w.heap.size ≤ b := by
  obtain ⟨id, hid, hb⟩ := h
  rw [mget_mset] at hid
  by_cases e : n = id
  · subst e; rw [Ctx.bind_eq] at hb; cases hb; exact .inr (Nat.le_refl _)
  · rw [if_neg e] at hid; rw [Ctx.bind_ne (Ne.symm e)] at hb; exact .inl ⟨id, hid, hb⟩
theorem oneMore_alloc (w : World) (arr : Array Value) (T : TypeId) : OneMore w (w.alloc (.cells arr T)) arr T (0, 0) :=
  ⟨rfl, rfl, rfl, by simp, fun k hk => RowKit.Below.heap_alloc w _ k hk, by simp only [World.alloc, Array.getElem?_push_size]⟩
theorem noFz_zero (n : Nat) : NoFz n (0, 0) := .inl rfl
theorem RowTo.later {c : Ctx} {w w' : World} {b : Nat} {arr arr' : Array Value} {T : TypeId} {f : Nat × Nat} (h : RowTo w w' b arr' T f)
    (hb : w.heap[b]? = some (.cells arr T f)) (hs : arr'.size = arr.size) (hi : ¬ c.imm b) : Later c c w w' := by
  refine ⟨fun _ h => h, fun k hk => h.other k fun e => hi (e ▸ hk), fun _ _ => rfl, fun k n hn => ?_⟩
  by_cases e : k = b
  · subst e; rw [rowSize_of_row hb] at hn; rw [rowSize_of_row h.row, hs]; exact hn
  · rw [rowSize_eq (h.other k e)]; exact hn
theorem RowTo.step {c : Ctx} {m : Mem} {w w' : World} {b : Nat} {arr arr' : Array Value} {T : TypeId} {f : Nat × Nat} (h : RowTo w w' b arr' T f)
    (hb : w.heap[b]? = some (.cells arr T f)) (hs : arr'.size = arr.size) (ho : Own c m b) : Step (Own c m) c c w w' :=
  ⟨h.os, h.tape, h.output, by rw [h.size]; exact Nat.le_refl _, fun k _ hk => h.other k fun e => hk (e ▸ ho), fun k n hn => by
    by_cases e : k = b
    · subst e; rw [rowSize_of_row hb] at hn; rw [rowSize_of_row h.row, hs]; exact hn
    · rw [rowSize_eq (h.other k e)]; exact hn, fun _ h => h, fun _ h => .inl h⟩
theorem MR.put {c : Ctx} {m : Mem} {w w' : World} {id b : Nat} {arr arr' : Array Value} {T : TypeId} {f : Nat × Nat} {old cells : List AV} {vs rest : List Value} (hm : MR c m w)
    (hid : mget m id = some old) (hφ : c.φ id = .blk b) (h : RowTo w w' b arr' T f) (hb : w.heap[b]? = some (.cells arr T f)) (hs : arr'.size = arr.size) (hi : ¬ c.imm b)
    (hf : NoFz arr.size f) (ha : arr'.toList = vs ++ rest) (hr : RelL c w cells vs) : MR c (mset m id cells) w' where
  own := fun i cs hi' => by
    have hl := h.later hb hs hi
    rw [mget_mset] at hi'
    split at hi'
    · rename_i e
      subst e
      cases hi'
      exact .inr ⟨b, arr', T, f, hφ, hi, h.row, by rw [hs]; exact hf, vs, rest, ha, relL_mono hl _ _ hr⟩
    · rename_i e
      refine (hm.own i cs hi').later hl fun b' hb' => ⟨h.other b' fun eb => e ?_, fun him => hm.sep him ⟨i, by rw [hi']; rfl, hb'⟩⟩
      exact hm.inj id i b (by rw [hid]; rfl) (by rw [hi']; rfl) hφ (eb ▸ hb')
  inj := fun i j b' hi' hj' => by
    rw [mget_mset] at hi' hj'
    refine hm.inj i j b' ?_ ?_
    · split at hi'
      · rename_i e; subst e; rw [hid]; rfl
      · exact hi'
    · split at hj'
      · rename_i e; subst e; rw [hid]; rfl
      · exact hj'
  imm := fun k hk => by rw [h.size]; exact hm.imm k hk
  tab := hm.tabTo (h.later hb hs hi).imm (h.later hb hs hi).same
theorem own_put {c : Ctx} {m : Mem} {id : Nat} {old cells : List AV} (hid : mget m id = some old) {b : Nat} (h : Own c (mset m id cells) b) : Own c m b := by
  obtain ⟨i, hi, hb⟩ := h
  rw [mget_mset] at hi
  by_cases e : id = i
  · subst e; exact ⟨id, by rw [hid]; rfl, hb⟩
  · rw [if_neg e] at hi; exact ⟨i, hi, hb⟩
theorem MR.again {c : Ctx} {m : Mem} {w : World} {id n : Nat} {cells : List AV} (hm : MR c m w) (hid : mget m id = some cells) (hn : c.φ n = .free) (s : Spot) (hs : c.φ id = s) :
    MR (c.bind n s) (mset (mdel m id) n cells) w where
  own := fun i cs hi => by
    have hl : Later c (c.bind n s) w w := ⟨fun _ h => h, fun _ _ => rfl, ext_of_ne hn fun _ h => Ctx.bind_ne h, fun _ _ h => h⟩
    rw [mget_mset] at hi
    split at hi
    · rename_i e
      subst e
      cases hi
      have h := hm.own id cells hid
      unfold OwnR at *
      rw [Ctx.bind_eq]
      rw [hs] at h
      rcases h with h | ⟨b, arr, T, f, h1, h2, h3, h4, vs, rest, h5, h6⟩
      · exact .inl h
      · exact .inr ⟨b, arr, T, f, h1, h2, h3, h4, vs, rest, h5, relL_mono hl _ _ h6⟩
    · rw [mget_mdel] at hi
      split at hi
      · simp at hi
      · exact (hm.own i cs hi).later hl fun b hb => ⟨rfl, fun him => hm.sep him ⟨i, by rw [hi]; rfl, hb⟩⟩
  inj := fun i j b hi hj hib hjb => by
    rw [mget_mset, mget_mdel] at hi hj
    have hid' : (mget m id).isSome := by rw [hid]; rfl
    by_cases e1 : n = i
    · by_cases e2 : n = j
      · exact e1.symm.trans e2
      · exfalso
        subst e1
        rw [Ctx.bind_eq] at hib
        rw [if_neg e2] at hj
        rw [Ctx.bind_ne (Ne.symm e2)] at hjb
        by_cases e3 : id = j
        · rw [if_pos e3] at hj; simp at hj
        · rw [if_neg e3] at hj; exact e3 (hm.inj id j b hid' hj (hs.trans hib) hjb)
    · by_cases e2 : n = j
      · exfalso
        subst e2
        rw [Ctx.bind_eq] at hjb
        rw [if_neg e1] at hi
        rw [Ctx.bind_ne (Ne.symm e1)] at hib
        by_cases e3 : id = i
        · rw [if_pos e3] at hi; simp at hi
        · rw [if_neg e3] at hi; exact e3 (hm.inj id i b hid' hi (hs.trans hjb) hib)
      · rw [if_neg e1] at hi
        rw [if_neg e2] at hj
        rw [Ctx.bind_ne (Ne.symm e1)] at hib
        rw [Ctx.bind_ne (Ne.symm e2)] at hjb
        split at hi
        · simp at hi
        · split at hj
          · simp at hj
          · exact hm.inj i j b hi hj hib hjb
  imm := hm.imm
  tab := hm.tab
theorem own_again {c : Ctx} {m : Mem} {id n : Nat} {cells : List AV} (hid : (mget m id).isSome) {s : Spot} (hs : c.φ id = s) {b : Nat} (h : Own (c.bind n s) (mset (mdel m id) n cells) b) : Own c m b := by
  obtain ⟨i, hi, hb⟩ := h
  rw [mget_mset] at hi
  by_cases e : n = i
  · subst e; rw [Ctx.bind_eq] at hb; exact ⟨id, hid, hs.trans hb⟩
  · rw [if_neg e, mget_mdel] at hi
    rw [Ctx.bind_ne (Ne.symm e)] at hb
    split at hi
    · simp at hi
    · exact ⟨i, hi, hb⟩
theorem own_del {c : Ctx} {m : Mem} {id b : Nat} (h : Own c (mdel m id) b) : Own c m b := by
  obtain ⟨i, hi, hb⟩ := h
  rw [mget_mdel] at hi
  split at hi
  · simp at hi
  · exact ⟨i, hi, hb⟩
end Go.Jq
namespace Go.Jq
open Go
def Outc (P : Program) (s : Sem Next) (c : Ctx) (m : Mem) (n : Nat) (w : World) (v : AV) (e : Eff) : Prop :=
  ∃ r w' c', s.run P w = .ok r w' ∧ ((∃ u, r = .value u ∧ Rel c' w' v u) ∨ (r = .skip ∧ v = .any)) ∧ MR c' (e.mem m n) w' ∧ Step (Own c m) c c' w w' ∧
    (∀ id, (id ≠ n ∨ e.next n = n) → c'.φ id = c.φ id) ∧ (∀ b, Own c' (e.mem m n) b → Own c m b ∨ w.heap.size ≤ b)
section
variable {P : Program} {c : Ctx} {m : Mem} {n : Nat} {w : World} {t : Fr} {a : Act}
theorem outc_pure {s : Sem Value} {u : Value} {v : AV} (hM : MR c m w) (hs : s.run P w = .ok u w) (hr : Rel c w v u) :
    Outc P (do pure (.value (← s))) c m n w v .nil :=
  ⟨.value u, w, c, by simp [hs], .inl ⟨u, rfl, hr⟩, hM, Step.refl _ _ _, fun _ _ => rfl, fun _ h => .inl h⟩
theorem outc_val {u : Value} {v : AV} (hM : MR c m w) (hr : Rel c w v u) : Outc P (pure (.value u)) c m n w v .nil :=
  ⟨.value u, w, c, by simp, .inl ⟨u, rfl, hr⟩, hM, Step.refl _ _ _, fun _ _ => rfl, fun _ h => .inl h⟩
theorem outc_new {s : Sem Value} {u : Value} {v : AV} {w' : World} {arr : Array Value} {T : TypeId} {f : Nat × Nat} {cells : List AV} {vs rest : List Value} (hM : MR c m w) (hn : c.φ n = .free)
    (hs : s.run P w = .ok u w') (h : OneMore w w' arr T f) (hf : NoFz arr.size f) (ha : arr.toList = vs ++ rest) (hr : RelL c w cells vs)
    (hv : Rel (c.bind n (.blk w.heap.size)) w' v u) : Outc P (do pure (.value (← s))) c m n w v (.new cells) :=
  ⟨.value u, w', c.bind n (.blk w.heap.size), by simp [hs], .inl ⟨u, rfl, hv⟩, hM.new h hn hf ha hr, h.step n, fun _ h => Ctx.bind_ne (h.resolve_right (by simp [Eff.next])), fun _ h => own_new h⟩
theorem rel_cval1 (v : Value) : Rel c w (cval1 v) v := by
  unfold cval1
  split <;> simp [Rel, RelD]
theorem relL_cval1 : ∀ (vs : List Value), RelL c w (vs.map cval1) vs
  | [] => by simp [RelL]
  | v :: vs => by simp only [List.map_cons, RelL]; exact ⟨v, vs, rfl, rel_cval1 v, relL_cval1 vs⟩
theorem rel_cval (v : Value) : Rel c w (cval v) v := by
  unfold cval
  split
  · rename_i cs
    simp only [Rel]
    exact ⟨cs.toList, by simp, relL_cval1 _⟩
  · exact rel_cval1 v
theorem rel_ev (hF : FR c w t a.tmps) (x : Operand) : Rel c w (ev t (cOpd x)) (a.eval x) := by
  cases x with
  | tmp i => exact hF i
  | const v => exact rel_cval v
  | global g => simp [cOpd, ev, Rel]
  | func f => simp only [cOpd, ev, Rel, Act.eval, RelL]; exact ⟨[], by simp, rfl⟩
theorem relL_ev (hF : FR c w t a.tmps) : ∀ (xs : List Operand), RelL c w ((xs.map cOpd).map (ev t)) (xs.map a.eval)
  | [] => by simp [RelL]
  | x :: xs => by simp only [List.map_cons, RelL]; exact ⟨_, _, rfl, rel_ev hF x, relL_ev hF xs⟩
theorem rel_cells {x : AV} {v : Value} {cs : List AV} (h : Rel c w x v) (hc : cellsOf x = some cs) : ∃ vs, v.cells = vs.toArray ∧ RelL c w cs vs := by
  cases x with
  | d x =>
    simp only [cellsOf, Option.some.injEq] at hc
    subst hc
    refine ⟨[v], ?_, by simp only [RelL]; exact ⟨v, [], rfl, h, rfl⟩⟩
    simp only [Rel] at h
    cases x <;> simp only [RelD] at h
    case sl => obtain ⟨a, cap, rfl, _⟩ := h; rfl
    all_goals (subst h; rfl)
  | ptr id off =>
    simp only [cellsOf, Option.some.injEq] at hc
    subst hc
    refine ⟨[v], ?_, by simp only [RelL]; exact ⟨v, [], rfl, h, rfl⟩⟩
    simp only [Rel] at h
    obtain ⟨b, _, rfl⟩ := h
    rfl
  | npt id T =>
    simp only [cellsOf, Option.some.injEq] at hc
    subst hc
    refine ⟨[v], ?_, by simp only [RelL]; exact ⟨v, [], rfl, h, rfl⟩⟩
    simp only [Rel] at h
    obtain ⟨rfl, _⟩ := h
    rfl
  | dptr cells =>
    simp only [cellsOf, Option.some.injEq] at hc
    subst hc
    refine ⟨[v], ?_, by simp only [RelL]; exact ⟨v, [], rfl, h, rfl⟩⟩
    simp only [Rel] at h
    obtain ⟨b, o, _, rfl, _⟩ := h
    rfl
  | sl id esz off len =>
    simp only [cellsOf, Option.some.injEq] at hc
    subst hc
    refine ⟨[v], ?_, by simp only [RelL]; exact ⟨v, [], rfl, h, rfl⟩⟩
    simp only [Rel] at h
    rcases h with ⟨_, _, _, rfl⟩ | ⟨b, cap, n, _, rfl, _⟩ <;> rfl
  | slT id T len =>
    simp only [cellsOf, Option.some.injEq] at hc
    subst hc
    refine ⟨[v], ?_, by simp only [RelL]; exact ⟨v, [], rfl, h, rfl⟩⟩
    simp only [Rel] at h
    rcases h with ⟨_, _, rfl⟩ | ⟨b, cap, n, _, rfl, _⟩ <;> rfl
  | fn f cap =>
    simp only [cellsOf, Option.some.injEq] at hc
    subst hc
    refine ⟨[v], ?_, by simp only [RelL]; exact ⟨v, [], rfl, h, rfl⟩⟩
    simp only [Rel] at h
    obtain ⟨vs, rfl, _⟩ := h
    rfl
  | agg cells =>
    simp only [cellsOf, Option.some.injEq] at hc
    subst hc
    simp only [Rel] at h
    obtain ⟨vs, rfl, h⟩ := h
    exact ⟨vs, rfl, h⟩
  | tup vs => simp [cellsOf] at hc
  | any => simp [cellsOf] at hc
theorem rel_one {x : AV} {v : Value} (h : Rel c w x v) (hx : oneB x = true) : v.oneCell' = true := by
  cases x with
  | d x =>
    simp only [Rel] at h
    cases x <;> simp only [RelD] at h
    case sl => obtain ⟨a, cap, rfl, _⟩ := h; rfl
    all_goals (subst h; rfl)
  | ptr id off => simp only [Rel] at h; obtain ⟨b, _, rfl⟩ := h; rfl
  | npt id T => simp only [Rel] at h; obtain ⟨rfl, _⟩ := h; rfl
  | dptr cells => simp only [Rel] at h; obtain ⟨b, o, _, rfl, _⟩ := h; rfl
  | sl id esz off len => simp only [Rel] at h; rcases h with ⟨_, _, _, rfl⟩ | ⟨b, cap, n, _, rfl, _⟩ <;> rfl
  | slT id T len => simp only [Rel] at h; rcases h with ⟨_, _, rfl⟩ | ⟨b, cap, n, _, rfl, _⟩ <;> rfl
  | fn f cap => simp only [Rel] at h; obtain ⟨vs, rfl, _⟩ := h; rfl
  | agg cells => simp [oneB] at hx
  | tup vs => simp [oneB] at hx
  | any => simp [oneB] at hx
theorem relL_one {xs : List AV} {vs : List Value} (h : RelL c w xs vs) (hx : xs.all oneB = true) : ∀ v ∈ vs, v.oneCell' = true := by
  intro v hv
  obtain ⟨i, hi⟩ := List.getElem?_of_mem hv
  have hl := h.length
  have hlt : i < xs.length := by
    have := (List.getElem?_eq_some_iff.1 hi).1
    omega
  obtain ⟨u, hu, hr⟩ := h.get (i := i) (x := xs[i]) (by simp [hlt])
  rw [hi] at hu
  cases hu
  exact rel_one hr (List.all_eq_true.1 hx _ (List.getElem_mem hlt))
def CellsAt (c : Ctx) (w : World) (b o : Nat) (cells : List AV) : Prop := ∀ (i : Nat) (x : AV), cells[i]? = some x → ∃ u, w.cell? ⟨b, o + i, none⟩ = some u ∧ Rel c w x u
theorem cellsAt_own {id b : Nat} {cells : List AV} (hM : MR c m w) (hid : mget m id = some cells) (hφ : c.φ id = .blk b) (off : Nat) : CellsAt c w b off (cells.drop off) := by
  intro i x hx
  rcases hM.own id cells hid with ⟨h0, _⟩ | ⟨b', arr, T, f, hb, _, hw, _, vs, rest, ha, hr⟩
  · rw [h0] at hφ; cases hφ
  · rw [hb] at hφ
    cases hφ
    rw [List.getElem?_drop] at hx
    obtain ⟨v, hv, hrel⟩ := hr.get hx
    refine ⟨v, ?_, hrel⟩
    rw [cell_of_row hw, ← Array.getElem?_toList, ha, List.getElem?_append_left (List.getElem?_eq_some_iff.1 hv).1]
    exact hv
theorem cellsAt_data {b o : Nat} {cells : List DV} (h : RelDs c.imm w cells b o) : CellsAt c w b o (cells.map .d) := by
  intro i x hx
  rw [List.getElem?_map] at hx
  cases hc : cells[i]? with
  | none => rw [hc] at hx; simp at hx
  | some d =>
    rw [hc] at hx
    simp at hx
    subst hx
    obtain ⟨u, hu, hr⟩ := h.get hc
    exact ⟨u, hu, by simp only [Rel]; exact hr⟩
theorem cellsAt_vals {b o : Nat} {cells : List AV} (h : CellsAt c w b o cells) (k : Nat) (hk : k ≤ cells.length) :
    ∃ us : List Value, us.length = k ∧ (∀ j u, us[j]? = some u → w.cell? ⟨b, o + j, none⟩ = some u) ∧ RelL c w (cells.take k) us := by
  induction k with
  | zero => exact ⟨[], rfl, by simp, by simp [RelL]⟩
  | succ k ih =>
    obtain ⟨us, hl, hc, hr⟩ := ih (by omega)
    obtain ⟨u, hu, hrel⟩ := h k cells[k] (by simp)
    refine ⟨us ++ [u], by simp [hl], fun j v hj => ?_, ?_⟩
    · rcases Nat.lt_or_ge j us.length with h1 | h1
      · rw [List.getElem?_append_left h1] at hj; exact hc j v hj
      · rw [List.getElem?_append_right h1] at hj
        have : j = k := by
          have := (List.getElem?_eq_some_iff.1 hj).1
          simp at this
          omega
        subst this
        rw [hl] at hj
        simp at hj
        rw [← hj]; exact hu
    · rw [List.take_succ_eq_append_getElem (by omega)]
      exact hr.append (by simp only [RelL]; exact ⟨u, [], rfl, hrel, rfl⟩)
theorem ldk_spec {T : TypeId} {k : Option Nat} (h : ldk P T = some k) :
    (∃ i, P.info? T = some i ∧ k = some i.size ∧ ∀ w, (isAgg T).run P w = .ok true w) ∨ (k = none ∧ ∀ w, (isAgg T).run P w = .ok false w) := by
  unfold ldk at h
  split at h
  · rename_i i fs h1 h2
    cases h
    exact .inl ⟨i, h1, rfl, fun w => by simp [isAgg, underlying, h2]⟩
  · rename_i i n e h1 h2
    cases h
    exact .inl ⟨i, h1, rfl, fun w => by simp [isAgg, underlying, h2]⟩
  · rename_i i d hn1 hn2 h1 h2
    cases h
    refine .inr ⟨rfl, fun w => ?_⟩
    simp only [isAgg, underlying, Sem.run_bind, run_program, Result.andThen_ok, h2]
    cases d <;> first | rfl | (exact absurd rfl (hn1 _)) | (exact absurd rfl (hn2 _ _)) | (exact absurd h2 (hn1 _ _ h1)) | (exact absurd h2 (hn2 _ _ _ h1)) | (exact (hn1 _ _ h1 h2).elim) | (exact (hn2 _ _ _ h1 h2).elim)
  · cases h
theorem run_sizeOf {T : TypeId} {i : TypeInfo} (h : P.info? T = some i) : (sizeOf T).run P w = .ok i.size w := by
  simp [sizeOf, typeInfo, h]
theorem run_loadVar {T : TypeId} {k : Option Nat} (hk : ldk P T = some k) {b o : Nat} {cells : List AV} (h : CellsAt c w b o cells) {v : AV} (hv : loadA k cells = some v) :
    ∃ u, (loadVar T ⟨b, o, none⟩).run P w = .ok u w ∧ Rel c w v u := by
  rcases ldk_spec hk with ⟨i, hi, rfl, hagg⟩ | ⟨rfl, hagg⟩
  · simp only [loadA] at hv
    split at hv
    · rename_i hle
      cases hv
      obtain ⟨us, hl, hc, hr⟩ := cellsAt_vals h i.size hle
      refine ⟨.agg us.toArray, ?_, by simp only [Rel]; exact ⟨us, rfl, hr⟩⟩
      have hlc := run_loadCells P w b o us hc
      rw [hl] at hlc
      simp only [loadVar, Sem.run_bind, hagg, Result.andThen_ok, if_true, run_sizeOf hi, hlc, Sem.run_pure]
    · cases hv
  · simp only [loadA] at hv
    obtain ⟨u, hu, hr⟩ := h 0 v hv
    refine ⟨u, ?_, hr⟩
    simp only [Nat.add_zero] at hu
    simp only [loadVar, Sem.run_bind, hagg, Result.andThen_ok, run_load, hu, Bool.false_eq_true, if_false]
theorem outc_load {T : TypeId} {k : Option Nat} {x : Operand} (hk : ldk P T = some k) (hF : FR c w t a.tmps) (hM : MR c m w) {v : AV} {e : Eff}
    (he : aevN (.load k (cOpd x)) t m n = some (v, e)) : Outc P (do pure (.value (← Instr.loadAt T (a.eval x)))) c m n w v e := by
  have hx := rel_ev hF x
  simp only [aevN] at he
  split at he
  · rename_i id off hev
    rw [hev] at hx
    simp only [Rel] at hx
    obtain ⟨b, hb, hv⟩ := hx
    split at he
    · rename_i cs hcs
      rw [Option.map_eq_some_iff] at he
      obtain ⟨v', hl, he⟩ := he
      cases he
      obtain ⟨u, hu, hr⟩ := run_loadVar hk (cellsAt_own hM hcs hb off) hl
      exact outc_pure hM (by simp only [Instr.loadAt, hv, Instr.sureAddr, Sem.run_bind, Sem.run_pure, Result.andThen_ok, hu]) hr
    · cases he
  · rename_i cs hev
    rw [hev] at hx
    simp only [Rel] at hx
    obtain ⟨b, o, hb, hv, hc⟩ := hx
    rw [Option.map_eq_some_iff] at he
    obtain ⟨v', hl, he⟩ := he
    cases he
    obtain ⟨u, hu, hr⟩ := run_loadVar hk (cellsAt_data hc) hl
    exact outc_pure hM (by simp only [Instr.loadAt, hv, Instr.sureAddr, Sem.run_bind, Sem.run_pure, Result.andThen_ok, hu]) hr
  · cases he
theorem outc_store {T : TypeId} {i : TypeInfo} {x y : Operand} (hi : P.info? T = some i) (hF : FR c w t a.tmps) (hM : MR c m w) {v : AV} {e : Eff}
    (he : aevN (.store i.size (cOpd x) (cOpd y)) t m n = some (v, e)) : Outc P (do Instr.storeAt T (a.eval x) (a.eval y); pure .skip) c m n w v e := by
  have hx := rel_ev hF x
  have hy := rel_ev hF y
  simp only [aevN] at he
  split at he
  · rename_i id off vs hev hcs
    rw [hev] at hx
    obtain ⟨us, hus, hrl⟩ := rel_cells hy hcs
    simp only [Rel] at hx
    obtain ⟨b, hb, hv⟩ := hx
    split at he
    · rename_i cs hm
      split at he
      · rename_i hcond
        obtain ⟨h1, h2, h3⟩ := hcond
        cases he
        rcases hM.own id cs hm with ⟨h0, _⟩ | ⟨b', arr, T', f, hb', hni, hw, hf, vs', rest, ha, hr⟩
        · rw [h0] at hb; cases hb
        · rw [hb'] at hb
          cases hb
          have hlen := hr.length
          have hus1 := hrl.length
          have hsz : arr.size = vs'.length + rest.length := by rw [← Array.length_toList, ha, List.length_append]
          obtain ⟨w', hrun, hto⟩ := run_storeCells P b T' f us w arr off 0 hw hf (relL_one hrl h2) (by omega)
          have hs : (putVs arr.toList (off + 0) us).toArray.size = arr.size := by simp [length_putVs]
          refine ⟨.skip, w', c, ?_, .inr ⟨rfl, rfl⟩, ?_, hto.step hw hs ⟨id, by rw [hm]; rfl, hb'⟩, fun _ _ => rfl, fun b hb => .inl (own_put hm hb)⟩
          · have h4 : us.length = i.size := by omega
            simp only [Instr.storeAt, hv, Instr.sureAddr, storeVar, Sem.run_bind, Sem.run_pure, Result.andThen_ok, run_sizeOf hi, hus]
            simp [h4, hrun]
          · refine hM.put hm hb' hto hw hs hni hf (vs := putVs vs' off us) (rest := rest) ?_ (relL_putAt vs us cs vs' off hr hrl)
            simp only [ha, Nat.add_zero]
            rw [putVs_append us vs' rest off (by omega)]
      · cases he
    · cases he
  · cases he
theorem MR.recell {c : Ctx} {m : Mem} {w : World} {n : Nat} {z z' : List AV} (hM : MR c (mset m n z) w) (h : OwnR c w n z') : MR c (mset m n z') w where
  own := fun id cs hid => by
    rw [mget_mset] at hid
    split at hid
    · rename_i e; subst e; cases hid; exact h
    · rename_i e; exact hM.own id cs (by rw [mget_mset, if_neg e]; exact hid)
  inj := fun i j b hi hj => by
    have key : ∀ i, (mget (mset m n z') i).isSome → (mget (mset m n z) i).isSome := fun i h => by
      rw [mget_mset] at h ⊢
      split at h
      · rename_i e; rw [if_pos e]; rfl
      · rename_i e; rw [if_neg e]; exact h
    exact hM.inj i j b (key i hi) (key j hj)
  imm := hM.imm
  tab := hM.tab
theorem outc_alloc {T : TypeId} {z : List AV} (hz : zeroOf P T = some z) (hM : MR c m w) (hn : c.φ n = .free) :
    Outc P (do pure (.value (← Instr.alloc T true (.tuple #[])))) c m n w (.ptr n 0) (.new (fixZ n (markZ T z))) := by
  unfold zeroOf at hz
  split at hz
  · rename_i i hi
    split at hz
    · rename_i zv hzv
      cases hz
      have hone := oneMore_alloc w zv.cells T
      have hrun : (Instr.alloc T true (.tuple #[])).run P w = .ok (.pointer (some ⟨w.heap.size, 0, none⟩)) (w.alloc (.cells zv.cells T)) := by
        simp [Instr.alloc, zeroValue, typeInfo, hi, hzv, newVar, newRow]
      have hnew := hM.new (cells := zv.cells.toList.map cval1) hone hn (noFz_zero _) (vs := zv.cells.toList) (rest := []) (by simp) (relL_cval1 _)
      refine ⟨.value (.pointer (some ⟨w.heap.size, 0, none⟩)), w.alloc (.cells zv.cells T), c.bind n (.blk w.heap.size), by simp [hrun], .inl ⟨_, rfl, by simp only [Rel]; exact ⟨w.heap.size, Ctx.bind_eq, rfl⟩⟩, ?_, hone.step n, fun _ h => Ctx.bind_ne (h.resolve_right (by simp [Eff.next])), fun _ h => own_new h⟩
      show MR _ (mset m n (fixZ n (markZ T (zv.cells.toList.map cval1)))) _
      refine hnew.recell ?_
      have hsame : fixZ n (markZ T (zv.cells.toList.map cval1)) = zv.cells.toList.map cval1 ∨ (zv.cells.toList.map cval1 = [.d .nptr, .d .nsl] ∧ fixZ n (markZ T (zv.cells.toList.map cval1)) = [.npt n T, .d .nsl]) := by
        unfold markZ
        split
        · rename_i h; exact .inr ⟨h, rfl⟩
        · refine .inl ?_
          unfold fixZ
          split
          · rename_i id T' r h
            cases hl : zv.cells.toList with
            | nil => rw [hl] at h; cases h
            | cons v l =>
              rw [hl] at h
              simp only [List.map_cons, List.cons.injEq] at h
              have := h.1
              unfold cval1 at this
              repeat' split at this
              all_goals cases this
          · rfl
      rcases hsame with h | ⟨h1, h2⟩
      · rw [h]
        exact hnew.own n _ (by rw [mget_mset, if_pos rfl])
      · rw [h2]
        have hr : RelL c w (zv.cells.toList.map cval1) zv.cells.toList := relL_cval1 _
        rw [h1] at hr
        simp only [RelL, Rel, RelD] at hr
        obtain ⟨v1, r1, e1, rfl, v2, r2, rfl, rfl, rfl⟩ := hr
        refine .inr ⟨w.heap.size, zv.cells, T, (0, 0), Ctx.bind_eq, fun hi => Nat.lt_irrefl _ (hM.imm _ hi), hone.row, noFz_zero _, [.pointer none, .slice none 0 0], [], by rw [e1]; rfl, ?_⟩
        simp only [RelL, Rel, RelD]
        refine ⟨_, _, rfl, ⟨rfl, w.heap.size, Ctx.bind_eq, ?_⟩, _, _, rfl, rfl, rfl⟩
        rw [rowSize_of_row hone.row]
        have hsz : zv.cells.size = 2 := by rw [← Array.length_toList, e1]; rfl
        rw [hsz]
    · cases hz
  · cases hz
theorem outc_box {T : TypeId} {x : Operand} (hF : FR c w t a.tmps) (hM : MR c m w) (hn : c.φ n = .free) {cs : List AV} (hcs : cellsOf (ev t (cOpd x)) = some cs) :
    Outc P (do pure (.value (← Instr.box T (a.eval x)))) c m n w (.ptr n 0) (.new cs) := by
  obtain ⟨vs, hvs, hr⟩ := rel_cells (rel_ev hF x) hcs
  refine outc_new (u := .pointer (some ⟨w.heap.size, 0, none⟩)) hM hn ?_ (oneMore_alloc w (a.eval x).cells T) (noFz_zero _) (vs := vs) (rest := []) (by simp [hvs]) hr
    (by simp only [Rel]; exact ⟨w.heap.size, Ctx.bind_eq, rfl⟩)
  simp [Instr.box, newVar, newRow]
end
end Go.Jq
namespace Go.Jq
open Go
section
variable {P : Program} {c : Ctx} {m : Mem} {n : Nat} {w : World} {t : Fr} {a : Act}
theorem putVs_fill (vs : List Value) : ∀ (cs : Array Value) (off j : Nat),
    (vs.zipIdx j).foldl (fun cs (p : Value × Nat) => cs.setIfInBounds (off + p.2) p.1) cs = (putVs cs.toList (off + j) vs).toArray := by
  induction vs with
  | nil => intro cs off j; simp [putVs]
  | cons v vs ih =>
    intro cs off j
    simp only [List.zipIdx_cons, List.foldl_cons, putVs]
    rw [ih, Array.toList_setIfInBounds, Nat.add_assoc]
theorem fill_one (cs : Array Value) (off : Nat) (vs : List Value) :
    vs.toArray.zipIdx.foldl (fun cs (c, j) => cs.setIfInBounds (off + j) c) cs = (putVs cs.toList off vs).toArray := by
  rw [← Array.foldl_toList]
  simp only [Array.toList_zipIdx]
  exact putVs_fill vs cs off 0
inductive PartsR (c : Ctx) (w : World) (place : Nat → Option (Nat × Nat)) : List (Nat × Nat × AV) → List (Nat × Value) → Prop where
  | nil : PartsR c w place [] []
  | cons {i off size : Nat} {x : AV} {v : Value} {ps : List (Nat × Nat × AV)} {vs : List (Nat × Value)} (hp : place i = some (off, size)) (hx : Rel c w x v) (h : PartsR c w place ps vs) :
      PartsR c w place ((off, size, x) :: ps) ((i, v) :: vs)
theorem partsR_of (hF : FR c w t a.tmps) {place : Nat → Option (Nat × Nat)} : ∀ (ps : List (Nat × Operand)) {qs : List (Nat × Nat × Opd)}, partsOf place ps = some qs →
    PartsR c w place (evParts t qs) (ps.map fun p => (p.1, a.eval p.2))
  | [], qs, h => by simp only [partsOf, Option.some.injEq] at h; subst h; exact .nil
  | (i, x) :: ps, qs, h => by
    simp only [partsOf] at h
    split at h
    · rename_i off size r' h1 h2
      cases h
      exact .cons h1 (rel_ev hF x) (partsR_of hF ps h2)
    · cases h
theorem fill_sound {place : Nat → Option (Nat × Nat)} {ps : List (Nat × Nat × AV)} {vs : List (Nat × Value)} (hp : PartsR c w place ps vs) :
    ∀ {cs : List AV} {us : List Value} {cs' : List AV}, RelL c w cs us → fillA cs ps = some cs' → ∃ us', Instr.fill place us.toArray vs = some us'.toArray ∧ RelL c w cs' us' := by
  induction hp with
  | nil => intro cs us cs' hr h; simp only [fillA, Option.some.injEq] at h; subst h; exact ⟨us, rfl, hr⟩
  | cons hpl hx _ ih =>
    intro cs us cs' hr h
    simp only [fillA] at h
    split at h
    · rename_i vs' hc
      split at h
      · rename_i hcond
        obtain ⟨h1, h2⟩ := hcond
        obtain ⟨ws, hws, hrl⟩ := rel_cells hx hc
        obtain ⟨us', hf, hr'⟩ := ih (relL_putAt vs' ws cs us _ hr hrl) h
        refine ⟨us', ?_, hr'⟩
        have hl1 := hrl.length
        have hl2 := hr.length
        simp only [Instr.fill, hpl, hws]
        rw [if_neg, fill_one]
        · exact hf
        · simp; omega
      · cases h
    · cases h
theorem relL_range {z : List AV} {us : List Value} (h : RelL c w z us) (k : Nat) (hz : k = 0 ∨ z.length ≠ 0) :
    RelL c w ((List.range k).map fun i => z.getD (i % z.length) .any) ((List.range k).map fun i => us.toArray[i % us.length]!) := by
  have hl := h.length
  refine RelL.of_get (by simp) fun i x v hx hv => ?_
  rw [List.getElem?_map] at hx hv
  by_cases hi : i < k
  · simp only [List.getElem?_range hi, Option.map_some, Option.some.injEq] at hx hv
    have hlt : i % z.length < z.length := Nat.mod_lt _ (by omega)
    obtain ⟨u, hu, hr⟩ := h.get (i := i % z.length) (x := z[i % z.length]) (by simp [hlt])
    rw [hl] at hv
    have h1 : us.toArray[i % z.length]! = u := by
      rw [Array.getElem!_eq_getD, Array.getD_eq_getD_getElem?, List.getElem?_toArray, hu]; rfl
    rw [h1] at hv
    subst hv
    rw [← hx]
    simpa [hlt] using hr
  · rw [List.getElem?_eq_none (by simpa using Nat.le_of_not_lt hi)] at hx; simp at hx
theorem run_zero {T : TypeId} {z : List AV} (hz : zeroOf P T = some z) : ∃ zv : Value, (zeroValue T).run P w = .ok zv w ∧ z = zv.cells.toList.map cval1 := by
  unfold zeroOf at hz
  split at hz
  · rename_i i hi
    split at hz
    · rename_i zv hzv
      cases hz
      exact ⟨zv, by simp [zeroValue, typeInfo, hi, hzv], rfl⟩
    · cases hz
  · cases hz
theorem run_places {fs : List Field} (h : ∀ f ∈ fs, (P.info? f.type).isSome) :
    (fs.mapM fun f => do pure (f.offset, ← sizeOf f.type) : Sem (List (Nat × Nat))).run P w = .ok (fs.map fun f => (f.offset, ((P.info? f.type).map (·.size)).getD 0)) w := by
  induction fs with
  | nil => simp
  | cons f fs ih =>
    obtain ⟨i, hi⟩ := Option.isSome_iff_exists.1 (h f List.mem_cons_self)
    have := ih fun g hg => h g (List.mem_cons_of_mem _ hg)
    simp only [List.mapM_cons, Sem.run_bind, run_sizeOf hi, Result.andThen_ok, Sem.run_pure, this, List.map_cons, hi, Option.map_some, Option.getD_some]
theorem outc_build {T : TypeId} {ps : Array (Nat × Operand)} {ao : AOp} (hc : cOp P (.build T ps) = some ao) (hF : FR c w t a.tmps) (hM : MR c m w) {v : AV} {e : Eff}
    (he : aevN ao t m n = some (v, e)) : Outc P (do pure (.value (← Instr.build T (ps.map fun (i, x) => (i, a.eval x))))) c m n w v e := by
  simp only [cOp] at hc
  split at hc
  · rename_i fs z hu hz
    split at hc
    · rename_i hall
      rw [Option.map_eq_some_iff] at hc
      obtain ⟨qs, hq, rfl⟩ := hc
      simp only [aevN, Option.map_eq_some_iff] at he
      obtain ⟨cs, hfl, he⟩ := he
      cases he
      obtain ⟨zv, hzv, rfl⟩ := run_zero (w := w) hz
      have hpl : ∀ i, fieldPlace' P fs i = (fs.map fun f => (f.offset, ((P.info? f.type).map (·.size)).getD 0))[i]? := by
        intro i
        unfold fieldPlace'
        rw [Array.getElem?_map]
        cases hfi : fs[i]? with
        | none => simp
        | some fd =>
          have := Array.all_eq_true_iff_forall_mem.1 hall fd (Array.mem_of_getElem? hfi)
          obtain ⟨i', hi'⟩ := Option.isSome_iff_exists.1 this
          simp [hi']
      obtain ⟨us', hf, hr⟩ := fill_sound (partsR_of hF ps.toList hq) (us := zv.cells.toList) (relL_cval1 _) hfl
      have hfun : fieldPlace' P fs = fun i => (fs.map fun f => (f.offset, ((P.info? f.type).map (·.size)).getD 0))[i]? := funext hpl
      rw [hfun] at hf
      refine outc_pure (u := .agg us'.toArray) hM ?_ (by simp only [Rel]; exact ⟨us', rfl, hr⟩)
      have hpl' : (fs.mapM fun f => do pure (f.offset, ← sizeOf f.type) : Sem (Array (Nat × Nat))).run P w = .ok (fs.map fun f => (f.offset, ((P.info? f.type).map (·.size)).getD 0)) w := by
        have := run_places (P := P) (w := w) (fs := fs.toList) fun f hf => Array.all_eq_true_iff_forall_mem.1 hall f (by simpa using hf)
        rw [← Array.toArray_toList (xs := fs)]
        rw [List.mapM_toArray]
        simp only [Sem.run_map, this, Result.andThen_ok]
        congr 1
        exact Array.ext' (by simp)
      simp only [Instr.build, Sem.run_bind, hzv, Result.andThen_ok, underlying, run_program, hu, hpl', Sem.run_pure]
      have hm : (Array.map (fun x => (x.fst, a.eval x.snd)) ps).toList = ps.toList.map fun p => (p.1, a.eval p.2) := by simp
      simp only [Array.toArray_toList] at hf
      simp only [hm, hf, Sem.run_pure]
    · cases hc
  · rename_i len e' z hu hz
    split at hc
    · rename_i i hi
      rw [Option.map_eq_some_iff] at hc
      obtain ⟨qs, hq, rfl⟩ := hc
      simp only [aevN, Option.map_eq_some_iff] at he
      obtain ⟨cs, hfl, he⟩ := he
      cases he
      obtain ⟨zv, hzv, rfl⟩ := run_zero (w := w) hz
      obtain ⟨us', hf, hr⟩ := fill_sound (partsR_of hF ps.toList hq) (us := zv.cells.toList) (relL_cval1 _) hfl
      refine outc_pure (u := .agg us'.toArray) hM ?_ (by simp only [Rel]; exact ⟨us', rfl, hr⟩)
      simp only [Instr.build, Sem.run_bind, hzv, Result.andThen_ok, underlying, run_program, hu, run_sizeOf hi, Sem.run_pure]
      have hm : (Array.map (fun x => (x.fst, a.eval x.snd)) ps).toList = ps.toList.map fun p => (p.1, a.eval p.2) := by simp
      simp only [Array.toArray_toList] at hf
      simp only [hm, hf, Sem.run_pure]
    · cases hc
  · cases hc
theorem outc_bslice {T len : Nat} {ps : Array (Nat × Operand)} {ao : AOp} (hc : cOp P (.buildSlice T len ps) = some ao) (hF : FR c w t a.tmps) (hM : MR c m w) (hn : c.φ n = .free) {v : AV} {e : Eff}
    (he : aevN ao t m n = some (v, e)) : Outc P (do pure (.value (← Instr.buildSlice T len (ps.map fun (i, x) => (i, a.eval x))))) c m n w v e := by
  simp only [cOp] at hc
  split at hc
  · rename_i el hu
    split at hc
    · rename_i i z hi hz
      split at hc
      · rename_i hcond
        obtain ⟨hzl, hle⟩ := hcond
        rw [Option.map_eq_some_iff] at hc
        obtain ⟨qs, hq, rfl⟩ := hc
        simp only [aevN, Option.map_eq_some_iff] at he
        obtain ⟨cs, hfl, he⟩ := he
        cases he
        obtain ⟨zv, hzv, hzz⟩ := run_zero (w := w) hz
        have hzr : RelL c w z zv.cells.toList := by rw [hzz]; exact relL_cval1 _
        have hzl2 := hzr.length
        have hz0 : len * i.size = 0 ∨ z.length ≠ 0 := by
          rcases Nat.eq_zero_or_pos (len * i.size) with h | h
          · exact .inl h
          · right
            intro h0
            rw [h0] at hzl
            rw [← hzl] at h
            simp at h
        obtain ⟨us', hf, hr⟩ := fill_sound (partsR_of hF ps.toList hq) (relL_range hzr (len * i.size) hz0) hfl
        have hlen' : us'.length = cs.length := hr.length
        have hcells : cs.length = len * i.size := by
          have : ∀ (qs : List (Nat × Nat × AV)) (cs cs' : List AV), fillA cs qs = some cs' → cs'.length = cs.length := by
            intro qs
            induction qs with
            | nil => intro cs cs' h; simp only [fillA, Option.some.injEq] at h; rw [h]
            | cons p qs ih =>
              obtain ⟨o, s, x⟩ := p
              intro cs cs' h
              simp only [fillA] at h
              split at h
              · split at h
                · rw [ih _ _ h, length_putAt]
                · cases h
              · cases h
          rw [this _ _ _ hfl]
          simp
        refine outc_new (u := .slice (some ⟨w.heap.size, 0, none⟩) len len) hM hn ?_ (oneMore_alloc w us'.toArray el) (noFz_zero _) (vs := us') (rest := []) (by simp) hr ?_
        · have hm : (Array.map (fun x => (x.fst, a.eval x.snd)) ps).toList = ps.toList.map fun p => (p.1, a.eval p.2) := by simp
          simp only [Instr.buildSlice, Sem.run_bind, underlying, run_program, Result.andThen_ok, hu, Sem.run_pure, run_sizeOf hi]
          rw [if_neg (by omega)]
          by_cases h0 : len * i.size = 0
          · rw [if_pos h0]
            rw [h0] at hf
            simp only [Sem.run_bind, Sem.run_pure, Result.andThen_ok, h0, show Array.range 0 = #[] from rfl, Array.map_empty]
            simp only [List.range_zero, List.map_nil] at hf
            simp only [hm, hf, Sem.run_bind, newRow, run_newObj, Result.andThen_ok, Sem.run_pure, World.alloc_eq]
          · rw [if_neg h0]
            have hmap : ((Array.range (len * i.size)).map fun x => zv.cells[x % zv.cells.size]!) = ((List.range (len * i.size)).map fun i => zv.cells.toList.toArray[i % zv.cells.toList.length]!).toArray := by
              apply Array.ext'
              simp only [Array.toList_map, Array.toList_range, Array.toArray_toList, Array.length_toList]
            simp only [Sem.run_bind, hzv, Sem.run_pure, Result.andThen_ok, hmap, hm, hf, newRow, run_newObj, World.alloc_eq]
        · simp only [Rel]
          refine .inr ⟨w.heap.size, len, (el, len * i.size), Ctx.bind_eq, rfl, Nat.le_refl _, ?_, by omega⟩
          rw [rowSize_of_row (oneMore_alloc w us'.toArray el).row]
          simp; omega
      · cases hc
    · cases hc
  · cases hc
end
end Go.Jq

/- The abstract layer: soundness of the operations. -/
namespace Go.Jq
open Go
section
variable {P : Program} {c : Ctx} {m : Mem} {n : Nat} {w : World} {t : Fr} {a : Act}
theorem rel_wrapI (k : IntKind) (x : Int) : Rel c w (wrapI k x) (.int k (k.wrap x)) := by simp [wrapI, Rel, RelD]
theorem rel_int (k : IntKind) (x : Int) : Rel c w (.d (.int k x)) (.int k x) := by simp [Rel, RelD]
theorem rel_boolA (b : Bool) : Rel c w (boolA b) (.bool b) := by simp [boolA, Rel, RelD]
theorem rel_str (s : List UInt8) : Rel c w (.d (.str s)) (.string ⟨s.toArray⟩) := by simp [Rel, RelD]
theorem rel_d_int {k : IntKind} {x : Int} {v : Value} (h : Rel c w (.d (.int k x)) v) : v = .int k x := by simpa [Rel, RelD] using h
theorem rel_d_bool {x : Bool} {v : Value} (h : Rel c w (.d (.bool x)) v) : v = .bool x := by simpa [Rel, RelD] using h
theorem rel_d_str {x : List UInt8} {v : Value} (h : Rel c w (.d (.str x)) v) : v = .string ⟨x.toArray⟩ := by simpa [Rel, RelD] using h
theorem rel_d_nsl {v : Value} (h : Rel c w (.d .nsl) v) : v = .slice none 0 0 := by simpa [Rel, RelD] using h
theorem rel_d_nptr {v : Value} (h : Rel c w (.d .nptr) v) : v = .pointer none := by simpa [Rel, RelD] using h
theorem rel_d_nfn {v : Value} (h : Rel c w (.d .nfn) v) : v = .nilFunc := by simpa [Rel, RelD] using h
theorem rel_ptr {id off : Nat} {v : Value} (h : Rel c w (.ptr id off) v) : ∃ b, c.φ id = .blk b ∧ v = .pointer (some ⟨b, off, none⟩) := by simpa [Rel] using h
theorem rel_dptr {cs : List DV} {v : Value} (h : Rel c w (.dptr cs) v) : ∃ b o, c.imm b ∧ v = .pointer (some ⟨b, o, none⟩) ∧ RelDs c.imm w cs b o := by simpa [Rel] using h
theorem rel_fn {f : Nat} {cs : List AV} {v : Value} (h : Rel c w (.fn f cs) v) : ∃ vs, v = .func (.func f) #[] vs.toArray ∧ RelL c w cs vs := by simpa [Rel] using h
theorem rel_agg {cs : List AV} {v : Value} (h : Rel c w (.agg cs) v) : ∃ vs, v = .agg vs.toArray ∧ RelL c w cs vs := by simpa [Rel] using h
theorem rel_tup {cs : List AV} {v : Value} (h : Rel c w (.tup cs) v) : ∃ vs, v = .tuple vs.toArray ∧ RelL c w cs vs := by simpa [Rel] using h
theorem outc_mv {x : Operand} (hF : FR c w t a.tmps) (hM : MR c m w) : Outc P (pure (.value (a.eval x))) c m n w (ev t (cOpd x)) .nil :=
  outc_val hM (rel_ev hF x)
theorem outc_pick {x y z : Operand} (hF : FR c w t a.tmps) (hM : MR c m w) {v : AV} {e : Eff} (he : aevN (.pick (cOpd x) (cOpd y) (cOpd z)) t m n = some (v, e)) :
    Outc P (do pure (.value (if ← asBool (a.eval x) then a.eval y else a.eval z))) c m n w v e := by
  have hx := rel_ev hF x
  simp only [aevN] at he
  split at he
  · rename_i b hev
    rw [hev] at hx
    cases he
    have hb := rel_d_bool hx
    refine ⟨.value (if b = true then a.eval y else a.eval z), w, c, by simp [hb, asBool], .inl ⟨_, rfl, ?_⟩, hM, Step.refl _ _ _, fun _ _ => rfl, fun _ h => .inl h⟩
    cases b
    · exact rel_ev hF z
    · exact rel_ev hF y
  · cases he
theorem outc_nilck {x : Operand} (hF : FR c w t a.tmps) {v : AV} {e : Eff} (he : aevN (.nilck (cOpd x)) t m n = some (v, e)) :
    ∃ u, Rel c w v u ∧ e = .nil ∧ a.eval x = u ∧ ((∃ ad, u = .pointer (some ad)) ∨ ∃ f cs, u = .func (.func f) #[] cs) := by
  have hx := rel_ev hF x
  simp only [aevN] at he
  split at he
  · rename_i id off hev
    rw [hev] at hx
    cases he
    obtain ⟨b, _, hv⟩ := rel_ptr hx
    exact ⟨_, hx, rfl, rfl, .inl ⟨_, hv⟩⟩
  · rename_i cs hev
    rw [hev] at hx
    cases he
    obtain ⟨b, o, _, hv, _⟩ := rel_dptr hx
    exact ⟨_, hx, rfl, rfl, .inl ⟨_, hv⟩⟩
  · rename_i f cs hev
    rw [hev] at hx
    cases he
    obtain ⟨vs, hv, _⟩ := rel_fn hx
    exact ⟨_, hx, rfl, rfl, .inr ⟨_, _, hv⟩⟩
  · cases he
theorem run_eqGuard_int (op : BinOp) (T : TypeId) (x y : Operand) (k k' : IntKind) (p q : Int) : (eqGuard op T x y (.int k p) (.int k' q)).run P w = .ok () w := by
  unfold eqGuard
  cases op <;> rfl
theorem run_eqGuard_str (op : BinOp) (T : TypeId) (x y : Operand) (p q : ByteArray) : (eqGuard op T x y (.string p) (.string q)).run P w = .ok () w := by
  unfold eqGuard
  cases op <;> rfl
theorem run_eqGuard_bool (op : BinOp) (T : TypeId) (x y : Operand) (p q : Bool) : (eqGuard op T x y (.bool p) (.bool q)).run P w = .ok () w := by
  unfold eqGuard
  cases op <;> rfl
theorem run_shift {op : BinOp} {k yk : IntKind} {p q : Int} {v : AV} (h : shI op k p q = some v) : ∃ u, (Op.shift op k p yk q).run P w = .ok u w ∧ Rel c w v u := by
  unfold shI at h
  split at h
  · cases h
  · rename_i hq
    cases op <;> simp only [reduceCtorEq] at h <;> cases h
    · exact ⟨_, by simp only [Op.shift, if_neg hq, Sem.run_pure], rel_wrapI _ _⟩
    · exact ⟨_, by simp only [Op.shift, if_neg hq, Sem.run_pure], rel_int _ _⟩
theorem run_binI {op : BinOp} {T : TypeId} {k : IntKind} {p q : Int} {v : AV} (hop : ¬ (op = .shl ∨ op = .shr)) (h : binI op k p q = some v) :
    ∃ u, (binOp op T (.int k p) (.int k q)).run P w = .ok u w ∧ Rel c w v u := by
  cases op <;> simp only [binI, reduceCtorEq, Option.some.injEq] at h
  case quo =>
    split at h
    · cases h
    · rename_i hq
      cases h
      exact ⟨_, by simp only [binOp, ne_eq, not_true_eq_false, if_false, Op.intDiv, if_neg hq, Sem.run_pure], rel_wrapI _ _⟩
  case rem =>
    split at h
    · cases h
    · rename_i hq
      cases h
      exact ⟨_, by simp only [binOp, ne_eq, not_true_eq_false, if_false, Op.intDiv, if_neg hq, Sem.run_pure], rel_int _ _⟩
  all_goals
    subst h
    first
      | refine ⟨_, ?_, rel_wrapI _ _⟩
      | refine ⟨_, ?_, rel_int _ _⟩
      | refine ⟨_, ?_, rel_boolA _⟩
    simp only [binOp, ne_eq, not_true_eq_false, if_false, Op.intArith, Op.intCmp, intBits_and, intBits_or, intBits_xor, intBits_andNot, Sem.run_pure]
    try rfl
theorem run_binS {op : BinOp} {T : TypeId} {p q : List UInt8} {v : AV} (h : binS op p q = some v) :
    ∃ u, (binOp op T (.string ⟨p.toArray⟩) (.string ⟨q.toArray⟩)).run P w = .ok u w ∧ Rel c w v u := by
  cases op <;> simp only [binS, reduceCtorEq, Option.some.injEq] at h
  case add =>
    split at h
    · rename_i hle
      cases h
      refine ⟨_, ?_, rel_str (p ++ q)⟩
      have hsz : ¬ (((⟨p.toArray⟩ : ByteArray).size + (⟨q.toArray⟩ : ByteArray).size : Nat) : Int) > IntKind.i64.max := by
        have : IntKind.i64.max = 9223372036854775807 := by rfl
        rw [this]
        simp only [ByteArray.size, List.size_toArray]
        omega
      have happ : (⟨p.toArray⟩ : ByteArray) ++ ⟨q.toArray⟩ = ⟨(p ++ q).toArray⟩ := by
        apply ByteArray.ext
        rw [ByteArray.data_append]
        simp
      simp only [binOp, Op.stringOp, if_neg hsz, happ, Sem.run_pure]
    · cases h
  all_goals
    subst h
    have hd : ∀ x y : List UInt8, decide (x = y) = (x == y) := fun x y => by rw [Bool.eq_iff_iff]; simp
    refine ⟨_, ?_, rel_boolA _⟩
    simp only [binOp, Op.stringOp, ByteArray.toList_mk, Sem.run_pure, hd]
theorem outc_bin {op : BinOp} {T : TypeId} {x y : Operand} (hF : FR c w t a.tmps) (hM : MR c m w) {v : AV} {e : Eff}
    (he : aevN (.bin op (cOpd x) (cOpd y)) t m n = some (v, e)) : Outc P (do pure (.value (← (do eqGuard op T x y (a.eval x) (a.eval y); binOp op T (a.eval x) (a.eval y))))) c m n w v e := by
  have hx := rel_ev hF x
  have hy := rel_ev hF y
  simp only [aevN, Option.map_eq_some_iff] at he
  obtain ⟨v', hv, he⟩ := he
  cases he
  unfold binA at hv
  split at hv
  · rename_i k p k' q h1 h2
    rw [h1] at hx
    rw [h2] at hy
    have e1 := rel_d_int hx
    have e2 := rel_d_int hy
    split at hv
    · rename_i hop
      obtain ⟨u, hu, hr⟩ := run_shift (P := P) (w := w) (c := c) (yk := k') hv
      refine outc_pure hM ?_ hr
      rw [e1, e2]
      simp only [Sem.run_bind, run_eqGuard_int, Result.andThen_ok]
      rcases hop with rfl | rfl <;> exact hu
    · rename_i hop
      split at hv
      · rename_i hk
        subst hk
        obtain ⟨u, hu, hr⟩ := run_binI (P := P) (w := w) (c := c) (T := T) hop hv
        refine outc_pure hM ?_ hr
        rw [e1, e2]
        simp only [Sem.run_bind, run_eqGuard_int, Result.andThen_ok, hu]
      · cases hv
  · rename_i p q h1 h2
    rw [h1] at hx
    rw [h2] at hy
    have e1 := rel_d_str hx
    have e2 := rel_d_str hy
    obtain ⟨u, hu, hr⟩ := run_binS (P := P) (w := w) (c := c) (T := T) hv
    refine outc_pure hM ?_ hr
    rw [e1, e2]
    simp only [Sem.run_bind, run_eqGuard_str, Result.andThen_ok, hu]
  · cases hv
theorem outc_eqb {op : BinOp} {neg : Bool} (hop : (op = .eql ∧ neg = false) ∨ (op = .neq ∧ neg = true)) {T : TypeId} (hT : P.underlying T = some .bool) {x y : Operand} (hF : FR c w t a.tmps) (hM : MR c m w)
    {v : AV} {e : Eff} (he : aevN (.eqb neg (cOpd x) (cOpd y)) t m n = some (v, e)) :
    Outc P (do pure (.value (← (do eqGuard op T x y (a.eval x) (a.eval y); binOp op T (a.eval x) (a.eval y))))) c m n w v e := by
  have hx := rel_ev hF x
  have hy := rel_ev hF y
  simp only [aevN] at he
  split at he
  · rename_i p q h1 h2
    rw [h1] at hx
    rw [h2] at hy
    cases he
    have e1 := rel_d_bool hx
    have e2 := rel_d_bool hy
    have heq : (Op.equal T (.bool p) (.bool q)).run P w = .ok (p == q) w := by
      unfold Op.equal
      rw [show Op.maxDepth = 9999 + 1 from rfl, Op.equalIn]
      simp only [Sem.run_bind, underlying, run_program, Result.andThen_ok, hT, Sem.run_pure]
    refine outc_pure hM ?_ (rel_boolA _)
    rw [e1, e2]
    rcases hop with ⟨rfl, rfl⟩ | ⟨rfl, rfl⟩
    · simp only [Sem.run_bind, run_eqGuard_bool, Result.andThen_ok, binOp, heq, Sem.run_pure, Bool.bne_false]
    · simp only [Sem.run_bind, run_eqGuard_bool, Result.andThen_ok, binOp, heq, Sem.run_pure, Bool.bne_true]
  · cases he
theorem rel_eqp {neg : Bool} {x y : AV} {u v : Value} (hx : Rel c w x u) (hy : Rel c w y v) {r : AV} (h : eqpA neg x y = some r) : ∃ b, r = boolA (b != neg) ∧
    ∃ p q, u = .pointer p ∧ v = .pointer q ∧ ((p = none ∧ b = q.isNone) ∨ (q = none ∧ b = p.isNone)) := by
  unfold eqpA at h
  split at h <;> cases h
  · obtain ⟨b, _, rfl⟩ := rel_ptr hx; have := rel_d_nptr hy; subst this
    exact ⟨false, by simp, _, _, rfl, rfl, .inr ⟨rfl, rfl⟩⟩
  · obtain ⟨b, _, _, rfl, _⟩ := rel_dptr hx; have := rel_d_nptr hy; subst this
    exact ⟨false, by simp, _, _, rfl, rfl, .inr ⟨rfl, rfl⟩⟩
  · obtain ⟨b, _, rfl⟩ := rel_ptr hy; have := rel_d_nptr hx; subst this
    exact ⟨false, by simp, _, _, rfl, rfl, .inl ⟨rfl, rfl⟩⟩
  · obtain ⟨b, _, _, rfl, _⟩ := rel_dptr hy; have := rel_d_nptr hx; subst this
    exact ⟨false, by simp, _, _, rfl, rfl, .inl ⟨rfl, rfl⟩⟩
  · have := rel_d_nptr hx; subst this; have := rel_d_nptr hy; subst this
    exact ⟨true, by simp, _, _, rfl, rfl, .inl ⟨rfl, rfl⟩⟩
theorem rel_eqf {neg : Bool} {x y : AV} {u v : Value} (hx : Rel c w x u) (hy : Rel c w y v) {r : AV} (h : eqfA neg x y = some r) : ∃ b, r = boolA (b != neg) ∧
    ((u = .nilFunc ∧ v = .nilFunc ∧ b = true) ∨ (∃ f g h, u = .func f g h ∧ v = .nilFunc ∧ b = false) ∨ (∃ f g h, v = .func f g h ∧ u = .nilFunc ∧ b = false)) := by
  unfold eqfA at h
  split at h <;> cases h
  · obtain ⟨vs, rfl, _⟩ := rel_fn hx; have := rel_d_nfn hy; subst this
    exact ⟨false, by simp, .inr (.inl ⟨_, _, _, rfl, rfl, rfl⟩)⟩
  · obtain ⟨vs, rfl, _⟩ := rel_fn hy; have := rel_d_nfn hx; subst this
    exact ⟨false, by simp, .inr (.inr ⟨_, _, _, rfl, rfl, rfl⟩)⟩
  · have := rel_d_nfn hx; subst this; have := rel_d_nfn hy; subst this
    exact ⟨true, by simp, .inl ⟨rfl, rfl, rfl⟩⟩
theorem outc_un {op : UnOp} {x : Operand} (hF : FR c w t a.tmps) (hM : MR c m w) {v : AV} {e : Eff} (he : aevN (.un op (cOpd x)) t m n = some (v, e)) :
    Outc P (do pure (.value (← Op.unary op (a.eval x)))) c m n w v e := by
  have hx := rel_ev hF x
  simp only [aevN, Option.map_eq_some_iff] at he
  obtain ⟨v', hv, he⟩ := he
  cases he
  unfold unA at hv
  split at hv
  · rename_i k p h1
    rw [h1] at hx
    have e1 := rel_d_int hx
    cases op <;> simp only [reduceCtorEq] at hv <;> cases hv
    · exact outc_pure hM (by rw [e1]; simp only [Op.unary, Op.intArith, Sem.run_pure]) (rel_wrapI _ _)
    · exact outc_pure hM (by rw [e1]; simp only [Op.unary, intBits_xor, Sem.run_pure]) (rel_int _ _)
  · rename_i p h1
    rw [h1] at hx
    have e1 := rel_d_bool hx
    cases op <;> simp only [reduceCtorEq] at hv <;> cases hv
    exact outc_pure hM (by rw [e1]; simp only [Op.unary, Sem.run_pure]) (rel_boolA _)
  · cases hv
theorem outc_cvi {s d : TypeId} {k' k : IntKind} (hs : P.underlying s = some (.int k')) (hd : P.underlying d = some (.int k)) {x : Operand} (hF : FR c w t a.tmps) (hM : MR c m w) {v : AV} {e : Eff}
    (he : aevN (.cvi k (cOpd x)) t m n = some (v, e)) : Outc P (do pure (.value (← convert s d (a.eval x)))) c m n w v e := by
  have hx := rel_ev hF x
  simp only [aevN] at he
  split at he
  · rename_i k2 p h1
    rw [h1] at hx
    cases he
    have e1 := rel_d_int hx
    exact outc_pure hM (by rw [e1]; simp only [convert, Sem.run_bind, underlying, run_program, Result.andThen_ok, hs, hd, Conv.intToInt, Sem.run_pure]) (rel_wrapI _ _)
  · cases he
theorem outc_cvrune {s d : TypeId} (hs : (∃ k, P.underlying s = some (.int k)) ∨ P.underlying s = some .string) (hd : P.underlying d = some .string) {x : Operand} (hF : FR c w t a.tmps) (hM : MR c m w) {v : AV} {e : Eff}
    (he : aevN (.cvrune (cOpd x)) t m n = some (v, e)) : Outc P (do pure (.value (← convert s d (a.eval x)))) c m n w v e := by
  have hx := rel_ev hF x
  simp only [aevN] at he
  split at he
  · rename_i k2 p h1
    rw [h1] at hx
    cases he
    have e1 := rel_d_int hx
    refine outc_pure (u := .string (Utf8.encode p)) hM ?_ (by simp [Rel, RelD])
    rw [e1]
    rcases hs with ⟨k, hs⟩ | hs <;> simp only [convert, Sem.run_bind, underlying, run_program, Result.andThen_ok, hs, hd, Conv.intToString, Sem.run_pure]
  · rename_i p h1
    rw [h1] at hx
    cases he
    have e1 := rel_d_str hx
    refine outc_pure (u := .string ⟨p.toArray⟩) hM ?_ (rel_str _)
    rw [e1]
    rcases hs with ⟨k, hs⟩ | hs <;> simp only [convert, Sem.run_bind, underlying, run_program, Result.andThen_ok, hs, hd, Sem.run_pure]
  · cases he
theorem outc_ext {x : Operand} {i : Nat} (hF : FR c w t a.tmps) (hM : MR c m w) {v : AV} {e : Eff} (he : aevN (.ext (cOpd x) i) t m n = some (v, e)) :
    Outc P (do pure (.value (← Instr.extract (a.eval x) i))) c m n w v e := by
  have hx := rel_ev hF x
  simp only [aevN] at he
  split at he
  · rename_i vs h1
    rw [h1] at hx
    obtain ⟨us, hu, hr⟩ := rel_tup hx
    rw [Option.map_eq_some_iff] at he
    obtain ⟨v', hv, he⟩ := he
    cases he
    obtain ⟨u, hu', hru⟩ := hr.get hv
    refine outc_pure (u := u) hM ?_ hru
    rw [hu]
    simp only [Instr.extract, List.getElem?_toArray, hu', Sem.run_pure]
  · cases he
theorem outc_mkfn {f : Nat} {caps : Array Operand} (hF : FR c w t a.tmps) (hM : MR c m w) :
    Outc P (do pure (.value (← Instr.makeFunc (.func f) #[] (caps.map a.eval)))) c m n w (.fn f ((caps.toList.map cOpd).map (ev t))) .nil := by
  refine outc_pure (u := .func (.func f) #[] (caps.map a.eval)) hM (by simp [Instr.makeFunc]) ?_
  simp only [Rel]
  exact ⟨caps.toList.map a.eval, congrArg _ (Array.ext' (by simp)), relL_ev hF _⟩
theorem rel_len {x : AV} {v : Value} {l : Nat} (h : Rel c w x v) (hl : lenA x = some l) : ∃ p cap, v = .slice p l cap ∧ l ≤ cap := by
  unfold lenA at hl
  split at hl <;> cases hl
  · exact ⟨_, _, rel_d_nsl h, Nat.le_refl _⟩
  · simp only [Rel, RelD] at h
    obtain ⟨p, cap, hv, hn, _⟩ := h
    exact ⟨p, cap, hv, hn⟩
  · simp only [Rel] at h
    rcases h with ⟨_, _, rfl, hv⟩ | ⟨b, cap, n, _, hv, hn, _⟩
    · exact ⟨_, _, hv, Nat.le_refl _⟩
    · exact ⟨_, _, hv, hn⟩
theorem bytesAV_get {s : List UInt8} {i : Nat} {x : AV} (h : (bytesAV s)[i]? = some x) : ∃ b, s[i]? = some b ∧ x = .d (.int .u8 b.toNat) := by
  unfold bytesAV at h
  rw [List.getElem?_map, Option.map_eq_some_iff] at h
  obtain ⟨b, hb, rfl⟩ := h
  exact ⟨b, hb, rfl⟩
theorem relL_bytes (s : List UInt8) : RelL c w (bytesAV s) (s.map fun b => .int .u8 b.toNat) :=
  RelL.of_get (by simp [bytesAV]) fun i x v hx hv => by
    obtain ⟨b, hb, rfl⟩ := bytesAV_get hx
    rw [List.getElem?_map, hb] at hv
    cases hv
    exact rel_int _ _
end
end Go.Jq
namespace Go.Jq
open Go
section
variable {P : Program} {c : Ctx} {m : Mem} {n : Nat} {w : World} {t : Fr} {a : Act}
theorem run_eqGuard_ptr (op : BinOp) (T : TypeId) (x y : Operand) (p q : Option Addr) : (eqGuard op T x y (.pointer p) (.pointer q)).run P w = .ok () w := by
  unfold eqGuard
  cases op <;> rfl
theorem outc_eqp {op : BinOp} {neg : Bool} (hop : (op = .eql ∧ neg = false) ∨ (op = .neq ∧ neg = true)) {T el : TypeId} (hel : P.underlying T = some (.pointer el)) {x y : Operand}
    (hF : FR c w t a.tmps) (hM : MR c m w) {v : AV} {e : Eff} (he : aevN (.eqp neg (cOpd x) (cOpd y)) t m n = some (v, e)) :
    Outc P (do pure (.value (← (do eqGuard op T x y (a.eval x) (a.eval y); binOp op T (a.eval x) (a.eval y))))) c m n w v e := by
  simp only [aevN, Option.map_eq_some_iff] at he
  obtain ⟨v', hv1, he⟩ := he
  cases he
  obtain ⟨b, rfl, p, q, h1, h2, h3⟩ := rel_eqp (rel_ev hF x) (rel_ev hF y) hv1
  have k1 : (Op.equal T (.pointer p) (.pointer q)).run P w = .ok b w := by
    unfold Op.equal
    rw [show Op.maxDepth = 9999 + 1 from rfl, Op.equalIn]
    simp only [Sem.run_bind, underlying, run_program, Result.andThen_ok, hel]
    rcases h3 with ⟨rfl, rfl⟩ | ⟨rfl, rfl⟩
    · cases q <;> simp
    · cases p <;> simp
  refine outc_pure hM ?_ (rel_boolA _)
  rw [h1, h2]
  rcases hop with ⟨rfl, rfl⟩ | ⟨rfl, rfl⟩
  · simp only [Sem.run_bind, run_eqGuard_ptr, Result.andThen_ok, binOp, k1, Sem.run_pure, Bool.bne_false]
  · simp only [Sem.run_bind, run_eqGuard_ptr, Result.andThen_ok, binOp, k1, Sem.run_pure, Bool.bne_true]
theorem run_eqGuard_fn (op : BinOp) (T : TypeId) (x y : Operand) {u v : Value} (hu : u = .nilFunc ∨ ∃ f g h, u = .func f g h) : (eqGuard op T x y u v).run P w = .ok () w := by
  unfold eqGuard
  rcases hu with rfl | ⟨f, g, h, rfl⟩ <;> cases op <;> cases v <;> rfl
theorem outc_eqf {op : BinOp} {neg : Bool} (hop : (op = .eql ∧ neg = false) ∨ (op = .neq ∧ neg = true)) {T : TypeId} {pp rr : Array TypeId} {vv : Bool} (hel : P.underlying T = some (.func pp rr vv)) {x y : Operand}
    (hF : FR c w t a.tmps) (hM : MR c m w) {v : AV} {e : Eff} (he : aevN (.eqf neg (cOpd x) (cOpd y)) t m n = some (v, e)) :
    Outc P (do pure (.value (← (do eqGuard op T x y (a.eval x) (a.eval y); binOp op T (a.eval x) (a.eval y))))) c m n w v e := by
  simp only [aevN, Option.map_eq_some_iff] at he
  obtain ⟨v', hv1, he⟩ := he
  cases he
  obtain ⟨b, rfl, h⟩ := rel_eqf (rel_ev hF x) (rel_ev hF y) hv1
  refine outc_pure hM ?_ (rel_boolA _)
  rcases h with ⟨h1, h2, rfl⟩ | ⟨f, g, k, h1, h2, rfl⟩ | ⟨f, g, k, h1, h2, rfl⟩
  all_goals
    rw [h1, h2]
    rcases hop with ⟨rfl, rfl⟩ | ⟨rfl, rfl⟩
    all_goals
      simp only [Sem.run_bind, run_eqGuard_fn _ _ _ _ (.inl rfl), run_eqGuard_fn _ _ _ _ (.inr ⟨_, _, _, rfl⟩), Result.andThen_ok, binOp, Op.equal]
      rw [show Op.maxDepth = 9999 + 1 from rfl, Op.equalIn]
      simp only [Sem.run_bind, underlying, run_program, Result.andThen_ok, hel, Sem.run_pure]
      rfl
theorem run_fieldAt {s : TypeId} {fs : Array Field} {f off size : Nat} (hu : P.underlying s = some (.struct fs)) (hf : fieldPlace' P fs f = some (off, size)) (hs : size ≠ 0) (b o : Nat) :
    (Instr.fieldAt s (.pointer (some ⟨b, o, none⟩)) f).run P w = .ok (.pointer (some ⟨b, o + off, none⟩)) w := by
  unfold fieldPlace' at hf
  split at hf
  · rename_i fd hfd
    split at hf
    · rename_i i hi
      cases hf
      simp only [Instr.fieldAt, Sem.run_bind, underlying, run_program, Result.andThen_ok, hu, Sem.run_pure, hfd, Instr.sureAddr, fieldPlace, run_sizeOf hi, if_neg hs, addr_add]
    · cases hf
  · cases hf
theorem outc_faddr {s : TypeId} {fs : Array Field} {f off size : Nat} (hu : P.underlying s = some (.struct fs)) (hf : fieldPlace' P fs f = some (off, size)) (hs : size ≠ 0) {x : Operand}
    (hF : FR c w t a.tmps) (hM : MR c m w) {v : AV} {e : Eff} (he : aevN (.faddr (cOpd x) off) t m n = some (v, e)) : Outc P (do pure (.value (← Instr.fieldAt s (a.eval x) f))) c m n w v e := by
  have hx := rel_ev hF x
  simp only [aevN] at he
  split at he
  · rename_i id o h1
    rw [h1] at hx
    cases he
    obtain ⟨b, hb, hv⟩ := rel_ptr hx
    exact outc_pure hM (by rw [hv]; exact run_fieldAt hu hf hs b o) (by simp only [Rel]; exact ⟨b, hb, rfl⟩)
  · rename_i cs h1
    rw [h1] at hx
    cases he
    obtain ⟨b, o, hb, hv, hc⟩ := rel_dptr hx
    exact outc_pure hM (by rw [hv]; exact run_fieldAt hu hf hs b o) (by simp only [Rel]; exact ⟨b, _, hb, rfl, hc.drop off⟩)
  · cases he
theorem run_part {T : TypeId} {k : Option Nat} (hk : ldk P T = some k) {cs : List AV} {us : List Value} (hr : RelL c w cs us) {off : Nat} {v : AV} (hv : loadA k (cs.drop off) = some v) :
    ∃ u, (part T us.toArray off).run P w = .ok u w ∧ Rel c w v u := by
  rcases ldk_spec hk with ⟨i, hi, rfl, hagg⟩ | ⟨rfl, hagg⟩
  · simp only [loadA] at hv
    split at hv
    · cases hv
      refine ⟨.agg ((us.drop off).take i.size).toArray, ?_, by simp only [Rel]; exact ⟨_, rfl, (hr.drop off).take i.size⟩⟩
      simp only [part, Sem.run_bind, hagg, Result.andThen_ok, if_true, run_sizeOf hi, Sem.run_pure]
      congr 2
      apply Array.ext'
      simp only [Array.toList_extract, List.extract_eq_take_drop]
      simp
    · cases hv
  · simp only [loadA] at hv
    obtain ⟨u, hu, hru⟩ := (hr.drop off).get hv
    refine ⟨u, ?_, hru⟩
    have : us[off]? = some u := by rw [← hu, List.getElem?_drop]; simp
    simp only [part, Sem.run_bind, hagg, Result.andThen_ok, Bool.false_eq_true, if_false, List.getElem?_toArray, this, Sem.run_pure]
theorem outc_fld {s : TypeId} {fs : Array Field} {f : Nat} {fd : Field} {k : Option Nat} (hu : P.underlying s = some (.struct fs)) (hf : fs[f]? = some fd) (hk : ldk P fd.type = some k) {x : Operand}
    (hF : FR c w t a.tmps) (hM : MR c m w) {v : AV} {e : Eff} (he : aevN (.fld (cOpd x) fd.offset k) t m n = some (v, e)) : Outc P (do pure (.value (← Instr.field s (a.eval x) f))) c m n w v e := by
  have hx := rel_ev hF x
  simp only [aevN] at he
  split at he
  · rename_i cs h1
    rw [h1] at hx
    rw [Option.map_eq_some_iff] at he
    obtain ⟨v', hv, he⟩ := he
    cases he
    obtain ⟨us, hv', hr⟩ := rel_agg hx
    obtain ⟨u, hu', hru⟩ := run_part hk hr hv
    exact outc_pure hM (by rw [hv']; simp only [Instr.field, Sem.run_bind, underlying, run_program, Result.andThen_ok, hu, Sem.run_pure, hf, asAgg, hu']) hru
  · cases he
theorem outc_iaddrS {T el : TypeId} {i' : TypeInfo} (hu : P.underlying T = some (.slice el)) (hi' : P.info? el = some i') {x i : Operand} (hF : FR c w t a.tmps) (hM : MR c m w) {v : AV} {e : Eff}
    (he : aevN (.iaddr i'.size none (cOpd x) (cOpd i)) t m n = some (v, e)) : Outc P (do pure (.value (← Instr.indexAt T (a.eval x) (a.eval i)))) c m n w v e := by
  have hx := rel_ev hF x
  have hi := rel_ev hF i
  simp only [aevN] at he
  split at he
  · cases he
  · cases he
  · rename_i id e' off len k j h1 h2
    rw [h1] at hx
    rw [h2] at hi
    split at he
    · rename_i hcond
      obtain ⟨_, rfl, h3, h4⟩ := hcond
      cases he
      have e2 := rel_d_int hi
      simp only [Rel] at hx
      rcases hx with ⟨_, _, rfl, _⟩ | ⟨b, cap, N, hb, hv, hle, hN, hcap⟩
      · omega
      · refine outc_pure (u := .pointer (some ⟨b, off + j.toNat * i'.size, none⟩)) hM ?_ (by simp only [Rel]; exact ⟨b, hb, rfl⟩)
        rw [hv, e2]
        simp only [Instr.indexAt, Sem.run_bind, asIntOf, Sem.run_pure, Result.andThen_ok, underlying, run_program, hu]
        rw [if_pos ⟨h3, h4⟩]
        simp only [Sem.run_bind, run_sizeOf hi', Result.andThen_ok, Sem.run_pure, addr_add]
    · cases he
  · rename_i len cs k j h1 h2
    rw [h1] at hx
    rw [h2] at hi
    split at he
    · rename_i hcond
      obtain ⟨_, h3, h4, h5⟩ := hcond
      cases he
      have e2 := rel_d_int hi
      simp only [Rel, RelD] at hx
      obtain ⟨p, cap, hv, hle, hx⟩ := hx
      rcases hx with ⟨rfl, _⟩ | ⟨b, o, rfl, hb, hc⟩
      · omega
      · refine outc_pure (u := .pointer (some ⟨b, o + j.toNat * i'.size, none⟩)) hM ?_ (by simp only [Rel]; exact ⟨b, _, hb, rfl, hc.drop _⟩)
        rw [hv, e2]
        simp only [Instr.indexAt, Sem.run_bind, asIntOf, Sem.run_pure, Result.andThen_ok, underlying, run_program, hu]
        rw [if_pos ⟨h3, h4⟩]
        simp only [Sem.run_bind, run_sizeOf hi', Result.andThen_ok, Sem.run_pure, addr_add]
    · cases he
  · cases he
theorem run_indexAtA {T el len : Nat} {i' : TypeInfo} (hu : P.underlying T = some (.array len el)) (hi' : P.info? el = some i') (k : IntKind) (j : Int) (h : 0 ≤ j ∧ j < len) (b o : Nat) :
    (Instr.indexAt T (.pointer (some ⟨b, o, none⟩)) (.int k j)).run P w = .ok (.pointer (some ⟨b, o + j.toNat * i'.size, none⟩)) w := by
  simp only [Instr.indexAt, Sem.run_bind, asIntOf, Sem.run_pure, Result.andThen_ok, underlying, run_program, hu, Instr.sureAddr]
  rw [if_pos h]
  simp only [Sem.run_bind, run_sizeOf hi', Result.andThen_ok, Sem.run_pure, addr_add]
theorem outc_iaddrA {T el len : Nat} {i' : TypeInfo} (hu : P.underlying T = some (.array len el)) (hi' : P.info? el = some i') {x i : Operand} (hF : FR c w t a.tmps) (hM : MR c m w) {v : AV} {e : Eff}
    (he : aevN (.iaddr i'.size (some len) (cOpd x) (cOpd i)) t m n = some (v, e)) : Outc P (do pure (.value (← Instr.indexAt T (a.eval x) (a.eval i)))) c m n w v e := by
  have hx := rel_ev hF x
  have hi := rel_ev hF i
  simp only [aevN] at he
  split at he
  · rename_i id o k j h1 h2
    rw [h1] at hx
    rw [h2] at hi
    split at he
    · rename_i hcond
      cases he
      obtain ⟨b, hb, hv⟩ := rel_ptr hx
      have e2 := rel_d_int hi
      exact outc_pure hM (by rw [hv, e2]; exact run_indexAtA hu hi' k j hcond b o) (by simp only [Rel]; exact ⟨b, hb, rfl⟩)
    · cases he
  · rename_i cs k j h1 h2
    rw [h1] at hx
    rw [h2] at hi
    split at he
    · rename_i hcond
      cases he
      obtain ⟨b, o, hb, hv, hc⟩ := rel_dptr hx
      have e2 := rel_d_int hi
      exact outc_pure hM (by rw [hv, e2]; exact run_indexAtA hu hi' k j hcond b o) (by simp only [Rel]; exact ⟨b, _, hb, rfl, hc.drop _⟩)
    · cases he
  · rename_i id e' off len' k j h1 h2
    split at he
    · rename_i hcond
      obtain ⟨h, _⟩ := hcond
      cases h
    · cases he
  · rename_i len' cs k j h1 h2
    split at he
    · rename_i hcond
      obtain ⟨h, _⟩ := hcond
      cases h
    · cases he
  · cases he
theorem outc_idxs {T : TypeId} (hu : P.underlying T = some .string) {x i : Operand} (hF : FR c w t a.tmps) (hM : MR c m w) {v : AV} {e : Eff}
    (he : aevN (.idxs (cOpd x) (cOpd i)) t m n = some (v, e)) : Outc P (do pure (.value (← Instr.index T (a.eval x) (a.eval i)))) c m n w v e := by
  have hx := rel_ev hF x
  have hi := rel_ev hF i
  simp only [aevN] at he
  split at he
  · rename_i s k j h1 h2
    rw [h1] at hx
    rw [h2] at hi
    split at he
    · rename_i hcond
      cases he
      have e1 := rel_d_str hx
      have e2 := rel_d_int hi
      refine outc_pure hM ?_ (rel_int _ _)
      have hlt : j.toNat < s.length := by omega
      have hget : (⟨s.toArray⟩ : ByteArray)[j.toNat]? = some (s.getD j.toNat 0) := by
        have hsz : j.toNat < (⟨s.toArray⟩ : ByteArray).size := by simpa [ByteArray.size] using hlt
        rw [getElem?_pos (ByteArray.mk s.toArray) j.toNat hsz]
        congr 1
        show s.toArray[j.toNat] = _
        simp [hlt]
      rw [e1, e2]
      simp only [Instr.index, Sem.run_bind, asIntOf, Sem.run_pure, Result.andThen_ok, underlying, run_program, hu]
      rw [if_pos hcond.1, hget]
      rfl
    · cases he
  · cases he
theorem outc_idxa {T el len : Nat} {i' : TypeInfo} {k : Option Nat} (hu : P.underlying T = some (.array len el)) (hi' : P.info? el = some i') (hk : ldk P el = some k) {x i : Operand} (hF : FR c w t a.tmps) (hM : MR c m w)
    {v : AV} {e : Eff} (he : aevN (.idxa len i'.size k (cOpd x) (cOpd i)) t m n = some (v, e)) : Outc P (do pure (.value (← Instr.index T (a.eval x) (a.eval i)))) c m n w v e := by
  have hx := rel_ev hF x
  have hi := rel_ev hF i
  simp only [aevN] at he
  split at he
  · rename_i cs k' j h1 h2
    rw [h1] at hx
    rw [h2] at hi
    split at he
    · rename_i hcond
      rw [Option.map_eq_some_iff] at he
      obtain ⟨v', hv, he⟩ := he
      cases he
      obtain ⟨us, hv', hr⟩ := rel_agg hx
      have e2 := rel_d_int hi
      obtain ⟨u, hu', hru⟩ := run_part hk hr hv
      refine outc_pure hM ?_ hru
      rw [hv', e2]
      simp only [Instr.index, Sem.run_bind, asIntOf, Sem.run_pure, Result.andThen_ok, underlying, run_program, hu]
      rw [if_pos hcond]
      simp only [Sem.run_bind, run_sizeOf hi', Result.andThen_ok, hu']
    · cases he
  · cases he
theorem outc_lens {T : TypeId} {ts : Array TypeId} {ty : TypeId} {x : Operand} (ht : ts.toList = [T]) (hu : P.underlying T = some .string)
    (hF : FR c w t a.tmps) (hM : MR c m w) {v : AV} {e : Eff} (he : aevN (.lens (cOpd x)) t m n = some (v, e)) : Outc P (do pure (.value (← Builtin.len_ ts ty #[a.eval x]))) c m n w v e := by
  have hx := rel_ev hF x
  simp only [aevN] at he
  split at he
  · rename_i s h1
    rw [h1] at hx
    cases he
    have e1 := rel_d_str hx
    have h0 : ts[0]? = some T := by rw [← Array.getElem?_toList, ht]; rfl
    refine outc_pure hM ?_ (rel_int _ _)
    have hsz : (ByteArray.mk s.toArray).size = s.length := by show s.toArray.size = _; simp
    rw [e1]
    simp only [Builtin.len_, h0, List.getElem?_toArray, List.getElem?_cons_zero, Sem.run_bind, underlying, run_program, Result.andThen_ok, hu, Sem.run_pure, goInt, hsz]
  · cases he
theorem outc_lenl {T el : TypeId} {ts : Array TypeId} {ty : TypeId} {x : Operand} (ht : ts.toList = [T]) (hu : P.underlying T = some (.slice el))
    (hF : FR c w t a.tmps) (hM : MR c m w) {v : AV} {e : Eff} (he : aevN (.lenl (cOpd x)) t m n = some (v, e)) : Outc P (do pure (.value (← Builtin.len_ ts ty #[a.eval x]))) c m n w v e := by
  have hx := rel_ev hF x
  simp only [aevN, Option.map_eq_some_iff] at he
  obtain ⟨l, hl, he⟩ := he
  cases he
  obtain ⟨p, cap, hv, _⟩ := rel_len hx hl
  have h0 : ts[0]? = some T := by rw [← Array.getElem?_toList, ht]; rfl
  refine outc_pure hM ?_ (rel_int _ _)
  rw [hv]
  simp [Builtin.len_, h0, underlying, hu, goInt]
theorem outc_min {ts : Array TypeId} {ty : TypeId} {x y : Operand} (hF : FR c w t a.tmps) (hM : MR c m w) {v : AV} {e : Eff} (he : aevN (.minI (cOpd x) (cOpd y)) t m n = some (v, e)) :
    Outc P (do pure (.value (← Builtin.min_ ts ty #[a.eval x, a.eval y]))) c m n w v e := by
  have hx := rel_ev hF x
  have hy := rel_ev hF y
  simp only [aevN] at he
  split at he
  · rename_i k p k' q h1 h2
    rw [h1] at hx
    rw [h2] at hy
    cases he
    have e1 := rel_d_int hx
    have e2 := rel_d_int hy
    exact outc_pure hM (by rw [e1, e2]; simp [Builtin.min_, Builtin.min2]) (rel_int _ _)
  · cases he
theorem outc_max {ts : Array TypeId} {ty : TypeId} {x y : Operand} (hF : FR c w t a.tmps) (hM : MR c m w) {v : AV} {e : Eff} (he : aevN (.maxI (cOpd x) (cOpd y)) t m n = some (v, e)) :
    Outc P (do pure (.value (← Builtin.max_ ts ty #[a.eval x, a.eval y]))) c m n w v e := by
  have hx := rel_ev hF x
  have hy := rel_ev hF y
  simp only [aevN] at he
  split at he
  · rename_i k p k' q h1 h2
    rw [h1] at hx
    rw [h2] at hy
    cases he
    have e1 := rel_d_int hx
    have e2 := rel_d_int hy
    exact outc_pure hM (by rw [e1, e2]; simp [Builtin.max_, Builtin.max2]) (rel_int _ _)
  · cases he
end
end Go.Jq
namespace Go.Jq
open Go
section
variable {P : Program} {c : Ctx} {m : Mem} {n : Nat} {w : World} {t : Fr} {a : Act}
theorem run_bound {x : Value} {k : IntKind} {j : Int} (hx : x = .int k j) {y : Nat} (h : 0 ≤ j ∧ j.toNat ≤ y) (code : BoundsCode) : (Instr.sliceBound x y code).run P w = .ok j.toNat w := by
  subst hx
  simp only [Instr.sliceBound, Sem.run_bind, asIntOf, Sem.run_pure, Result.andThen_ok]
  rw [if_pos ⟨h.1, by omega⟩]
  rfl
theorem bnd_spec {x : Option Operand} {d b : Nat} (hF : FR c w t a.tmps) (h : bndA ((x.map cOpd).map (ev t)) d = some b) :
    (x = none ∧ b = d) ∨ ∃ y k j, x = some y ∧ a.eval y = .int k j ∧ 0 ≤ j ∧ j.toNat = b := by
  cases x with
  | none => simp only [Option.map_none, bndA, Option.some.injEq] at h; exact .inl ⟨rfl, h.symm⟩
  | some y =>
    have hy := rel_ev hF y
    simp only [Option.map_some] at h
    generalize hev : ev t (cOpd y) = av at h hy
    unfold bndA at h
    split at h
    · rename_i h0; cases h0
    · rename_i k j h0
      cases h0
      split at h
      · rename_i hj
        cases h
        exact .inr ⟨y, k, j, rfl, rel_d_int hy, hj, rfl⟩
      · cases h
    · cases h
theorem run_sliceBounds {isSlice : Bool} {len cap l h : Nat} {lo hi : Option Operand}
    (hlo : (lo = none ∧ l = 0) ∨ ∃ y k j, lo = some y ∧ a.eval y = .int k j ∧ 0 ≤ j ∧ j.toNat = l)
    (hhi : (hi = none ∧ h = len) ∨ ∃ y k j, hi = some y ∧ a.eval y = .int k j ∧ 0 ≤ j ∧ j.toNat = h) (hlh : l ≤ h) (hc : h ≤ cap) :
    (Instr.sliceBounds isSlice len cap (lo.map a.eval) (hi.map a.eval) none).run P w = .ok (l, h, cap) w := by
  unfold Instr.sliceBounds
  rcases hhi with ⟨rfl, rfl⟩ | ⟨y, k, j, rfl, hy, hj, rfl⟩
  · rcases hlo with ⟨rfl, rfl⟩ | ⟨y', k', j', rfl, hy', hj', rfl⟩
    · simp
    · simp only [Option.map_none, Option.map_some, Option.isSome_none, Sem.run_bind, Sem.run_pure, Result.andThen_ok, run_bound hy' ⟨hj', hlh⟩]
  · rcases hlo with ⟨rfl, rfl⟩ | ⟨y', k', j', rfl, hy', hj', rfl⟩
    · simp only [Option.map_none, Option.map_some, Sem.run_bind, Sem.run_pure, Result.andThen_ok, run_bound hy ⟨hj, hc⟩]
    · simp only [Option.map_some, Option.isSome_none, Sem.run_bind, Sem.run_pure, Result.andThen_ok, run_bound hy ⟨hj, hc⟩, run_bound hy' ⟨hj', hlh⟩]
theorem extract_str (s : List UInt8) (l h : Nat) : (ByteArray.mk s.toArray).extract l h = ⟨((s.take h).drop l).toArray⟩ := by
  apply ByteArray.ext
  rw [ByteArray.data_extract]
  apply Array.ext'
  simp only [Array.toList_extract, List.extract_eq_take_drop]
  rw [List.drop_take]
theorem outc_slcs {T : TypeId} (hu : P.underlying T = some .string) {x : Operand} {lo hi : Option Operand} (hF : FR c w t a.tmps) (hM : MR c m w) {v : AV} {e : Eff}
    (he : aevN (.slcs (cOpd x) (lo.map cOpd) (hi.map cOpd)) t m n = some (v, e)) : Outc P (do pure (.value (← Instr.sliceAt T (a.eval x) (lo.map a.eval) (hi.map a.eval) none))) c m n w v e := by
  have hx := rel_ev hF x
  simp only [aevN] at he
  split at he
  · rename_i s h1
    rw [h1] at hx
    have e1 := rel_d_str hx
    split at he
    · rename_i l h hl hh
      split at he
      · rename_i hcond
        cases he
        have hsz : (ByteArray.mk s.toArray).size = s.length := by show s.toArray.size = _; simp
        have hb := run_sliceBounds (P := P) (w := w) (isSlice := false) (cap := s.length) (bnd_spec hF hl) (bnd_spec hF hh) hcond.1 hcond.2
        refine outc_pure (u := .string ⟨((s.take h).drop l).toArray⟩) hM ?_ (rel_str _)
        rw [e1]
        simp only [Instr.sliceAt, Sem.run_bind, underlying, run_program, Result.andThen_ok, hu, Instr.slice, Option.isSome_none, Bool.false_eq_true, if_false, Sem.run_pure, hsz, hb, extract_str]
      · cases he
    · cases he
  · cases he
theorem outc_slcl {T el : TypeId} {i : TypeInfo} (hu : P.underlying T = some (.slice el)) (hi' : P.info? el = some i) {x : Operand} {lo hi : Option Operand} (hF : FR c w t a.tmps) (hM : MR c m w) {v : AV} {e : Eff}
    (he : aevN (.slcl i.size (cOpd x) (lo.map cOpd) (hi.map cOpd)) t m n = some (v, e)) : Outc P (do pure (.value (← Instr.sliceAt T (a.eval x) (lo.map a.eval) (hi.map a.eval) none))) c m n w v e := by
  have hx := rel_ev hF x
  simp only [aevN] at he
  split at he
  · rename_i len hlen
    obtain ⟨p, cap, hv, hle⟩ := rel_len hx hlen
    split at he
    · rename_i l h hl hh
      rw [Option.map_eq_some_iff] at he
      obtain ⟨v', hsl, he⟩ := he
      cases he
      have hrun : l ≤ h → h ≤ len → (do pure (.value (← Instr.sliceAt T (a.eval x) (lo.map a.eval) (hi.map a.eval) none)) : Sem Next).run P w = .ok (.value (.slice (if cap = l then p else p.map (·.add (l * i.size))) (h - l) (cap - l))) w := by
        intro h1 h2
        have hb := run_sliceBounds (P := P) (w := w) (isSlice := true) (cap := cap) (bnd_spec hF hl) (bnd_spec hF hh) h1 (Nat.le_trans h2 hle)
        rw [hv]
        simp only [Instr.sliceAt, Sem.run_bind, underlying, run_program, Result.andThen_ok, hu, Instr.slice, hb, run_sizeOf hi', Sem.run_pure]
      unfold slcA at hsl
      split at hsl
      · rename_i hev
        split at hsl
        · rename_i hcond
          obtain ⟨rfl, rfl⟩ := hcond
          cases hsl
          rw [hev] at hx
          have := rel_d_nsl hx
          rw [this] at hv
          cases hv
          refine ⟨_, w, c, hrun (Nat.le_refl _) (Nat.zero_le _), .inl ⟨_, rfl, ?_⟩, hM, Step.refl _ _ _, fun _ _ => rfl, fun _ h => .inl h⟩
          simp [Rel, RelD]
        · cases hsl
      · rename_i n' cells hev
        rw [hev] at hx hlen
        simp only [lenA, Option.some.injEq] at hlen
        split at hsl
        · rename_i hcond
          obtain ⟨h1, h2, _⟩ := hcond
          cases hsl
          refine ⟨_, w, c, hrun h1 (by omega), .inl ⟨_, rfl, ?_⟩, hM, Step.refl _ _ _, fun _ _ => rfl, fun _ h => .inl h⟩
          simp only [Rel, RelD] at hx ⊢
          obtain ⟨p', cap', hv', hle', hx⟩ := hx
          rw [hv'] at hv
          cases hv
          refine ⟨_, _, rfl, by omega, ?_⟩
          by_cases h0 : h - l = 0
          · left; exact ⟨h0, by simp [h0]⟩
          · right
            rcases hx with ⟨h3, _⟩ | ⟨b, o, rfl, hb, hc⟩
            · omega
            · refine ⟨b, o + l * i.size, ?_, hb, (hc.drop _).take _⟩
              rw [if_neg (by omega)]
              simp [addr_add]
        · cases hsl
      · rename_i id e' off n' hev
        rw [hev] at hx hlen
        simp only [lenA, Option.some.injEq] at hlen
        split at hsl
        · rename_i hcond
          obtain ⟨rfl, _, h1, h2⟩ := hcond
          refine ⟨_, w, c, hrun h1 (by omega), .inl ⟨_, rfl, ?_⟩, hM, Step.refl _ _ _, fun _ _ => rfl, fun _ h => .inl h⟩
          simp only [Rel] at hx
          split at hsl
          · rename_i h0
            subst h0
            cases hsl
            simp only [Rel]
            rcases hx with ⟨h3, h4, h5, h6⟩ | ⟨b, cap', N, hb, hv', hle', hN, hcap⟩
            · left
              rw [h6] at hv
              cases hv
              exact ⟨h3, h4, by omega, by simp; omega⟩
            · right
              rw [hv'] at hv
              cases hv
              refine ⟨b, cap, N, hb, ?_, by omega, hN, hcap⟩
              simp [addr_add]
          · rename_i h0
            split at hsl
            · rename_i h3
              cases hsl
              simp only [Rel, RelD]
              exact ⟨_, _, by rw [show h - l = 0 by omega], by omega, .inl ⟨trivial, trivial⟩⟩
            · cases hsl
              simp only [Rel]
              rcases hx with ⟨_, _, h5, _⟩ | ⟨b, cap', N, hb, hv', hle', hN, hcap⟩
              · omega
              · right
                rw [hv'] at hv
                cases hv
                refine ⟨b, cap - l, N, hb, ?_, by omega, hN, ?_⟩
                · rw [if_neg (by omega)]
                  simp [addr_add]
                · have : l * i.size + (cap - l) * i.size = cap * i.size := by rw [← Nat.add_mul]; congr 1; omega
                  omega
        · cases hsl
      · cases hsl
    · cases he
  · cases he
theorem elems_len {y : AV} {esz k : Nat} {new : List AV} (h : elemsOf m esz y = some (k, new)) : new.length = k * esz := by
  unfold elemsOf at h
  split at h
  · cases h; simp
  · split at h
    · cases h; simpa
    · cases h
  · split at h
    · rename_i h1; cases h; subst h1; simp [bytesAV]
    · cases h
  · split at h
    · split at h
      · rename_i h1
        cases h
        rw [List.length_take, List.length_drop]
        omega
      · cases h
    · cases h
  · cases h
theorem elems_one {y : AV} {esz k : Nat} {new : List AV} (h : elemsOf m esz y = some (k, new)) : new.all oneB = true := by
  unfold elemsOf at h
  split at h
  · cases h; rfl
  · split at h
    · cases h; simp [oneB]
    · cases h
  · split at h
    · cases h; simp [bytesAV, oneB]
    · cases h
  · split at h
    · split at h
      · rename_i h1
        cases h
        exact h1.2.2
      · cases h
    · cases h
  · cases h
theorem run_elems {y : AV} {v : Value} {esz k : Nat} {new : List AV} (hy : Rel c w y v) (hM : MR c m w) (h : elemsOf m esz y = some (k, new)) :
    (∀ w', (Builtin.lenOf v).run P w' = .ok k w') ∧ ∃ us : List Value, RelL c w new us ∧ ∀ w', w'.heap = w.heap → (Builtin.firstCells esz k v).run P w' = .ok us.toArray w' := by
  have hlen := elems_len h
  have hload : ∀ (b o : Nat) (us : List Value), us.length = k * esz → (∀ j u, us[j]? = some u → w.cell? ⟨b, o + j, none⟩ = some u) → ∀ w', w'.heap = w.heap → (loadCells ⟨b, o, none⟩ (k * esz)).run P w' = .ok us.toArray w' := by
    intro b o us hl hc w' hw
    rw [← hl]
    exact run_loadCells P w' b o us fun j u hj => by
      have := hc j u hj
      simpa [World.cell?, hw] using this
  unfold elemsOf at h
  split at h
  · cases h
    have := rel_d_nsl hy
    subst this
    exact ⟨fun _ => rfl, [], by simp [RelL], fun _ _ => rfl⟩
  · rename_i n' cells
    split at h
    · rename_i hcl
      cases h
      simp only [Rel, RelD] at hy
      obtain ⟨p, cap, rfl, _, hy⟩ := hy
      refine ⟨fun _ => rfl, ?_⟩
      rcases hy with ⟨rfl, rfl⟩ | ⟨b, o, rfl, hb, hc⟩
      · refine ⟨[], by simp [RelL], fun w' _ => ?_⟩
        cases p with
        | none => rfl
        | some p => simp [Builtin.firstCells, loadCells, loadCellsFrom]
      · obtain ⟨us, hl, hcs, hr⟩ := cellsAt_vals (cellsAt_data hc) cells.length (by simp)
        rw [List.take_of_length_le (by simp)] at hr
        exact ⟨us, hr, fun w' hw => hload b o us (by omega) hcs w' hw⟩
    · cases h
  · rename_i s
    split at h
    · rename_i h1
      subst h1
      cases h
      have := rel_d_str hy
      subst this
      refine ⟨fun w' => ?_, s.map fun b => .int .u8 b.toNat, relL_bytes s, fun w' _ => ?_⟩
      · have hsz : (ByteArray.mk s.toArray).size = s.length := by show s.toArray.size = _; simp
        simp only [Builtin.lenOf, hsz, Sem.run_pure]
      · have := extract_str s 0 s.length
        simp only [Builtin.firstCells, this, Sem.run_pure]
        congr 1
        apply Array.ext'
        simp
    · cases h
  · rename_i id e' off len
    split at h
    · rename_i cs hcs
      split at h
      · rename_i hcond
        obtain ⟨rfl, hle, _⟩ := hcond
        cases h
        simp only [Rel] at hy
        rcases hy with ⟨_, rfl, rfl, rfl⟩ | ⟨b, cap, N, hb, rfl, _⟩
        · exact ⟨fun _ => rfl, [], by simp [RelL], fun _ _ => rfl⟩
        · refine ⟨fun _ => rfl, ?_⟩
          obtain ⟨us, hl, hcs', hr⟩ := cellsAt_vals (cellsAt_own hM hcs hb off) (k * e') (by rw [List.length_drop]; omega)
          exact ⟨us, hr, fun w' hw => hload b off us hl hcs' w' hw⟩
      · cases h
    · cases h
  · cases h
theorem cellBytes_spec : ∀ {cs : List AV} {s : List UInt8} {us : List Value}, RelL c w cs us → cellBytes cs = some s → ∃ ns : List Int, us = ns.map (Value.int .u8) ∧ s = ns.map fun n => UInt8.ofNat n.toNat
  | [], s, us, hr, h => by
    simp only [RelL] at hr
    simp only [cellBytes, Option.some.injEq] at h
    subst hr h
    exact ⟨[], rfl, rfl⟩
  | x :: cs, s, us, hr, h => by
    simp only [RelL] at hr
    obtain ⟨v, vs, rfl, hv, hr⟩ := hr
    unfold cellBytes at h
    split at h
    · rename_i h0; cases h0
    · rename_i k r h0
      cases h0
      rw [Option.map_eq_some_iff] at h
      obtain ⟨s', hs', rfl⟩ := h
      obtain ⟨ns, rfl, rfl⟩ := cellBytes_spec hr hs'
      have := rel_d_int hv
      subst this
      exact ⟨k :: ns, rfl, rfl⟩
    · cases h
theorem run_pushBytes (f : Value → ByteArray → Sem (ForInStep ByteArray)) (hf : ∀ n s, f (.int .u8 n) s = pure (ForInStep.yield (s.push (UInt8.ofNat n.toNat)))) (ns : List Int) (w : World) : ∀ (acc : ByteArray),
    (forIn (ns.map (Value.int .u8)) acc f : Sem ByteArray).run P w = .ok ⟨acc.data ++ (ns.map fun n => UInt8.ofNat n.toNat).toArray⟩ w := by
  induction ns with
  | nil => intro acc; simp
  | cons k ns ih =>
    intro acc
    simp only [List.map_cons, List.forIn_cons, Sem.run_bind, hf, Sem.run_pure, Result.andThen_ok, ih]
    congr 2
    apply Array.ext'
    simp [ByteArray.data_push]
theorem outc_cvbs {s d el : TypeId} (hs : P.underlying s = some (.slice el)) (hel : P.underlying el = some (.int .u8)) (hd : P.underlying d = some .string) {x : Operand} (hF : FR c w t a.tmps) (hM : MR c m w) {v : AV} {e : Eff}
    (he : aevN (.cvbs (cOpd x)) t m n = some (v, e)) : Outc P (do pure (.value (← convert s d (a.eval x)))) c m n w v e := by
  have hx := rel_ev hF x
  simp only [aevN] at he
  split at he
  · cases he
  rename_i hstr
  split at he
  · rename_i k cs hcs
    rw [Option.map_eq_some_iff] at he
    obtain ⟨bs, hbs, he⟩ := he
    cases he
    obtain ⟨hl, us, hr, hfc⟩ := run_elems (P := P) hx hM hcs
    have hf := hfc w rfl
    obtain ⟨ns, rfl, rfl⟩ := cellBytes_spec hr hbs
    have hlen : ∃ p cap, a.eval x = .slice p k cap := by
      cases hev : ev t (cOpd x) with
      | d y =>
        rw [hev] at hx hcs
        cases y with
        | nsl => have := rel_d_nsl hx; simp only [elemsOf, Option.some.injEq, Prod.mk.injEq] at hcs; rw [this, ← hcs.1]; exact ⟨_, _, rfl⟩
        | sl n' cells =>
          simp only [elemsOf] at hcs
          split at hcs
          · cases hcs
            simp only [Rel, RelD] at hx
            obtain ⟨p, cap, hv, _⟩ := hx
            exact ⟨p, cap, hv⟩
          · cases hcs
        | str s => exact (hstr s hev).elim
        | _ => simp [elemsOf] at hcs
      | sl id e' off len =>
        rw [hev] at hx hcs
        simp only [elemsOf] at hcs
        split at hcs
        · split at hcs
          · cases hcs
            simp only [Rel] at hx
            rcases hx with ⟨_, _, rfl, hv⟩ | ⟨b, cap, N, _, hv, _⟩
            · exact ⟨_, _, hv⟩
            · exact ⟨_, _, hv⟩
          · cases hcs
        · cases hcs
      | _ => rw [hev] at hcs; simp [elemsOf] at hcs
    obtain ⟨p, cap, hv⟩ := hlen
    rw [hv] at hf
    refine outc_pure (u := .string ⟨(ns.map fun n => UInt8.ofNat n.toNat).toArray⟩) hM ?_ (rel_str _)
    have hconv : (convert s d (.slice p k cap)).run P w = (Conv.bytesToString (.slice p k cap)).run P w := by
      simp only [convert, Sem.run_bind, underlying, run_program, Result.andThen_ok, hs, hd, Sem.run_pure]
      cases p <;> simp [hel]
    rw [hv, hconv]
    cases p with
    | none =>
      simp only [Builtin.firstCells, Sem.run_pure, Result.ok.injEq, and_true] at hf
      have : ns = [] := by
        have h1 := congrArg Array.size hf
        simp at h1
        exact List.eq_nil_of_length_eq_zero h1.symm
      subst this
      rfl
    | some p =>
      simp only [Builtin.firstCells, Nat.mul_one] at hf
      simp only [Conv.bytesToString, Sem.run_bind, hf, Result.andThen_ok, List.forIn_toArray]
      rw [run_pushBytes (P := P) _ (fun _ _ => rfl) ns w ByteArray.empty]
      simp only [Result.andThen_ok, Sem.run_pure]
      congr 3
      simp
  · cases he
end
end Go.Jq
namespace Go.Jq
open Go
section
variable {P : Program} {c : Ctx} {m : Mem} {n : Nat} {w : World} {t : Fr} {a : Act}
theorem freeze_row {w : World} {b k : Nat} {arr : Array Value} {T : TypeId} (h : w.heap[b]? = some (.cells arr T (0, 0))) :
    (w.freeze ⟨b, k, none⟩ 1).heap[b]? = some (.cells arr T (k, k + 1)) := by
  simp [World.freeze, Array.getElem?_modify, h]
theorem freeze_other {w : World} {b k j : Nat} (h : j ≠ b) : (w.freeze ⟨b, k, none⟩ 1).heap[j]? = w.heap[j]? := by
  simp only [World.freeze]
  rw [if_neg (by omega)]
  simp only [Array.getElem?_modify]
  rw [if_neg (Ne.symm h)]
theorem freeze_size {w : World} {b k : Nat} : (w.freeze ⟨b, k, none⟩ 1).heap.size = w.heap.size := by
  simp only [World.freeze]
  rw [if_neg (by omega)]
  simp
theorem freeze_rest {w : World} {b k : Nat} : (w.freeze ⟨b, k, none⟩ 1).os = w.os ∧ (w.freeze ⟨b, k, none⟩ 1).tape = w.tape ∧ (w.freeze ⟨b, k, none⟩ 1).output = w.output := by
  simp only [World.freeze]
  rw [if_neg (by omega)]
  exact ⟨rfl, rfl, rfl⟩
theorem run_stringToBytes (s : List UInt8) (T : TypeId) (w : World) :
    ∃ w' arr rest cap, (Conv.stringToBytes T ⟨s.toArray⟩).run P w = .ok (.slice (some ⟨w.heap.size, 0, none⟩) s.length cap) w' ∧ OneMore w w' arr T (arr.size, arr.size + 1) ∧
      arr.toList = (s.map fun b => Value.int .u8 b.toNat) ++ rest ∧ s.length ≤ cap ∧ arr.size = cap := by
  have hsz : (ByteArray.mk s.toArray).size = s.length := by show s.toArray.size = _; simp
  generalize hcap : Question.cut (.appendCap s.length 0 T) (w.tape w.drawn (.appendCap s.length 0 T)) = cap
  have hle : s.length ≤ cap := by rw [← hcap]; simp only [Question.cut]; omega
  generalize harr : (ByteArray.mk s.toArray).data.map (fun b => Value.int .u8 b.toNat) ++ Array.replicate (cap - s.length) (.int .u8 0) = arr
  have hal : arr.toList = (s.map fun b => Value.int .u8 b.toNat) ++ List.replicate (cap - s.length) (.int .u8 0) := by rw [← harr]; simp
  have hasz : arr.size = cap := by rw [← Array.length_toList, hal]; simp; omega
  have hw1 : (w.drew.alloc (.cells arr T)).heap[w.heap.size]? = some (.cells arr T (0, 0)) := by
    have := (oneMore_alloc w.drew arr T).row
    simpa using this
  refine ⟨(w.drew.alloc (.cells arr T)).freeze ⟨w.heap.size, arr.size, none⟩ 1, arr, List.replicate (cap - s.length) (.int .u8 0), cap, ?_, ?_, hal, hle, hasz⟩
  · have hsh : (w.drew.alloc (.cells arr T)).shape? w.heap.size = some (T, arr.size) := by simp only [World.shape?, hw1]
    simp only [Conv.stringToBytes, Sem.run_bind, run_choose, hsz, Question.forced, Bool.false_eq_true, if_false, hcap, World.drew_eq, Result.andThen_ok, newRow, harr, run_newObj, World.alloc_eq, World.size_drew, Sem.run_pure,
      markStringish, run_shape, hsh, run_freeze]
  · obtain ⟨h1, h2, h3⟩ := @freeze_rest (w.drew.alloc (.cells arr T)) w.heap.size arr.size
    refine ⟨h1, h2, h3, ?_, fun k hk => ?_, freeze_row hw1⟩
    · rw [freeze_size]; simp
    · rw [freeze_other (by omega)]
      exact (oneMore_alloc w.drew arr T).old k (by simpa using hk)
theorem outc_cvsb {s d el : TypeId} (hs : P.underlying s = some .string) (hd : P.underlying d = some (.slice el)) (hel : P.underlying el = some (.int .u8)) {x : Operand} (hF : FR c w t a.tmps) (hM : MR c m w) (hn : c.φ n = .free) {v : AV} {e : Eff}
    (he : aevN (.cvsb (cOpd x)) t m n = some (v, e)) : Outc P (do pure (.value (← convert s d (a.eval x)))) c m n w v e := by
  have hx := rel_ev hF x
  simp only [aevN] at he
  split at he
  · rename_i bs h1
    rw [h1] at hx
    cases he
    have e1 := rel_d_str hx
    obtain ⟨w', arr, rest, cap, hrun, hone, hal, hle, hsz⟩ := run_stringToBytes (P := P) bs el w
    refine outc_new (u := .slice (some ⟨w.heap.size, 0, none⟩) bs.length cap) hM hn ?_ hone (.inr (Nat.le_refl _)) hal (relL_bytes bs) ?_
    · rw [e1]
      simp only [convert, Sem.run_bind, underlying, run_program, Result.andThen_ok, hs, hd, Sem.run_pure, hel, hrun]
    · simp only [Rel]
      exact .inr ⟨w.heap.size, cap, (_, arr.size), Ctx.bind_eq, rfl, hle, rowSize_of_row hone.row, by omega⟩
  · cases he
theorem freeze_row' {w : World} {b k : Nat} {arr : Array Value} {T : TypeId} {f : Nat × Nat} (h : w.heap[b]? = some (.cells arr T f)) :
    (w.freeze ⟨b, k, none⟩ 1).heap[b]? = some (.cells arr T (if f.1 == f.2 then (k, k + 1) else (min f.1 k, max f.2 (k + 1)))) := by
  obtain ⟨lo, hi⟩ := f
  simp only [World.freeze]
  rw [if_neg (by omega)]
  simp only [Array.getElem?_modify, if_true, h, Option.map_some]
theorem outc_cvll {s el : TypeId} (hs : P.underlying s = some (.slice el)) (hel : P.underlying el = some (.int .u8)) {x : Operand} (hF : FR c w t a.tmps) (hM : MR c m w) {v : AV} {e : Eff}
    (he : aevN (.cvll (cOpd x)) t m n = some (v, e)) : Outc P (do pure (.value (← convert s s (a.eval x)))) c m n w v e := by
  have hx := rel_ev hF x
  simp only [aevN] at he
  split at he
  · rename_i id e' off len h1
    rw [h1] at hx
    split at he
    · rename_i cs hcs
      split at he
      · cases he
      · rename_i hl
        cases he
        have hx' := hx
        simp only [Rel] at hx
        rcases hx with ⟨_, _, h2, _⟩ | ⟨b, cap, N, hb, hv, hle, hN, hcap⟩
        · exact absurd h2 hl
        · rcases hM.own id cs hcs with ⟨h0, _⟩ | ⟨b', arr, T, f, hb', hni, hw, hf, vs, rest, ha, hr⟩
          · rw [h0] at hb; cases hb
          · rw [hb'] at hb
            cases hb
            have hrow := @freeze_row' w b arr.size arr T f hw
            have hto : RowTo w (w.freeze ⟨b, arr.size, none⟩ 1) b arr T (if f.1 == f.2 then (arr.size, arr.size + 1) else (min f.1 arr.size, max f.2 (arr.size + 1))) := by
              obtain ⟨q1, q2, q3⟩ := @freeze_rest w b arr.size
              exact ⟨q1, q2, q3, freeze_size, fun k hk => freeze_other hk, hrow⟩
            have hf' : NoFz arr.size (if f.1 == f.2 then (arr.size, arr.size + 1) else (min f.1 arr.size, max f.2 (arr.size + 1))) := by
              split
              · exact .inr (Nat.le_refl _)
              · rename_i hne
                rcases hf with h3 | h3
                · simp [h3] at hne
                · exact .inr (by simp only; omega)
            have hrows : ∀ k q, rowSize w k = some q → rowSize (w.freeze ⟨b, arr.size, none⟩ 1) k = some q := fun k q hq => by
              by_cases ek : k = b
              · subst ek; rw [rowSize_of_row hw] at hq; rw [rowSize_of_row hrow]; exact hq
              · rw [rowSize_eq (hto.other k ek)]; exact hq
            have hl' : Later c c w (w.freeze ⟨b, arr.size, none⟩ 1) := ⟨fun _ h => h, fun k hk => hto.other k fun ek => hni (ek ▸ hk), fun _ _ => rfl, hrows⟩
            have hown : Own c m b := ⟨id, by rw [hcs]; rfl, hb'⟩
            refine ⟨.value (a.eval x), w.freeze ⟨b, arr.size, none⟩ 1, c, ?_, .inl ⟨_, rfl, rel_mono hl' _ _ hx'⟩, ?_, ?_, fun _ _ => rfl, fun _ h => .inl h⟩
            · rw [hv]
              have hsh : w.shape? b = some (T, arr.size) := by simp only [World.shape?, hw]
              simp only [convert, Sem.run_bind, underlying, run_program, Result.andThen_ok, hs, Sem.run_pure, hel, BEq.rfl, markStringish, run_shape, hsh, run_freeze]
            · refine ⟨fun i cells hi => ?_, hM.inj, fun k hk => by rw [hto.size]; exact hM.imm k hk, hM.tabTo hl'.imm hl'.same⟩
              by_cases hib : c.φ i = .blk b
              · have : i = id := hM.inj i id b (by simp only [Eff.mem] at hi; rw [hi]; rfl) (by rw [hcs]; rfl) hib hb'
                subst this
                simp only [Eff.mem] at hi
                rw [hcs] at hi
                cases hi
                exact .inr ⟨b, arr, T, _, hb', hni, hrow, hf', vs, rest, ha, relL_mono hl' _ _ hr⟩
              · exact (hM.own i cells hi).later hl' fun k hk => ⟨hto.other k fun ek => hib (ek ▸ hk), fun him => hM.sep him ⟨i, by simp only [Eff.mem] at hi; rw [hi]; rfl, hk⟩⟩
            · exact ⟨hto.os, hto.tape, hto.output, by rw [hto.size]; exact Nat.le_refl _, fun k _ hk => hto.other k fun ek => hk (ek ▸ hown), hrows, fun _ h => h, fun _ h => .inl h⟩
    · cases he
  · cases he
theorem wrap_id {x : Int} (h : 0 ≤ x) (h' : x ≤ 9223372036854775807) : IntKind.i64.wrap x = x := by
  unfold IntKind.wrap
  have hb : IntKind.i64.bits = 64 := rfl
  have hs : IntKind.i64.signed = true := rfl
  simp only [hb, hs, Bool.true_and]
  have hmod : x % 2 ^ 64 = x := Int.emod_eq_of_lt h (by omega)
  rw [hmod]
  have : ¬ (x ≥ 2 ^ (64 - 1)) := by
    have h2 : (2 : Int) ^ (64 - 1) = 9223372036854775808 := by decide
    rw [h2]; omega
  rw [if_neg (by simpa using this)]
theorem outc_mksl {T el : TypeId} {i : TypeInfo} {z : List AV} (hu : P.underlying T = some (.slice el)) (hi : P.info? el = some i) (hz : zeroOf P el = some z) (hz0 : z.length ≠ 0) {x y : Operand}
    (hF : FR c w t a.tmps) (hM : MR c m w) (hn : c.φ n = .free) {v : AV} {e : Eff} (he : aevN (.mksl i.size i.bytes z (cOpd x) (cOpd y)) t m n = some (v, e)) :
    Outc P (do pure (.value (← Instr.makeSlice T (a.eval x) (a.eval y)))) c m n w v e := by
  have hx := rel_ev hF x
  have hy := rel_ev hF y
  simp only [aevN] at he
  split at he
  · rename_i p q h1 h2
    rw [h1] at hx
    rw [h2] at hy
    have e1 := rel_d_int hx
    have e2 := rel_d_int hy
    split at he
    · rename_i hcond
      obtain ⟨hp, hpq, hb, hq⟩ := hcond
      cases he
      obtain ⟨zv, hzv, hzz⟩ := run_zero (w := w) hz
      have hzr : RelL c w z zv.cells.toList := by rw [hzz]; exact relL_cval1 _
      have hzl2 := hzr.length
      have hzs : zv.cells.size = z.length := by simpa using hzl2
      have hle : p.toNat * i.size ≤ q.toNat * i.size := Nat.mul_le_mul_right _ (by omega)
      refine outc_new (u := .slice (some ⟨w.heap.size, 0, none⟩) p.toNat q.toNat) hM hn (T := el) (arr := (Array.range (q.toNat * i.size)).map fun j => zv.cells[j % zv.cells.size]!) ?_ (oneMore_alloc w _ el) (noFz_zero _)
        (vs := (List.range (p.toNat * i.size)).map fun j => zv.cells.toList.toArray[j % zv.cells.toList.length]!)
        (rest := ((List.range (q.toNat * i.size)).drop (p.toNat * i.size)).map fun j => zv.cells[j % zv.cells.size]!) ?_ (relL_range hzr _ (.inr hz0)) ?_
      · have hw1 := wrap_id hp (Int.le_trans hpq hq)
        have hw2 := wrap_id (Int.le_trans hp hpq) hq
        rw [e1, e2]
        simp only [Instr.makeSlice, Sem.run_bind, underlying, run_program, Result.andThen_ok, hu, Sem.run_pure, asInt, asIntOf, typeInfo, hi, hw1, hw2]
        have hno : ((decide (q < 0) || decide ((i.bytes : Int) * q > 2 ^ 48)) || decide (p < 0) || decide (p > q)) = false := by
          have : ¬ ((i.bytes : Int) * q > 2 ^ 48) := by omega
          simp
          omega
        rw [if_neg (by rw [hno]; simp)]
        simp only [Sem.run_bind, run_askRoom, Result.andThen_ok, run_sizeOf hi]
        by_cases h0 : q.toNat * i.size = 0
        · rw [if_pos h0]
          simp only [Sem.run_bind, Sem.run_pure, Result.andThen_ok, newRow, run_newObj, World.alloc_eq, h0, show Array.range 0 = #[] from rfl, Array.map_empty]
        · rw [if_neg h0]
          simp only [Sem.run_bind, hzv, Sem.run_pure, Result.andThen_ok, newRow, run_newObj, World.alloc_eq]
      · simp only [Array.toList_map, Array.toList_range, Array.toArray_toList, Array.length_toList]
        rw [← List.map_append]
        congr 1
        have := List.take_append_drop (p.toNat * i.size) (List.range (q.toNat * i.size))
        rw [List.take_range, Nat.min_eq_left hle] at this
        exact this.symm
      · simp only [Rel]
        refine .inr ⟨w.heap.size, q.toNat, (el, q.toNat * i.size), Ctx.bind_eq, rfl, by omega, ?_, by omega⟩
        rw [rowSize_of_row (oneMore_alloc w _ el).row]
        simp
    · cases he
  · cases he
structure AppT (P : Program) (ts : Array TypeId) (el : TypeId) (i : TypeInfo) : Prop where
  s : ∃ sT, ts[0]? = some sT ∧ P.underlying sT = some (.slice el)
  x : ∃ xT u, ts[1]? = some xT ∧ P.underlying xT = some u ∧ (∀ k, u ≠ .int k)
  hi : P.info? el = some i
  z : ∃ zv, i.zero = some zv ∧ zv.cells.size = i.size
theorem notInt_run {xT : TypeId} {u : TypeDesc} (hu : P.underlying xT = some u) (hne : ∀ k, u ≠ .int k) :
    ((do pure ((← underlying xT) matches .int _)) : Sem Bool).run P w = .ok false w := by
  simp only [underlying, Sem.run_bind, run_program, Result.andThen_ok, hu, Sem.run_pure]
theorem run_append_in {ts : Array TypeId} {el ty : TypeId} {i : TypeInfo} (hT : AppT P ts el i) {base : Option Addr} {sLen cap k : Nat} {x : Value} {us : List Value} {w' : World}
    (hl : ∀ w', (Builtin.lenOf x).run P w' = .ok k w') (hf : (Builtin.firstCells i.size k x).run P w = .ok us.toArray w) (hle : sLen + k ≤ cap)
    (hst : (match base with | some a => storeCells (a.add (sLen * i.size)) us | none => pure ()).run P w = .ok () w') :
    (Builtin.append_ ts ty #[.slice base sLen cap, x]).run P w = .ok (.slice base (sLen + k) cap) w' := by
  obtain ⟨⟨sT, h0, hs⟩, ⟨xT, u, h1, hu, hne⟩, hi, z, hz, hzs⟩ := hT
  have hni := notInt_run (P := P) (w := w) hu hne
  simp only [Builtin.append_, h0, h1, List.getElem?_toArray, List.getElem?_cons_zero, List.getElem?_cons_succ, Sem.run_bind, underlying, run_program, Result.andThen_ok, hs, Sem.run_pure, run_sizeOf hi]
  simp only [underlying, Sem.run_bind, run_program, Result.andThen_ok, hu, Sem.run_pure] at hni
  cases u <;> first
    | exact absurd rfl (hne _)
    | (simp only [hu, Sem.run_pure, Sem.run_bind, Result.andThen_ok, hl, Bool.false_eq_true, if_false]
       rw [if_pos hle]
       simp only [Bool.not_false, if_true, Sem.run_bind, hf, Result.andThen_ok]
       cases base with
       | none => simp only [Sem.run_pure, Result.ok.injEq, true_and] at hst; subst hst; rfl
       | some b => simp only [Sem.run_bind, hst, Result.andThen_ok, Sem.run_pure])
theorem run_append_grow {ts : Array TypeId} {el ty : TypeId} {i : TypeInfo} (hT : AppT P ts el i) {base : Option Addr} {sLen cap k : Nat} {x : Value} {vs us : List Value}
    (hl : ∀ w', (Builtin.lenOf x).run P w' = .ok k w') (hf : ∀ w', w'.heap = w.heap → (Builtin.firstCells i.size k x).run P w' = .ok us.toArray w')
    (ho : ∀ w', w'.heap = w.heap → (Builtin.firstCells i.size sLen (.slice base sLen cap)).run P w' = .ok vs.toArray w')
    (hle : cap < sLen + k) (hb : (sLen + k) * i.bytes ≤ 140737488351232) (h63 : sLen + k ≤ 9223372036854775807) (hvs : vs.length = sLen * i.size) (hus : us.length = k * i.size) :
    ∃ w' arr rest newCap, (Builtin.append_ ts ty #[.slice base sLen cap, x]).run P w = .ok (.slice (some ⟨w.heap.size, 0, none⟩) (sLen + k) newCap) w' ∧ OneMore w w' arr el (0, 0) ∧
      arr.toList = (vs ++ us) ++ rest ∧ sLen + k ≤ newCap ∧ arr.size = newCap * i.size := by
  obtain ⟨⟨sT, h0, hs⟩, ⟨xT, u, h1, hu, hne⟩, hi, z, hz, hzs⟩ := hT
  generalize hcap : Question.cut (.appendCap (sLen + k) cap el) (w.tape w.drawn (.appendCap (sLen + k) cap el)) = newCap
  have hnc : sLen + k ≤ newCap := by rw [← hcap]; simp only [Question.cut]; omega
  have hfit : ¬ (Builtin.nextslicecap (sLen + k) cap * i.bytes > 2 ^ 48) := by
    have := growslice_fits (need := sLen + k) (old := cap) (bytes := i.bytes) hle (by omega)
    omega
  have hmax : ¬ (((sLen + k : Nat) : Int) > IntKind.i64.max ∧ ((false : Bool) = true ∨ i.bytes = 0)) := by
    have : IntKind.i64.max = 9223372036854775807 := by rfl
    rw [this]; omega
  generalize hrest : Builtin.zeroCells z.cells (newCap - (sLen + k)) = rest
  have hrl : rest.size = (newCap - (sLen + k)) * i.size := by rw [← hrest, ← hzs]; simp [Builtin.zeroCells]
  refine ⟨w.drew.alloc (.cells (vs.toArray ++ us.toArray ++ rest) el), vs.toArray ++ us.toArray ++ rest, rest.toList, newCap, ?_, ?_, by simp, hnc, ?_⟩
  · simp only [Builtin.append_, h0, h1, List.getElem?_toArray, List.getElem?_cons_zero, List.getElem?_cons_succ, Sem.run_bind, underlying, run_program, Result.andThen_ok, hs, Sem.run_pure, run_sizeOf hi]
    cases u <;> first
      | exact absurd rfl (hne _)
      | (simp only [hu, Sem.run_pure, Sem.run_bind, Result.andThen_ok, hl, Bool.false_eq_true, if_false]
         rw [if_neg (Nat.not_le.2 hle)]
         simp only [Sem.run_bind, typeInfo, run_program, Result.andThen_ok, hi, Sem.run_pure, Bool.false_eq_true] at hmax ⊢
         rw [if_neg hmax]
         simp only [Sem.run_bind, run_program, Result.andThen_ok, hi, Sem.run_pure]
         rw [if_neg hfit]
         simp only [Sem.run_bind, run_choose, Question.forced, Bool.false_eq_true, if_false, hcap, World.drew_eq, Result.andThen_ok, run_askRoom, ho w.drew rfl, Bool.not_false, if_true, hf w.drew rfl, zeroValue, typeInfo, run_program, hi, Sem.run_pure, hz, hrest,
           newRow, run_newObj, World.alloc_eq, World.size_drew])
  · have h := oneMore_alloc w.drew (vs.toArray ++ us.toArray ++ rest) el
    exact ⟨h.os, h.tape, h.output, h.size, h.old, h.row⟩
  · simp only [Array.size_append, List.size_toArray, hvs, hus, hrl]
    rw [← Nat.add_mul, ← Nat.add_mul]
    congr 1
    omega
theorem own_cells {id b : Nat} {cs : List AV} (hM : MR c m w) (hid : mget m id = some cs) (hφ : c.φ id = .blk b) :
    ∃ arr T f vs rest, ¬ c.imm b ∧ w.heap[b]? = some (.cells arr T f) ∧ NoFz arr.size f ∧ arr.toList = vs ++ rest ∧ RelL c w cs vs := by
  rcases hM.own id cs hid with ⟨h0, _⟩ | ⟨b', arr, T, f, hb, hi, hw, hf, vs, rest, ha, hr⟩
  · rw [h0] at hφ; cases hφ
  · rw [hb] at hφ; cases hφ; exact ⟨arr, T, f, vs, rest, hi, hw, hf, ha, hr⟩
theorem outc_app {ts : Array TypeId} {el ty : TypeId} {i : TypeInfo} (hT : AppT P ts el i) {x y : Operand} (hF : FR c w t a.tmps) (hM : MR c m w) (hn : c.φ n = .free) {v : AV} {e : Eff}
    (hbz : i.bytes ≠ 0)
    (he : aevN (.app i.size i.bytes el (cOpd x) (cOpd y)) t m n = some (v, e)) : Outc P (do pure (.value (← Builtin.append_ ts ty #[a.eval x, a.eval y]))) c m n w v e := by
  have hx := rel_ev hF x
  have hy := rel_ev hF y
  have h63 : ∀ k len, (len + k) * i.bytes ≤ 140737488351232 → len + k ≤ 9223372036854775807 := fun k len h => by
    have := Nat.le_mul_of_pos_right (len + k) (Nat.pos_of_ne_zero hbz)
    omega
  simp only [aevN] at he
  split at he
  · rename_i k new hel
    obtain ⟨hlen, us, hus, hfc⟩ := run_elems (P := P) hy hM hel
    have hnl := elems_len hel
    have husl : us.length = k * i.size := by rw [hus.length, hnl]
    split at he
    · rename_i hev
      rw [hev] at hx
      have e1 := rel_d_nsl hx
      split at he
      · rename_i hb
        split at he
        · rename_i hk
          cases he
          subst hk
          refine outc_pure (u := .slice none 0 0) hM ?_ (by simp [Rel, RelD])
          rw [e1]
          exact run_append_in (us := us) hT hlen (hfc w rfl) (Nat.le_refl _) rfl
        · rename_i hk
          cases he
          obtain ⟨w', arr, rest, cap, hrun, hone, hal, hle, hsz⟩ := run_append_grow (ty := ty) (base := none) (sLen := 0) (cap := 0) (vs := []) hT hlen hfc (fun _ _ => rfl) (by omega) (by simpa using hb) (h63 k 0 (by simpa using hb)) (by simp) husl
          simp only [Nat.zero_add, List.nil_append] at hrun hal hle
          refine outc_new hM hn ?_ hone (noFz_zero _) hal hus ?_ (u := .slice (some ⟨w.heap.size, 0, none⟩) k cap)
          · rw [e1]; exact hrun
          · simp only [Rel]
            exact .inr ⟨w.heap.size, cap, (_, arr.size), Ctx.bind_eq, rfl, hle, rowSize_of_row hone.row, by omega⟩
      · cases he
    · rename_i id e' off len hev
      rw [hev] at hx
      split at he
      · rename_i cs hcs
        split at he
        · rename_i hcond
          obtain ⟨rfl, hend, hb⟩ := hcond
          split at he
          · rename_i hk
            subst hk
            cases he
            simp only [Rel] at hx
            rcases hx with ⟨h0, rfl, rfl, hv⟩ | ⟨b, cap, N, hb', hv, hle, hN, hcap⟩
            · refine outc_pure (u := .slice none 0 0) hM ?_ (by simp only [Rel]; exact .inl ⟨h0, trivial, trivial, trivial⟩)
              rw [hv]
              exact run_append_in (us := us) hT hlen (hfc w rfl) (Nat.le_refl _) rfl
            · refine outc_pure (u := .slice (some ⟨b, off, none⟩) len cap) hM ?_ (by simp only [Rel]; exact .inr ⟨b, cap, N, hb', rfl, hle, hN, hcap⟩)
              have : us = [] := List.eq_nil_of_length_eq_zero (by rw [husl]; simp)
              subst this
              rw [hv]
              exact run_append_in (us := []) hT hlen (hfc w rfl) (by omega) rfl
          · rename_i hk
            split at he
            · rename_i hoff
              subst hoff
              cases he
              have h63' := h63 k len hb
              simp only [Nat.zero_add] at hend
              simp only [Rel] at hx
              rcases hx with ⟨h0, _, rfl, hv⟩ | ⟨b, cap, N, hb', hv, hle, hN, hcap⟩
              · -- a nil slice under a number
                have hcs0 : cs = [] := List.eq_nil_of_length_eq_zero (by omega)
                subst hcs0
                obtain ⟨w', arr, rest, cap, hrun, hone, hal, hle, hsz⟩ := run_append_grow (ty := ty) (base := none) (sLen := 0) (cap := 0) (vs := []) hT hlen hfc (fun _ _ => rfl) (by omega) hb h63' (by simp) husl
                simp only [Nat.zero_add, List.nil_append] at hrun hal hle
                refine ⟨.value (.slice (some ⟨w.heap.size, 0, none⟩) k cap), w', c.bind n (.blk w.heap.size), ?_, .inl ⟨_, rfl, ?_⟩, ?_, hone.step n, fun _ h => Ctx.bind_ne (h.resolve_right (by simp [Eff.next])), fun b hb => ?_⟩
                · rw [hv]; simp [hrun]
                · simp only [Rel, Nat.zero_add]
                  exact .inr ⟨w.heap.size, cap, (_, arr.size), Ctx.bind_eq, rfl, hle, rowSize_of_row hone.row, by omega⟩
                · exact (hM.del id).new hone hn (noFz_zero _) hal hus
                · rcases own_new hb with h | h
                  · exact .inl (own_del h)
                  · exact .inr h
              · obtain ⟨arr, T, f, vs, rest, hni, hw, hf, ha, hr⟩ := own_cells hM hcs hb'
                have hvl : vs.length = len * i.size := by rw [hr.length]; exact hend.symm
                have hNs : N = (T, arr.size) := by rw [rowSize_of_row hw] at hN; exact (Option.some.inj hN).symm
                subst hNs
                have hsz : arr.size = vs.length + rest.length := by rw [← Array.length_toList, ha, List.length_append]
                by_cases hfit : len + k ≤ cap
                · -- in place
                  have hmul : (len + k) * i.size ≤ cap * i.size := Nat.mul_le_mul_right _ hfit
                  rw [Nat.add_mul] at hmul
                  obtain ⟨w', hst, hto⟩ := run_storeCells P b T f us w arr (len * i.size) 0 hw hf (relL_one hus (elems_one hel)) (by omega)
                  · obtain ⟨rest', hp, hpl⟩ := putVs_end us vs rest (by omega)
                    have harr : putVs arr.toList (len * i.size + 0) us = vs ++ us ++ rest' := by rw [ha, Nat.add_zero, ← hvl]; exact hp
                    rw [harr] at hto
                    have hs : (vs ++ us ++ rest').toArray.size = arr.size := by simp; omega
                    have hM1 := hM.put (cells := cs ++ new) (vs := vs ++ us) (rest := rest') hcs hb' hto hw hs hni hf (by simp) (hr.append hus)
                    have hM2 := hM1.again (n := n) (by rw [mget_mset, if_pos rfl]) hn (.blk b) hb'
                    have hmem : ∀ j, mget (mset (mdel (mset m id (cs ++ new)) id) n (cs ++ new)) j = mget (mset (mdel m id) n (cs ++ new)) j := by
                      intro j
                      simp only [mget_mset, mget_mdel]
                      by_cases h1 : id = j <;> simp [h1]
                    refine ⟨.value (.slice (some ⟨b, 0, none⟩) (len + k) cap), w', c.bind n (.blk b), ?_, .inl ⟨_, rfl, ?_⟩, ?_, ?_, fun _ h => Ctx.bind_ne (h.resolve_right (by simp [Eff.next])), fun b' hb2 => .inl (own_again (id := id) (by rw [hcs]; rfl) hb' hb2)⟩
                    · rw [hv]
                      have := run_append_in (ty := ty) (base := some ⟨b, 0, none⟩) hT hlen (hfc w rfl) hfit (w' := w') (by simp only [addr_add, Nat.zero_add]; exact hst)
                      simp [this]
                    · simp only [Rel]
                      refine .inr ⟨b, cap, (T, arr.size), Ctx.bind_eq, rfl, hfit, ?_, hcap⟩
                      rw [rowSize_of_row hto.row, hs]
                    · exact ⟨fun j cells hj => hM2.own j cells (by rw [hmem]; exact hj), fun j j' b2 h1 h2 => hM2.inj j j' b2 (by rw [hmem]; exact h1) (by rw [hmem]; exact h2), hM2.imm, hM2.tab⟩
                    · have := hto.step (c := c) hw hs ⟨id, by rw [hcs]; rfl, hb'⟩
                      exact ⟨this.os, this.tape, this.output, this.size, this.keep, this.rows, this.imm, this.imm'⟩
                · -- anew
                  have hold : ∀ w', w'.heap = w.heap → (Builtin.firstCells i.size len (.slice (some ⟨b, 0, none⟩) len cap)).run P w' = .ok vs.toArray w' := by
                    intro w' hw'
                    have := run_loadCells P w' b 0 vs fun j u hj => by
                      have h1 : w'.heap[b]? = some (.cells arr T f) := by rw [hw']; exact hw
                      rw [cell_of_row h1, ← Array.getElem?_toList, ha, Nat.zero_add, List.getElem?_append_left (List.getElem?_eq_some_iff.1 hj).1]
                      exact hj
                    rw [hvl] at this
                    exact this
                  obtain ⟨w', arr', rest', cap', hrun, hone, hal, hle', hsz'⟩ := run_append_grow (ty := ty) (base := some ⟨b, 0, none⟩) (sLen := len) (cap := cap) (vs := vs) hT hlen hfc hold (by omega) hb h63' hvl husl
                  refine ⟨.value (.slice (some ⟨w.heap.size, 0, none⟩) (len + k) cap'), w', c.bind n (.blk w.heap.size), ?_, .inl ⟨_, rfl, ?_⟩, ?_, hone.step n, fun _ h => Ctx.bind_ne (h.resolve_right (by simp [Eff.next])), fun b hb => ?_⟩
                  · rw [hv]; simp [hrun]
                  · simp only [Rel]
                    exact .inr ⟨w.heap.size, cap', (_, arr'.size), Ctx.bind_eq, rfl, hle', rowSize_of_row hone.row, by omega⟩
                  · exact (hM.del id).new hone hn (noFz_zero _) hal (hr.append hus)
                  · rcases own_new hb with h | h
                    · exact .inl (own_del h)
                    · exact .inr h
            · cases he
        · cases he
      · cases he
    · rename_i id T' len hev
      rw [hev] at hx
      split at he
      · rename_i cs hcs
        split at he
        · rename_i hcond
          obtain ⟨hsz1, rfl, hend0, hb⟩ := hcond
          have hend : len * i.size = cs.length := by rw [hsz1, Nat.mul_one]; exact hend0
          split at he
          · rename_i hk
            subst hk
            cases he
            simp only [Rel] at hx
            rcases hx with ⟨h0, rfl, hv⟩ | ⟨b, cap, N, hb', hv, hle, hN, hcap⟩
            · refine outc_pure (u := .slice none 0 0) hM ?_ (by simp only [Rel]; exact .inl ⟨h0, trivial, trivial⟩)
              rw [hv]
              exact run_append_in (us := us) hT hlen (hfc w rfl) (Nat.le_refl _) rfl
            · refine outc_pure (u := .slice (some ⟨b, 0, none⟩) len cap) hM ?_ (by simp only [Rel]; exact .inr ⟨b, cap, N, hb', rfl, hle, hN, hcap⟩)
              have : us = [] := List.eq_nil_of_length_eq_zero (by rw [husl]; simp)
              subst this
              rw [hv]
              exact run_append_in (us := []) hT hlen (hfc w rfl) (by omega) rfl
          · rename_i hk
            · cases he
              have h63' := h63 k len hb
              simp only [Rel] at hx
              rcases hx with ⟨h0, rfl, hv⟩ | ⟨b, cap, N, hb', hv, hle, hN, hcap⟩
              · -- a nil slice under a number
                have hcs0 : cs = [] := List.eq_nil_of_length_eq_zero (by omega)
                subst hcs0
                obtain ⟨w', arr, rest, cap, hrun, hone, hal, hle, hsz⟩ := run_append_grow (ty := ty) (base := none) (sLen := 0) (cap := 0) (vs := []) hT hlen hfc (fun _ _ => rfl) (by omega) hb h63' (by simp) husl
                simp only [Nat.zero_add, List.nil_append] at hrun hal hle
                refine ⟨.value (.slice (some ⟨w.heap.size, 0, none⟩) k cap), w', c.bind n (.blk w.heap.size), ?_, .inl ⟨_, rfl, ?_⟩, ?_, hone.step n, fun _ h => Ctx.bind_ne (h.resolve_right (by simp [Eff.next])), fun b hb => ?_⟩
                · rw [hv]; simp [hrun]
                · simp only [Rel, Nat.zero_add]
                  exact .inr ⟨w.heap.size, cap, arr.size, Ctx.bind_eq, rfl, hle, rowSize_of_row hone.row, by rw [hsz, hsz1]; omega⟩
                · exact (hM.del id).new hone hn (noFz_zero _) hal hus
                · rcases own_new hb with h | h
                  · exact .inl (own_del h)
                  · exact .inr h
              · obtain ⟨arr, T, f, vs, rest, hni, hw, hf, ha, hr⟩ := own_cells hM hcs hb'
                have hvl : vs.length = len * i.size := by rw [hr.length]; exact hend.symm
                have hNs : (T, arr.size) = (T', N) := by rw [rowSize_of_row hw] at hN; exact Option.some.inj hN
                cases hNs
                have hcap1 : cap * i.size ≤ arr.size := by rw [hsz1]; omega
                have hsz : arr.size = vs.length + rest.length := by rw [← Array.length_toList, ha, List.length_append]
                by_cases hfit : len + k ≤ cap
                · -- in place
                  have hmul : (len + k) * i.size ≤ cap * i.size := Nat.mul_le_mul_right _ hfit
                  rw [Nat.add_mul] at hmul
                  obtain ⟨w', hst, hto⟩ := run_storeCells P b _ f us w arr (len * i.size) 0 hw hf (relL_one hus (elems_one hel)) (by omega)
                  · obtain ⟨rest', hp, hpl⟩ := putVs_end us vs rest (by omega)
                    have harr : putVs arr.toList (len * i.size + 0) us = vs ++ us ++ rest' := by rw [ha, Nat.add_zero, ← hvl]; exact hp
                    rw [harr] at hto
                    have hs : (vs ++ us ++ rest').toArray.size = arr.size := by simp; omega
                    have hM1 := hM.put (cells := cs ++ new) (vs := vs ++ us) (rest := rest') hcs hb' hto hw hs hni hf (by simp) (hr.append hus)
                    have hM2 := hM1.again (n := n) (by rw [mget_mset, if_pos rfl]) hn (.blk b) hb'
                    have hmem : ∀ j, mget (mset (mdel (mset m id (cs ++ new)) id) n (cs ++ new)) j = mget (mset (mdel m id) n (cs ++ new)) j := by
                      intro j
                      simp only [mget_mset, mget_mdel]
                      by_cases h1 : id = j <;> simp [h1]
                    refine ⟨.value (.slice (some ⟨b, 0, none⟩) (len + k) cap), w', c.bind n (.blk b), ?_, .inl ⟨_, rfl, ?_⟩, ?_, ?_, fun _ h => Ctx.bind_ne (h.resolve_right (by simp [Eff.next])), fun b' hb2 => .inl (own_again (id := id) (by rw [hcs]; rfl) hb' hb2)⟩
                    · rw [hv]
                      have := run_append_in (ty := ty) (base := some ⟨b, 0, none⟩) hT hlen (hfc w rfl) hfit (w' := w') (by simp only [addr_add, Nat.zero_add]; exact hst)
                      simp [this]
                    · simp only [Rel]
                      refine .inr ⟨b, cap, arr.size, Ctx.bind_eq, rfl, hfit, ?_, hcap⟩
                      rw [rowSize_of_row hto.row, hs]
                    · exact ⟨fun j cells hj => hM2.own j cells (by rw [hmem]; exact hj), fun j j' b2 h1 h2 => hM2.inj j j' b2 (by rw [hmem]; exact h1) (by rw [hmem]; exact h2), hM2.imm, hM2.tab⟩
                    · have := hto.step (c := c) hw hs ⟨id, by rw [hcs]; rfl, hb'⟩
                      exact ⟨this.os, this.tape, this.output, this.size, this.keep, this.rows, this.imm, this.imm'⟩
                · -- anew
                  have hold : ∀ w', w'.heap = w.heap → (Builtin.firstCells i.size len (.slice (some ⟨b, 0, none⟩) len cap)).run P w' = .ok vs.toArray w' := by
                    intro w' hw'
                    have := run_loadCells P w' b 0 vs fun j u hj => by
                      have h1 : w'.heap[b]? = some (.cells arr T' f) := by rw [hw']; exact hw
                      rw [cell_of_row h1, ← Array.getElem?_toList, ha, Nat.zero_add, List.getElem?_append_left (List.getElem?_eq_some_iff.1 hj).1]
                      exact hj
                    rw [hvl] at this
                    exact this
                  obtain ⟨w', arr', rest', cap', hrun, hone, hal, hle', hsz'⟩ := run_append_grow (ty := ty) (base := some ⟨b, 0, none⟩) (sLen := len) (cap := cap) (vs := vs) hT hlen hfc hold (by omega) hb h63' hvl husl
                  refine ⟨.value (.slice (some ⟨w.heap.size, 0, none⟩) (len + k) cap'), w', c.bind n (.blk w.heap.size), ?_, .inl ⟨_, rfl, ?_⟩, ?_, hone.step n, fun _ h => Ctx.bind_ne (h.resolve_right (by simp [Eff.next])), fun b hb => ?_⟩
                  · rw [hv]; simp [hrun]
                  · simp only [Rel]
                    exact .inr ⟨w.heap.size, cap', arr'.size, Ctx.bind_eq, rfl, hle', rowSize_of_row hone.row, by rw [hsz', hsz1]; omega⟩
                  · exact (hM.del id).new hone hn (noFz_zero _) hal (hr.append hus)
                  · rcases own_new hb with h | h
                    · exact .inl (own_del h)
                    · exact .inr h
        · cases he
      · cases he
    · cases he
  · cases he
end
end Go.Jq

/- The abstract layer: renaming, states, contracts. -/
namespace Go.Jq
open Go
section
variable {P : Program} {c : Ctx} {m : Mem} {n : Nat} {w : World} {t : Fr} {a : Act}
theorem eqCells_len : ∀ {ks : List Nat} {xs ys : List AV} {b : Bool}, eqCells ks xs ys = some b → xs.length = ks.length ∧ ys.length = ks.length
  | [], [], [], _, _ => ⟨rfl, rfl⟩
  | [], [], _ :: _, _, h => by simp [eqCells] at h
  | [], _ :: _, _, _, h => by simp [eqCells] at h
  | _ :: _, [], _, _, h => by simp [eqCells] at h
  | _ :: _, _ :: _, [], _, h => by simp [eqCells] at h
  | k :: ks, x :: xs, y :: ys, b, h => by
    simp only [eqCells] at h
    split at h
    · rename_i p q h1 h2
      have := eqCells_len h2
      simp [this.1, this.2]
    · cases h
theorem eqCells_append : ∀ {ks ks' : List Nat} {xs ys : List AV} {b : Bool}, eqCells (ks ++ ks') xs ys = some b →
    ∃ p q, eqCells ks (xs.take ks.length) (ys.take ks.length) = some p ∧ eqCells ks' (xs.drop ks.length) (ys.drop ks.length) = some q ∧ b = (p && q)
  | [], ks', xs, ys, b, h => ⟨true, b, by simp [eqCells], by simpa using h, rfl⟩
  | k :: ks, ks', xs, ys, b, h => by
    cases xs with
    | nil => simp [eqCells] at h
    | cons x xs =>
      cases ys with
      | nil => simp [eqCells] at h
      | cons y ys =>
        simp only [List.cons_append, eqCells] at h
        split at h
        · rename_i p q h1 h2
          cases h
          obtain ⟨p', q', h3, h4, rfl⟩ := eqCells_append h2
          refine ⟨p && p', q', ?_, by simpa using h4, by rw [Bool.and_assoc]⟩
          simp only [List.length_cons, List.take_succ_cons, eqCells, h1, h3]
        · cases h
def EqTy (P : Program) (d : Nat) (T : TypeId) (ks : List Nat) : Prop :=
  ∀ (c : Ctx) (w : World) (xs ys : List AV) (us vs : List Value) (off : Nat) (b : Bool), RelL c w xs us → RelL c w ys vs → (P.info? T).map (·.size) = some ks.length →
    eqCells ks ((xs.drop off).take ks.length) ((ys.drop off).take ks.length) = some b →
    ∃ u v, (part T us.toArray off).run P w = .ok u w ∧ (part T vs.toArray off).run P w = .ok v w ∧ (Op.equalIn d T u v).run P w = .ok b w
theorem run_eqFields {d : Nat} {sz : TypeId → Option (List Nat)} (hsz : ∀ T ks, sz T = some ks → EqTy P d T ks) :
    ∀ {fs : List Field} {acc : Nat} {ks : List Nat} {xs ys : List AV} {us vs : List Value} {b : Bool}, flatFs P sz fs acc = some ks → RelL c w xs us → RelL c w ys vs →
      eqCells ks ((xs.drop acc).take ks.length) ((ys.drop acc).take ks.length) = some b → (Op.eqFields d us.toArray vs.toArray fs).run P w = .ok b w
  | [], acc, ks, xs, ys, us, vs, b, h, _, _, he => by
    simp only [flatFs, Option.some.injEq] at h
    subst h
    simp [eqCells] at he
    subst he
    rfl
  | f :: fs, acc, ks, xs, ys, us, vs, b, h, hx, hy, he => by
    simp only [flatFs] at h
    split at h
    · rename_i s hs
      split at h
      · rename_i hcond
        obtain ⟨h1, rfl, h3⟩ := hcond
        rw [Option.map_eq_some_iff] at h
        obtain ⟨r, hr, rfl⟩ := h
        obtain ⟨p, q, hp, hq, rfl⟩ := eqCells_append he
        rw [List.take_take, List.take_take, Nat.min_eq_left (by simp)] at hp
        rw [List.drop_take, List.drop_take, List.drop_drop, List.drop_drop] at hq
        have hle : (s ++ r).length - s.length = r.length := by simp
        rw [hle] at hq
        obtain ⟨u, v, hu, hv, heq⟩ := hsz _ _ hs c w xs ys us vs f.offset p hx hy h3 hp
        have ih := run_eqFields hsz hr hx hy hq
        simp only [Op.eqFields, ne_eq, h1, not_false_eq_true, if_true, Sem.run_bind, hu, hv, heq, Result.andThen_ok, Sem.run_ite, Sem.run_pure, ih]
        cases p <;> simp
      · cases h
    · cases h
theorem eqTy_of : ∀ (d : Nat) (T : TypeId) (ks : List Nat), flatSz P d T = some ks → ∀ D, d ≤ D → EqTy P D T ks
  | 0, T, ks, h, D, hD => by simp [flatSz] at h
  | d + 1, T, ks, h, 0, hD => by omega
  | d + 1, T, ks, h, D + 1, hD => by
    intro c w xs ys us vs off b hx hy hi he
    have scalar : ∀ k, ks = [k] → (isAgg T).run P w = .ok false w → (∀ x y u v, Rel c w x u → Rel c w y v → eqCell k x y = some b → (Op.equalIn (D + 1) T u v).run P w = .ok b w) →
        ∃ u v, (part T us.toArray off).run P w = .ok u w ∧ (part T vs.toArray off).run P w = .ok v w ∧ (Op.equalIn (D + 1) T u v).run P w = .ok b w := by
      intro k hk hagg hsc
      subst hk
      have hl := eqCells_len he
      cases hxd : xs.drop off with
      | nil => rw [hxd] at hl; simp at hl
      | cons x xr =>
        cases hyd : ys.drop off with
        | nil => rw [hyd] at hl; simp at hl
        | cons y yr =>
          rw [hxd, hyd] at he
          simp only [List.length_cons, List.length_nil, Nat.zero_add, List.take_succ_cons, List.take_zero, eqCells] at he
          split at he
          · rename_i p q h1 h2
            cases h2
            cases he
            obtain ⟨u, hu, hru⟩ := (hx.drop off).get (i := 0) (x := x) (by rw [hxd]; rfl)
            obtain ⟨v, hv, hrv⟩ := (hy.drop off).get (i := 0) (x := y) (by rw [hyd]; rfl)
            have hu' : us[off]? = some u := by rw [← hu, List.getElem?_drop]; simp
            have hv' : vs[off]? = some v := by rw [← hv, List.getElem?_drop]; simp
            refine ⟨u, v, ?_, ?_, hsc x y u v hru hrv (by simpa using h1)⟩
            · simp only [part, Sem.run_bind, hagg, Result.andThen_ok, Bool.false_eq_true, if_false, List.getElem?_toArray, hu', Sem.run_pure]
            · simp only [part, Sem.run_bind, hagg, Result.andThen_ok, Bool.false_eq_true, if_false, List.getElem?_toArray, hv', Sem.run_pure]
          · cases he
    simp only [flatSz] at h
    split at h
    · rename_i k hu
      cases h
      refine scalar 0 rfl (by simp [isAgg, underlying, hu]) fun x y u v hx hy h => ?_
      unfold eqCell at h
      split at h
      · have e1 := rel_d_int hx
        have e2 := rel_d_int hy
        subst e1 e2
        split at h
        · rename_i hkk
          subst hkk
          cases h
          rw [run_equalIn_int w D T _ k _ _ hu]; rfl
        · cases h
      · cases ‹(0 : Nat) = 1›
      · cases ‹(0 : Nat) = 2›
      · cases h
    · rename_i hu
      cases h
      refine scalar 1 rfl (by simp [isAgg, underlying, hu]) fun x y u v hx hy h => ?_
      unfold eqCell at h
      split at h
      · cases ‹(1 : Nat) = 0›
      · have e1 := rel_d_bool hx
        have e2 := rel_d_bool hy
        subst e1 e2
        cases h
        rw [run_equalIn_bool' w D T _ _ hu]
      · cases ‹(1 : Nat) = 2›
      · cases h
    · rename_i hu
      cases h
      refine scalar 2 rfl (by simp [isAgg, underlying, hu]) fun x y u v hx hy h => ?_
      unfold eqCell at h
      split at h
      · cases ‹(2 : Nat) = 0›
      · cases ‹(2 : Nat) = 1›
      · have e1 := rel_d_str hx
        have e2 := rel_d_str hy
        subst e1 e2
        cases h
        rw [run_equalIn_string w D T _ _ hu]
        simp only [ByteArray.toList_mk]
        congr 1
        rw [Bool.eq_iff_iff]
        simp
      · cases h
    · rename_i fs hu
      split at h
      · cases h
      · rename_i hst
        have hagg : (isAgg T).run P w = .ok true w := by simp [isAgg, underlying, hu]
        obtain ⟨i, hi', his⟩ := Option.map_eq_some_iff.1 hi
        have hfo : P.fieldsOf T = fs := by simp [Program.fieldsOf, hu]
        have hext : ∀ zs : List Value, zs.toArray.extract off (off + ks.length) = ((zs.drop off).take ks.length).toArray := by
          intro zs
          apply Array.ext'
          simp only [Array.toList_extract, List.extract_eq_take_drop]
          simp
        refine ⟨.agg ((us.drop off).take ks.length).toArray, .agg ((vs.drop off).take ks.length).toArray, ?_, ?_, ?_⟩
        · simp only [part, Sem.run_bind, hagg, Result.andThen_ok, if_true, run_sizeOf hi', his, Sem.run_pure, hext]
        · simp only [part, Sem.run_bind, hagg, Result.andThen_ok, if_true, run_sizeOf hi', his, Sem.run_pure, hext]
        · rw [run_equalIn_struct w D T _ _ (by rw [hfo]; exact hu) (by simpa using hst), hfo]
          refine run_eqFields (fun T' ks' h' => eqTy_of d T' ks' h' D (by omega)) h ((hx.drop off).take _) ((hy.drop off).take _) ?_
          rw [List.drop_zero, List.drop_zero, List.take_take, List.take_take, Nat.min_self]
          exact he
    · cases h
theorem outc_eqs {op : BinOp} {neg : Bool} (hop : (op = .eql ∧ neg = false) ∨ (op = .neq ∧ neg = true)) {T : TypeId} {fs : Array Field} {ks : List Nat} (hu : P.underlying T = some (.struct fs))
    (hk : flatSz P 20 T = some ks) (hg : P.eqGuardType P.depth T = false) {x y : Operand} (hF : FR c w t a.tmps) (hM : MR c m w) {v : AV} {e : Eff} (he : aevN (.eqs ks neg (cOpd x) (cOpd y)) t m n = some (v, e)) :
    Outc P (do pure (.value (← (do eqGuard op T x y (a.eval x) (a.eval y); binOp op T (a.eval x) (a.eval y))))) c m n w v e := by
  have hx := rel_ev hF x
  have hy := rel_ev hF y
  simp only [aevN] at he
  split at he
  · rename_i xs ys h1 h2
    rw [h1] at hx
    rw [h2] at hy
    rw [Option.map_eq_some_iff] at he
    obtain ⟨b, hb, he⟩ := he
    cases he
    obtain ⟨us, e1, hru⟩ := rel_agg hx
    obtain ⟨vs, e2, hrv⟩ := rel_agg hy
    have heq : (Op.equalIn 10000 T (.agg us.toArray) (.agg vs.toArray)).run P w = .ok b w := by
      have hfo : P.fieldsOf T = fs := by simp [Program.fieldsOf, hu]
      rw [show (20 : Nat) = 19 + 1 from rfl, flatSz, hu] at hk
      dsimp only at hk
      split at hk
      · cases hk
      · rename_i hst
        rw [run_equalIn_struct w 9999 T _ _ (by rw [hfo]; exact hu) (by simpa using hst), hfo]
        refine run_eqFields (fun T' ks' h' => eqTy_of 19 T' ks' h' 9999 (by omega)) hk hru hrv ?_
        have hl := eqCells_len hb
        rw [List.drop_zero, List.drop_zero, List.take_of_length_le (by omega), List.take_of_length_le (by omega)]
        exact hb
    refine outc_pure hM ?_ (rel_boolA _)
    rw [e1, e2]
    rcases hop with ⟨rfl, rfl⟩ | ⟨rfl, rfl⟩
    · simp only [Sem.run_bind, run_eqGuard_agg _ _ _ _ _ _ _ hg, Result.andThen_ok, run_eql_struct, heq, Bool.bne_false]
    · simp only [Sem.run_bind, run_eqGuard_agg _ _ _ _ _ _ _ hg, Result.andThen_ok, run_neq_struct, heq, Bool.bne_true]
  · cases he
end
end Go.Jq
namespace Go.Jq
open Go
section
variable {P : Program} {c : Ctx} {m : Mem} {n : Nat} {w : World} {t : Fr} {a : Act}
theorem outc_binop {op : BinOp} {T : TypeId} {x y : Operand} {yT : TypeId} {ao : AOp} (hc : cOp P (.binOp op T x y yT) = some ao) (hF : FR c w t a.tmps) (hM : MR c m w) {v : AV} {e : Eff}
    (he : aevN ao t m n = some (v, e)) : Outc P (do pure (.value (← (do eqGuard op T x y (a.eval x) (a.eval y); binOp op T (a.eval x) (a.eval y))))) c m n w v e := by
  simp only [cOp] at hc
  split at hc
  · cases hc; exact outc_bin hF hM he
  · cases hc; exact outc_bin hF hM he
  · rename_i hu
    split at hc <;> cases hc
    · exact outc_eqb (.inl ⟨rfl, rfl⟩) hu hF hM he
    · exact outc_eqb (.inr ⟨rfl, rfl⟩) hu hF hM he
  · rename_i el hu
    split at hc <;> cases hc
    · exact outc_eqp (.inl ⟨rfl, rfl⟩) hu hF hM he
    · exact outc_eqp (.inr ⟨rfl, rfl⟩) hu hF hM he
  · rename_i hu
    split at hc <;> cases hc
    · exact outc_eqf (.inl ⟨rfl, rfl⟩) hu hF hM he
    · exact outc_eqf (.inr ⟨rfl, rfl⟩) hu hF hM he
  · rename_i fs hu
    split at hc
    · rename_i ks hk
      split at hc
      · cases hc
      · rename_i hg
        split at hc <;> cases hc
        · exact outc_eqs (.inl ⟨rfl, rfl⟩) hu hk (by simpa using hg) hF hM he
        · exact outc_eqs (.inr ⟨rfl, rfl⟩) hu hk (by simpa using hg) hF hM he
    · cases hc
  · cases hc
theorem outc_convert {s d : TypeId} {x : Operand} {ao : AOp} (hc : cOp P (.convert s d x) = some ao) (hF : FR c w t a.tmps) (hM : MR c m w) (hn : c.φ n = .free) {v : AV} {e : Eff}
    (he : aevN ao t m n = some (v, e)) : Outc P (do pure (.value (← convert s d (a.eval x)))) c m n w v e := by
  simp only [cOp] at hc
  split at hc
  · rename_i k k' h1 h2; cases hc; exact outc_cvi h1 h2 hF hM he
  · rename_i k h1 h2; cases hc; exact outc_cvrune (.inl ⟨k, h1⟩) h2 hF hM he
  · rename_i h1 h2; cases hc; exact outc_cvrune (.inr h1) h2 hF hM he
  · rename_i el h1 h2
    split at hc
    · rename_i h3; cases hc; exact outc_cvbs h1 h3 h2 hF hM he
    · cases hc
  · rename_i el h1 h2
    split at hc
    · rename_i h3; cases hc; exact outc_cvsb h1 h2 h3 hF hM hn he
    · cases hc
  · rename_i e1 el h1 h2
    split at hc
    · rename_i hsd
      subst hsd
      split at hc
      · rename_i h3; cases hc; exact outc_cvll h2 h3 hF hM he
      · cases hc
    · cases hc
  · cases hc
theorem outc_slice {T : TypeId} {x : Operand} {lo hi : Option Operand} {ao : AOp} (hc : cOp P (.slice T x lo hi none) = some ao) (hF : FR c w t a.tmps) (hM : MR c m w) {v : AV} {e : Eff}
    (he : aevN ao t m n = some (v, e)) : Outc P (do pure (.value (← Instr.sliceAt T (a.eval x) (lo.map a.eval) (hi.map a.eval) none))) c m n w v e := by
  simp only [cOp] at hc
  split at hc
  · rename_i hu; cases hc; exact outc_slcs hu hF hM he
  · rename_i el hu
    split at hc
    · rename_i i hi; cases hc; exact outc_slcl hu hi hF hM he
    · cases hc
  · cases hc
theorem outc_builtin {b : Builtin} {ts : Array TypeId} {ty : TypeId} {cs : Array Bool} {args : Array Operand} {ao : AOp} (hc : cBuiltin P b ts args = some ao) (hF : FR c w t a.tmps) (hM : MR c m w) (hn : c.φ n = .free) {v : AV} {e : Eff}
    (he : aevN ao t m n = some (v, e)) : Outc P (builtin b ts ty cs (args.map a.eval)) c m n w v e := by
  unfold cBuiltin at hc
  split at hc
  · rename_i T x hts hargs
    have ha : args.map a.eval = #[a.eval x] := by rw [← Array.toArray_toList (xs := args), hargs]; simp
    rw [ha]
    split at hc
    · rename_i hu; cases hc; exact outc_lens hts hu hF hM he
    · rename_i el hu; cases hc; exact outc_lenl hts hu hF hM he
    · rename_i k el hu
      cases hc
      simp only [aevN, ev, Option.some.injEq, Prod.mk.injEq] at he
      obtain ⟨rfl, rfl⟩ := he
      have h0 : ts[0]? = some T := by rw [← Array.getElem?_toList, hts]; rfl
      refine outc_pure (u := .int .i64 k) hM ?_ (rel_int _ _)
      simp [Builtin.len_, h0, underlying, hu, goInt]
    · cases hc
  · rename_i s xT x y hts hargs
    have ha : args.map a.eval = #[a.eval x, a.eval y] := by rw [← Array.toArray_toList (xs := args), hargs]; simp
    rw [ha]
    split at hc
    · rename_i el u hs hx
      split at hc
      · cases hc
      · rename_i hne
        split at hc
        · rename_i i hi
          split at hc
          · rename_i z hz
            split at hc
            · rename_i hzs
              cases hc
              have h0 : ts[0]? = some s := by rw [← Array.getElem?_toList, hts]; rfl
              have h1 : ts[1]? = some xT := by rw [← Array.getElem?_toList, hts]; rfl
              exact outc_app (i := i) ⟨⟨s, h0, hs⟩, ⟨xT, u, h1, hx, fun k hk => by subst hk; exact absurd rfl hne⟩, hi, z, hz, hzs.1⟩ hF hM hn hzs.2 he
            · cases hc
          · cases hc
        · cases hc
    · cases hc
  · rename_i x y hargs
    have ha : args.map a.eval = #[a.eval x, a.eval y] := by rw [← Array.toArray_toList (xs := args), hargs]; simp
    rw [ha]
    cases hc
    exact outc_min hF hM he
  · rename_i x y hargs
    have ha : args.map a.eval = #[a.eval x, a.eval y] := by rw [← Array.toArray_toList (xs := args), hargs]; simp
    rw [ha]
    cases hc
    exact outc_max hF hM he
  · cases hc
theorem aevN_sound {o : Oper} {ao : AOp} (hc : cOp P o.op = some ao) (hF : FR c w t a.tmps) (hM : MR c m w) (hn : c.φ n = .free) {v : AV} {e : Eff}
    (he : aevN ao t m n = some (v, e)) : Outc P (execOp a.eval o) c m n w v e := by
  obtain ⟨dst, op, ty, pos, after, guard⟩ := o
  simp only at hc
  cases op with
  | move x => simp only [cOp, Option.some.injEq] at hc; subst hc; simp only [aevN, Option.some.injEq, Prod.mk.injEq] at he; obtain ⟨rfl, rfl⟩ := he; exact outc_mv hF hM
  | assign x => simp only [cOp, Option.some.injEq] at hc; subst hc; simp only [aevN, Option.some.injEq, Prod.mk.injEq] at he; obtain ⟨rfl, rfl⟩ := he; exact outc_mv hF hM
  | pick x y z => simp only [cOp, Option.some.injEq] at hc; subst hc; exact outc_pick hF hM he
  | alloc T =>
    simp only [cOp, Option.map_eq_some_iff] at hc
    obtain ⟨z, hz, rfl⟩ := hc
    simp only [aevN, Option.some.injEq, Prod.mk.injEq] at he
    obtain ⟨rfl, rfl⟩ := he
    exact outc_alloc hz hM hn
  | box T x =>
    simp only [cOp, Option.some.injEq] at hc
    subst hc
    simp only [aevN, Option.map_eq_some_iff, Prod.mk.injEq] at he
    obtain ⟨cs, hcs, rfl, rfl⟩ := he
    exact outc_box hF hM hn hcs
  | build T ps => exact outc_build hc hF hM he
  | buildSlice T len ps => exact outc_bslice hc hF hM hn he
  | load T x =>
    simp only [cOp, Option.map_eq_some_iff] at hc
    obtain ⟨k, hk, rfl⟩ := hc
    exact outc_load hk hF hM he
  | store T x y =>
    simp only [cOp, Option.map_eq_some_iff] at hc
    obtain ⟨i, hi, rfl⟩ := hc
    exact outc_store hi hF hM he
  | nilCheck x =>
    simp only [cOp, Option.some.injEq] at hc
    subst hc
    obtain ⟨u, hu, rfl, hev, hsh⟩ := outc_nilck hF he
    have : execOp a.eval ⟨dst, .nilCheck x, ty, pos, after, guard⟩ = pure (.value u) := by
      rcases hsh with ⟨ad, rfl⟩ | ⟨f, cs, rfl⟩ <;> simp only [execOp, hev]
    rw [this]
    exact outc_val hM hu
  | binOp op T x y yT => exact outc_binop hc hF hM he
  | unOp op T x => simp only [cOp, Option.some.injEq] at hc; subst hc; exact outc_un hF hM he
  | convert s d x => exact outc_convert hc hF hM hn he
  | makeFunc f first caps =>
    cases f with
    | func f =>
      simp only [cOp] at hc
      split at hc
      · rename_i hf
        cases hc
        simp only [aevN, Option.some.injEq, Prod.mk.injEq] at he
        obtain ⟨rfl, rfl⟩ := he
        have : first = #[] := Array.isEmpty_iff.1 hf
        subst this
        have := outc_mkfn (P := P) (n := n) (f := f) (caps := caps) hF hM
        rw [← Array.map_empty (f := a.eval)] at this
        exact this
      · cases hc
    | _ => simp [cOp] at hc
  | makeSlice T l k =>
    simp only [cOp] at hc
    split at hc
    · rename_i el hu
      split at hc
      · rename_i i z hi hz
        split at hc
        · rename_i hcond; cases hc; exact outc_mksl hu hi hz hcond.2 hF hM hn he
        · cases hc
      · cases hc
    · cases hc
  | slice T x lo hi mx =>
    cases mx with
    | none => exact outc_slice hc hF hM he
    | some q => simp [cOp] at hc
  | fieldAddr s x f =>
    simp only [cOp] at hc
    split at hc
    · rename_i fs hu
      split at hc
      · rename_i off size hf
        split at hc
        · cases hc
        · rename_i hs; cases hc; exact outc_faddr hu hf hs hF hM he
      · cases hc
    · cases hc
  | field s x f =>
    simp only [cOp] at hc
    split at hc
    · rename_i fs hu
      split at hc
      · rename_i fd hf
        rw [Option.map_eq_some_iff] at hc
        obtain ⟨k, hk, rfl⟩ := hc
        exact outc_fld hu hf hk hF hM he
      · cases hc
    · cases hc
  | indexAddr T x i =>
    simp only [cOp] at hc
    split at hc
    · rename_i el hu
      rw [Option.map_eq_some_iff] at hc
      obtain ⟨i', hi', rfl⟩ := hc
      exact outc_iaddrS hu hi' hF hM he
    · rename_i k el hu
      rw [Option.map_eq_some_iff] at hc
      obtain ⟨i', hi', rfl⟩ := hc
      exact outc_iaddrA hu hi' hF hM he
    · cases hc
  | index T x i =>
    simp only [cOp] at hc
    split at hc
    · rename_i hu; cases hc; exact outc_idxs hu hF hM he
    · rename_i k el hu
      split at hc
      · rename_i i' q hi' hq; cases hc; exact outc_idxa hu hi' hq hF hM he
      · cases hc
    · cases hc
  | extract x i => simp only [cOp, Option.some.injEq] at hc; subst hc; exact outc_ext hF hM he
  | call cl =>
    obtain ⟨callee, args, ts⟩ := cl
    simp only [cOp] at hc
    cases callee with
    | builtin b => exact outc_builtin hc hF hM hn he
    | value f =>
      cases f with
      | func f =>
        simp only at hc
        split at hc
        · cases hc; simp [aevN] at he
        · cases hc
      | _ => simp only [Option.some.injEq] at hc; subst hc; simp [aevN] at he
    | invoke r mth => simp at hc
  | _ => simp [cOp] at hc
end
end Go.Jq
namespace Go.Jq
open Go
abbrev Ren := List (Nat × Nat)
def pget : Ren → Nat → Option Nat
  | [], _ => none
  | (i, j) :: r, k => if i = k then some j else pget r k
mutual
def AV.ren (π : Nat → Option Nat) : AV → AV
  | .d x => .d x
  | .ptr id off => match π id with
    | some j => .ptr j off
    | none => .any
  | .npt id T => match π id with
    | some j => .npt j T
    | none => .any
  | .dptr cs => .dptr cs
  | .sl id esz off len => match π id with
    | some j => .sl j esz off len
    | none => .any
  | .slT id T len => match π id with
    | some j => .slT j T len
    | none => .any
  | .fn f caps => .fn f (renL π caps)
  | .agg cs => .agg (renL π cs)
  | .tup vs => .tup (renL π vs)
  | .any => .any
def renL (π : Nat → Option Nat) : List AV → List AV
  | [] => []
  | x :: xs => x.ren π :: renL π xs
end
@[simp] theorem renL_d (π : Nat → Option Nat) (l : List DV) : renL π (l.map .d) = l.map .d := by
  induction l with
  | nil => rfl
  | cons x l ih => simp only [List.map_cons, renL, AV.ren, ih]
theorem renL_append (π : Nat → Option Nat) (l l' : List AV) : renL π (l ++ l') = renL π l ++ renL π l' := by
  induction l with
  | nil => rfl
  | cons x l ih => simp only [List.cons_append, renL, ih]
theorem renL_length (π : Nat → Option Nat) (l : List AV) : (renL π l).length = l.length := by
  induction l with
  | nil => rfl
  | cons x l ih => simp only [renL, List.length_cons, ih]
mutual
theorem rel_ren {c c' : Ctx} {w : World} {π : Nat → Option Nat} (hI : ∀ b, c.imm b → c'.imm b) (hφ : ∀ id j, π id = some j → c.φ id ≠ .free → c'.φ j = c.φ id) :
    ∀ (x : AV) (v : Value), Rel c w x v → Rel c' w (x.ren π) v
  | .d x, v, h => by simp only [AV.ren, Rel] at h ⊢; exact relD_mono hI (fun _ _ => rfl) x v h
  | .ptr id off, v, h => by
    simp only [AV.ren, Rel] at h ⊢
    obtain ⟨b, hb, hv⟩ := h
    split
    · rename_i j hj
      simp only [Rel]
      exact ⟨b, by rw [hφ id j hj (by rw [hb]; simp)]; exact hb, hv⟩
    · simp [Rel]
  | .npt id T, v, h => by
    simp only [AV.ren, Rel] at h ⊢
    obtain ⟨hv, b, hb, hs⟩ := h
    split
    · rename_i j hj
      simp only [Rel]
      exact ⟨hv, b, by rw [hφ id j hj (by rw [hb]; simp)]; exact hb, hs⟩
    · simp [Rel]
  | .dptr cs, v, h => by
    simp only [AV.ren, Rel] at h ⊢
    obtain ⟨b, o, hb, hv, hc⟩ := h
    exact ⟨b, o, hI b hb, hv, relDs_mono hI (fun _ _ => rfl) cs b o hb hc⟩
  | .sl id esz off len, v, h => by
    simp only [AV.ren, Rel] at h ⊢
    split
    · rename_i j hj
      simp only [Rel]
      rcases h with ⟨h0, h⟩ | ⟨b, cap, n, hb, h⟩
      · exact .inl ⟨by rw [hφ id j hj (by rw [h0]; simp)]; exact h0, h⟩
      · exact .inr ⟨b, cap, n, by rw [hφ id j hj (by rw [hb]; simp)]; exact hb, h⟩
    · simp [Rel]
  | .slT id T len, v, h => by
    simp only [AV.ren, Rel] at h ⊢
    split
    · rename_i j hj
      simp only [Rel]
      rcases h with ⟨h0, h⟩ | ⟨b, cap, n, hb, h⟩
      · exact .inl ⟨by rw [hφ id j hj (by rw [h0]; simp)]; exact h0, h⟩
      · exact .inr ⟨b, cap, n, by rw [hφ id j hj (by rw [hb]; simp)]; exact hb, h⟩
    · simp [Rel]
  | .fn f caps, v, h => by
    simp only [AV.ren, Rel] at h ⊢
    obtain ⟨vs, hv, hl⟩ := h
    exact ⟨vs, hv, relL_ren hI hφ caps vs hl⟩
  | .agg cs, v, h => by
    simp only [AV.ren, Rel] at h ⊢
    obtain ⟨vs, hv, hl⟩ := h
    exact ⟨vs, hv, relL_ren hI hφ cs vs hl⟩
  | .tup cs, v, h => by
    simp only [AV.ren, Rel] at h ⊢
    obtain ⟨vs, hv, hl⟩ := h
    exact ⟨vs, hv, relL_ren hI hφ cs vs hl⟩
  | .any, _, _ => by simp [AV.ren, Rel]
theorem relL_ren {c c' : Ctx} {w : World} {π : Nat → Option Nat} (hI : ∀ b, c.imm b → c'.imm b) (hφ : ∀ id j, π id = some j → c.φ id ≠ .free → c'.φ j = c.φ id) :
    ∀ (xs : List AV) (vs : List Value), RelL c w xs vs → RelL c' w (renL π xs) vs
  | [], _, h => by simpa [renL, RelL] using h
  | x :: xs, vs, h => by
    simp only [renL, RelL] at h ⊢
    obtain ⟨v, vs', hv, hx, hl⟩ := h
    exact ⟨v, vs', hv, rel_ren hI hφ x v hx, relL_ren hI hφ xs vs' hl⟩
end
mutual
def inB (π : Nat → Option Nat) : AV → Bool
  | .d _ => true
  | .ptr id _ => (π id).isSome
  | .npt id _ => (π id).isSome
  | .dptr _ => true
  | .sl id _ _ _ => (π id).isSome
  | .slT id _ _ => (π id).isSome
  | .fn _ caps => inL π caps
  | .agg cs => inL π cs
  | .tup vs => inL π vs
  | .any => true
def inL (π : Nat → Option Nat) : List AV → Bool
  | [] => true
  | x :: xs => inB π x && inL π xs
end
@[simp] theorem inL_d (π : Nat → Option Nat) (l : List DV) : inL π (l.map .d) = true := by
  induction l with
  | nil => rfl
  | cons x l ih => simp only [List.map_cons, inL, inB, ih, Bool.and_self]
mutual
theorem rel_unren {c c' : Ctx} {w : World} {π : Nat → Option Nat} (hI : ∀ b, c'.imm b → c.imm b) (hφ : ∀ id j, π id = some j → c.φ id = c'.φ j) :
    ∀ (x : AV) (v : Value), inB π x = true → Rel c' w (x.ren π) v → Rel c w x v
  | .d x, v, _, h => by simp only [AV.ren, Rel] at h ⊢; exact relD_mono hI (fun _ _ => rfl) x v h
  | .ptr id off, v, hn, h => by
    simp only [AV.ren, Rel] at h ⊢
    simp only [inB] at hn
    obtain ⟨j, hj⟩ := Option.isSome_iff_exists.1 hn
    simp only [hj, Rel] at h
    obtain ⟨b, hb, hv⟩ := h
    exact ⟨b, by rw [hφ id j hj]; exact hb, hv⟩
  | .npt id T, v, hn, h => by
    simp only [AV.ren, Rel] at h ⊢
    simp only [inB] at hn
    obtain ⟨j, hj⟩ := Option.isSome_iff_exists.1 hn
    simp only [hj, Rel] at h
    obtain ⟨hv, b, hb, hs⟩ := h
    exact ⟨hv, b, by rw [hφ id j hj]; exact hb, hs⟩
  | .dptr cs, v, _, h => by
    simp only [AV.ren, Rel] at h ⊢
    obtain ⟨b, o, hb, hv, hc⟩ := h
    exact ⟨b, o, hI b hb, hv, relDs_mono hI (fun _ _ => rfl) cs b o hb hc⟩
  | .sl id esz off len, v, hn, h => by
    simp only [AV.ren, Rel] at h ⊢
    simp only [inB] at hn
    obtain ⟨j, hj⟩ := Option.isSome_iff_exists.1 hn
    simp only [hj, Rel] at h
    rcases h with ⟨h0, h⟩ | ⟨b, cap, n, hb, h⟩
    · exact .inl ⟨by rw [hφ id j hj]; exact h0, h⟩
    · exact .inr ⟨b, cap, n, by rw [hφ id j hj]; exact hb, h⟩
  | .slT id T len, v, hn, h => by
    simp only [AV.ren, Rel] at h ⊢
    simp only [inB] at hn
    obtain ⟨j, hj⟩ := Option.isSome_iff_exists.1 hn
    simp only [hj, Rel] at h
    rcases h with ⟨h0, h⟩ | ⟨b, cap, n, hb, h⟩
    · exact .inl ⟨by rw [hφ id j hj]; exact h0, h⟩
    · exact .inr ⟨b, cap, n, by rw [hφ id j hj]; exact hb, h⟩
  | .fn f caps, v, hn, h => by
    simp only [AV.ren, Rel] at h ⊢
    simp only [inB] at hn
    obtain ⟨vs, hv, hl⟩ := h
    exact ⟨vs, hv, relL_unren hI hφ caps vs hn hl⟩
  | .agg cs, v, hn, h => by
    simp only [AV.ren, Rel] at h ⊢
    simp only [inB] at hn
    obtain ⟨vs, hv, hl⟩ := h
    exact ⟨vs, hv, relL_unren hI hφ cs vs hn hl⟩
  | .tup cs, v, hn, h => by
    simp only [AV.ren, Rel] at h ⊢
    simp only [inB] at hn
    obtain ⟨vs, hv, hl⟩ := h
    exact ⟨vs, hv, relL_unren hI hφ cs vs hn hl⟩
  | .any, _, _, _ => by simp [Rel]
theorem relL_unren {c c' : Ctx} {w : World} {π : Nat → Option Nat} (hI : ∀ b, c'.imm b → c.imm b) (hφ : ∀ id j, π id = some j → c.φ id = c'.φ j) :
    ∀ (xs : List AV) (vs : List Value), inL π xs = true → RelL c' w (renL π xs) vs → RelL c w xs vs
  | [], _, _, h => by simpa [renL, RelL] using h
  | x :: xs, vs, hn, h => by
    simp only [renL, RelL] at h ⊢
    simp only [inL, Bool.and_eq_true] at hn
    obtain ⟨v, vs', hv, hx, hl⟩ := h
    exact ⟨v, vs', hv, rel_unren hI hφ x v hn.1 hx, relL_unren hI hφ xs vs' hn.2 hl⟩
end
structure St where
  t : Fr
  m : Mem
  n : Nat
structure CR (c : Ctx) (k : Nat) (S : St) (a : Act) (w : World) : Prop where
  defers : a.defers = []
  size : a.tmps.size = k
  fr : FR c w S.t a.tmps
  mr : MR c S.m w
  free : ∀ id, S.n ≤ id → c.φ id = .free
structure Env where
  c : Ctx
  m : Mem
  n : Nat
  w : World
structure Prov (E : Env) (c : Ctx) (m : Mem) (w : World) : Prop where
  step : Step (Own E.c E.m) E.c c E.w w
  own : ∀ b, Own c m b → Own E.c E.m b ∨ E.w.heap.size ≤ b
  keep : ∀ id, id < E.n → (mget m id).isSome → (mget E.m id).isSome ∧ c.φ id = E.c.φ id
def Conc (E : Env) (k : Nat) (S : St) (a : Act) (w : World) : Prop := ∃ c, CR c k S a w ∧ Prov E c S.m w
theorem Prov.next {E : Env} {c c' : Ctx} {m m' : Mem} {w w' : World} (h : Prov E c m w) (hs : Step (Own c m) c c' w w') (ho : ∀ b, Own c' m' b → Own c m b ∨ w.heap.size ≤ b)
    (hk : ∀ id, id < E.n → (mget m' id).isSome → (mget m id).isSome ∧ c'.φ id = c.φ id) : Prov E c' m' w' where
  step := h.step.trans hs h.own
  own := fun b hb => by
    rcases ho b hb with h1 | h1
    · exact h.own b h1
    · exact .inr (Nat.le_trans h.step.size h1)
  keep := fun id hid hm => by
    obtain ⟨h1, h2⟩ := hk id hid hm
    obtain ⟨h3, h4⟩ := h.keep id hid h1
    exact ⟨h3, h2.trans h4⟩
def pinv : Ren → Nat → Option Nat
  | [], _ => none
  | (i, j) :: r, k => if j = k then some i else pinv r k
def entT (π : Ren) (t : Fr) : Fr → Prop
  | [] => True
  | (i, x) :: r => (fget t i).ren (pget π) = x ∧ entT π t r
def entM (π : Ren) (m : Mem) : Mem → Prop
  | [] => True
  | (j, cs) :: r => (match pinv π j with
    | some i => match mget m i with
      | some cs' => renL (pget π) cs' = cs
      | none => False
    | none => False) ∧ entM π m r
def okRen (n : Nat) : Ren → Bool
  | [] => true
  | (i, j) :: r => decide (j < n) && (r.all fun p => p.1 != i && p.2 != j) && okRen n r
def keepRen (n0 : Nat) (π : Ren) : Bool := π.all fun p => decide (p.2 < n0) == false || p.1 == p.2
structure Ent (n0 : Nat) (π : Ren) (S S' : St) : Prop where
  t : entT π S.t S'.t
  m : entM π S.m S'.m
  ok : okRen S'.n π = true
  keep : keepRen n0 π = true
theorem pget_mem : ∀ {π : Ren} {i j : Nat}, pget π i = some j → (i, j) ∈ π
  | [], _, _, h => by simp [pget] at h
  | (i', j') :: r, i, j, h => by
    simp only [pget] at h
    split at h
    · rename_i e; cases h; subst e; exact List.mem_cons_self
    · exact List.mem_cons_of_mem _ (pget_mem h)
theorem pinv_mem : ∀ {π : Ren} {i j : Nat}, pinv π j = some i → (i, j) ∈ π
  | [], _, _, h => by simp [pinv] at h
  | (i', j') :: r, i, j, h => by
    simp only [pinv] at h
    split at h
    · rename_i e; cases h; subst e; exact List.mem_cons_self
    · exact List.mem_cons_of_mem _ (pinv_mem h)
theorem okRen_spec : ∀ {π : Ren} {n : Nat}, okRen n π = true → (∀ i j, (i, j) ∈ π → pget π i = some j ∧ pinv π j = some i ∧ j < n)
  | [], _, _ => fun _ _ h => by simp at h
  | (i', j') :: r, n, h => by
    simp only [okRen, Bool.and_eq_true, decide_eq_true_eq, List.all_eq_true] at h
    obtain ⟨⟨h1, h2⟩, h3⟩ := h
    intro i j hm
    rcases List.mem_cons.1 hm with e | hm
    · cases e
      simp [pget, pinv, h1]
    · obtain ⟨p1, p2, p3⟩ := okRen_spec h3 i j hm
      have := h2 (i, j) hm
      simp only [bne_iff_ne, ne_eq] at this
      refine ⟨?_, ?_, p3⟩
      · simp only [pget]; rw [if_neg (fun e => this.1 e.symm)]; exact p1
      · simp only [pinv]; rw [if_neg (fun e => this.2 e.symm)]; exact p2
theorem entT_get {π : Ren} {t : Fr} : ∀ {t' : Fr}, entT π t t' → ∀ i, fget t' i = .any ∨ (fget t i).ren (pget π) = fget t' i
  | [], _, i => .inl rfl
  | (k, x) :: r, h, i => by
    simp only [entT] at h
    simp only [fget]
    split
    · rename_i e; subst e; exact .inr h.1
    · exact entT_get h.2 i
theorem entM_get {π : Ren} {m : Mem} : ∀ {m' : Mem}, entM π m m' → ∀ j cs, mget m' j = some cs → ∃ i cs', pinv π j = some i ∧ mget m i = some cs' ∧ renL (pget π) cs' = cs
  | [], _, j, cs, h => by simp [mget] at h
  | (k, x) :: r, h, j, cs, hj => by
    simp only [entM] at h
    simp only [mget] at hj
    split at hj
    · rename_i e
      subst e
      cases hj
      obtain ⟨h, _⟩ := h
      split at h
      · rename_i i hi
        split at h
        · rename_i cs' hcs'
          exact ⟨i, cs', hi, hcs', h⟩
        · exact h.elim
      · exact h.elim
    · exact entM_get h.2 j cs hj
def Ctx.ren (c : Ctx) (π : Ren) : Ctx := { c with φ := fun j => match pinv π j with
  | some i => c.φ i
  | none => .free }
theorem ren_φ {c : Ctx} {π : Ren} {n : Nat} (hok : okRen n π = true) {i j : Nat} (h : pget π i = some j) : (c.ren π).φ j = c.φ i := by
  obtain ⟨_, h2, _⟩ := okRen_spec hok i j (pget_mem h)
  simp only [Ctx.ren, h2]
theorem mr_ren {c : Ctx} {m m' : Mem} {w : World} {π : Ren} {n : Nat} (hok : okRen n π = true) (hM : MR c m w) (hm : entM π m m') : MR (c.ren π) m' w where
  own := fun j cs hj => by
    obtain ⟨i, cs', hi, hcs, rfl⟩ := entM_get hm j cs hj
    have hφ : (c.ren π).φ j = c.φ i := by simp only [Ctx.ren, hi]
    rcases hM.own i cs' hcs with ⟨h0, rfl⟩ | ⟨b, arr, T, f, hb, hni, hw, hf, vs, rest, ha, hr⟩
    · exact .inl ⟨hφ.trans h0, rfl⟩
    · exact .inr ⟨b, arr, T, f, hφ.trans hb, hni, hw, hf, vs, rest, ha, relL_ren (c := c) (c' := c.ren π) (fun _ h => h) (fun i j h _ => ren_φ hok h) _ _ hr⟩
  inj := fun j j' b hj hj' hb hb' => by
    obtain ⟨cs, hcs⟩ := Option.isSome_iff_exists.1 hj
    obtain ⟨cs', hcs'⟩ := Option.isSome_iff_exists.1 hj'
    obtain ⟨i, _, hi, hmi, _⟩ := entM_get hm j cs hcs
    obtain ⟨i', _, hi', hmi', _⟩ := entM_get hm j' cs' hcs'
    simp only [Ctx.ren, hi] at hb
    simp only [Ctx.ren, hi'] at hb'
    have := hM.inj i i' b (by rw [hmi]; rfl) (by rw [hmi']; rfl) hb hb'
    subst this
    have h1 := (okRen_spec hok i j (pinv_mem hi)).1
    have h2 := (okRen_spec hok i j' (pinv_mem hi')).1
    rw [h1] at h2
    exact Option.some.inj h2
  imm := hM.imm
  tab := hM.tab
theorem own_ren {c : Ctx} {m m' : Mem} {π : Ren} (hm : entM π m m') {b : Nat} (h : Own (c.ren π) m' b) : Own c m b := by
  obtain ⟨j, hj, hb⟩ := h
  obtain ⟨cs, hcs⟩ := Option.isSome_iff_exists.1 hj
  obtain ⟨i, _, hi, hmi, _⟩ := entM_get hm j cs hcs
  simp only [Ctx.ren, hi] at hb
  exact ⟨i, by rw [hmi]; rfl, hb⟩
theorem keep_ren {n0 : Nat} {π : Ren} (h : keepRen n0 π = true) {i j : Nat} (hp : pinv π j = some i) (hj : j < n0) : i = j := by
  have := List.all_eq_true.1 h (i, j) (pinv_mem hp)
  simp only [Bool.or_eq_true, beq_iff_eq, decide_eq_false_iff_not] at this
  rcases this with h1 | h1
  · exact absurd hj h1
  · exact h1
theorem fr_ren {c : Ctx} {w : World} {t t' : Fr} {tmps : Array Value} {π : Ren} {n : Nat} (hok : okRen n π = true) (hF : FR c w t tmps) (ht : entT π t t') : FR (c.ren π) w t' tmps := by
  intro i
  rcases entT_get ht i with h | h
  · rw [h]; simp [Rel]
  · rw [← h]; exact rel_ren (c := c) (c' := c.ren π) (fun _ h => h) (fun i j h _ => ren_φ hok h) _ _ (hF i)
theorem prov_ren {E : Env} {c : Ctx} {m m' : Mem} {w : World} {π : Ren} {n : Nat} (_hok : okRen n π = true) (hk : keepRen E.n π = true) (hP : Prov E c m w) (hm : entM π m m') : Prov E (c.ren π) m' w where
  step := ⟨hP.step.os, hP.step.tape, hP.step.output, hP.step.size, hP.step.keep, hP.step.rows, hP.step.imm, hP.step.imm'⟩
  own := fun b hb => hP.own b (own_ren hm hb)
  keep := fun j hj hmj => by
    obtain ⟨cs, hcs⟩ := Option.isSome_iff_exists.1 hmj
    obtain ⟨i, _, hi, hmi, _⟩ := entM_get hm j cs hcs
    have := keep_ren hk hi hj
    subst this
    obtain ⟨h1, h2⟩ := hP.keep i hj (by rw [hmi]; rfl)
    exact ⟨h1, by simp only [Ctx.ren, hi]; exact h2⟩
theorem Conc.ent {E : Env} {k : Nat} {S S' : St} {a : Act} {w : World} {π : Ren} (h : Conc E k S a w) (he : Ent E.n π S S') : Conc E k S' a w := by
  obtain ⟨c, hc, hp⟩ := h
  refine ⟨c.ren π, ⟨hc.defers, hc.size, fr_ren he.ok hc.fr he.t, mr_ren he.ok hc.mr he.m, fun id hid => ?_⟩, prov_ren he.ok he.keep hp he.m⟩
  simp only [Ctx.ren]
  split
  · rename_i i hi
    have := (okRen_spec he.ok i id (pinv_mem hi)).2.2
    omega
  · rfl
end Go.Jq
namespace Go.Jq
open Go
def AWP (P : Program) (n0 k : Nat) (c : Code) (S : St) (Q : Exit → St → Prop) : Prop :=
  ∀ (E : Env), E.n = n0 → ∀ (a : Act) (w : World), Conc E k S a w → c.wp P (fun e a' w' => ∃ S', Q e S' ∧ Conc E k S' a' w') a w
def Leads (n0 k : Nat) (S S' : St) : Prop := ∀ (E : Env), E.n = n0 → ∀ (a : Act) (w : World), Conc E k S a w → Conc E k S' a w
theorem Leads.ent {n0 k : Nat} {S S' : St} (π : Ren) (he : Ent n0 π S S') : Leads n0 k S S' := fun _ hE _ _ hc => hc.ent (hE ▸ he)
section
variable {P : Program} {n0 k : Nat} {S : St} {Q : Exit → St → Prop}
theorem awp_mono {c : Code} {Q' : Exit → St → Prop} (h : AWP P n0 k c S Q) (hq : ∀ e S, Q e S → Q' e S) : AWP P n0 k c S Q' :=
  fun E hE a w hc => wp_mono (h E hE a w hc) fun e _ _ ⟨S', h1, h2⟩ => ⟨S', hq e S' h1, h2⟩
theorem awp_skip (h : Q .normal S) : AWP P n0 k .skip S Q := fun _ _ _ _ hc => wp_skip ⟨S, h, hc⟩
theorem awp_exit {id : Nat} (h : Q (.exit id) S) : AWP P n0 k (.exit id) S Q := fun _ _ _ _ hc => wp_exit ⟨S, h, hc⟩
theorem awp_ret (h : Q .ret S) : AWP P n0 k .ret S Q := fun _ _ _ _ hc => wp_ret ⟨S, h, hc⟩
def Exit.thenA (next : St → Prop) (Q : Exit → St → Prop) : Exit → St → Prop
  | .normal, S => next S
  | e, S => Q e S
theorem awp_seq {x y : Code} (h : AWP P n0 k x S (Exit.thenA (fun S' => AWP P n0 k y S' Q) Q)) : AWP P n0 k (.seq x y) S Q := by
  intro E hE a w hc
  refine wp_seq (wp_mono (h E hE a w hc) ?_)
  rintro e a' w' ⟨S', h1, h2⟩
  cases e with
  | normal => exact h1 E hE a' w' h2
  | _ => exact ⟨S', h1, h2⟩
theorem awp_cond {c : Operand} {x y : Code} {b : Bool} (hc : ev S.t (cOpd c) = .d (.bool b)) (ht : b = true → AWP P n0 k x S Q) (hf : b = false → AWP P n0 k y S Q) : AWP P n0 k (.cond c x y) S Q := by
  intro E hE a w h
  have h' := h
  obtain ⟨c', hcr, _⟩ := h'
  have hv := rel_ev (w := w) hcr.fr c
  rw [hc] at hv
  have := rel_d_bool hv
  exact wp_cond_split this (fun hb => ht hb E hE a w h) (fun hb => hf hb E hE a w h)
def Exit.inBlockA (id : Nat) (Q : Exit → St → Prop) : Exit → St → Prop
  | .exit id', S => if id' = id then Q .normal S else Q (.exit id') S
  | e, S => Q e S
theorem awp_block {id : Nat} {c : Code} (h : AWP P n0 k c S (Exit.inBlockA id Q)) : AWP P n0 k (.block id c) S Q := by
  intro E hE a w hc
  refine wp_block (wp_mono (h E hE a w hc) ?_)
  rintro e a' w' ⟨S', h1, h2⟩
  cases e with
  | exit id' =>
    simp only [Exit.inBlockA] at h1
    simp only [Exit.inBlock]
    split
    · rename_i e; rw [if_pos e] at h1; exact ⟨S', h1, h2⟩
    · rename_i e; rw [if_neg e] at h1; exact ⟨S', h1, h2⟩
  | _ => exact ⟨S', h1, h2⟩
theorem awp_leads {c : Code} {S' : St} (he : Leads n0 k S S') (h : AWP P n0 k c S' Q) : AWP P n0 k c S Q :=
  fun E hE a w hc => h E hE a w (he E hE a w hc)
theorem awp_loop {c : Code} (I : St → Prop) (μ : St → Nat) (h0 : I S)
    (round : ∀ S, I S → AWP P n0 k c S (Exit.thenA (fun S' => ∃ S'', Leads n0 k S' S'' ∧ I S'' ∧ μ S'' < μ S) Q)) : AWP P n0 k (.loop c) S Q := by
  intro E hE a w hc b kk cs
  have key : ∀ n S a w, μ S = n → I S → Conc E k S a w →
      ∃ e a' w', (∃ S', Q e S' ∧ Conc E k S' a' w') ∧ Arrives P (lone (b.at a (.code c :: .inLoop c :: kk)) cs w) b kk cs e a' w' := by
    intro n
    induction n using Nat.strongRecOn with
    | _ n ih =>
      intro S a w hn hI hc
      obtain ⟨e, a₁, w₁, ⟨S', hq, hc'⟩, harr⟩ := round S hI E hE a w hc b (.inLoop c :: kk) cs
      cases e with
      | normal =>
        obtain ⟨S'', he, hI'', hlt⟩ := hq
        obtain ⟨e₂, a₂, w₂, hq₂, harr₂⟩ := ih (μ S'') (hn ▸ hlt) S'' a₁ w₁ rfl hI'' (he E hE a₁ w₁ hc')
        exact ⟨e₂, a₂, w₂, hq₂, .of_steps (Steps.trans harr (.one step_inLoop)) harr₂⟩
      | exit id => exact ⟨_, a₁, w₁, ⟨S', hq, hc'⟩, .pass (x := .inLoop c) rfl (fun _ _ => .inl (by simp)) harr⟩
      | goto l => exact ⟨_, a₁, w₁, ⟨S', hq, hc'⟩, .pass (x := .inLoop c) rfl (fun _ _ => .inl (by simp)) harr⟩
      | ret => exact ⟨_, a₁, w₁, ⟨S', hq, hc'⟩, .pass (x := .inLoop c) rfl (fun _ _ => .inl (by simp)) harr⟩
      | panic ch => exact ⟨_, a₁, w₁, ⟨S', hq, hc'⟩, .pass (x := .inLoop c) rfl (fun _ _ => .inl (by simp)) harr⟩
      | outgrown => exact ⟨_, a₁, w₁, ⟨S', hq, hc'⟩, .pass (x := .inLoop c) rfl (fun _ _ => .inl (by simp)) harr⟩
  obtain ⟨e, a', w', hq, harr⟩ := key _ S a w rfl h0 hc
  exact ⟨e, a', w', hq, .of_steps (.one step_loop) harr⟩
end
def mbound (m : Mem) : Nat := m.foldr (fun p b => Nat.max (p.1 + 1) b) 0
theorem mget_bound : ∀ {m : Mem} {i : Nat}, (mget m i).isSome → i < mbound m
  | [], i, h => by simp [mget] at h
  | (j, cs) :: r, i, h => by
    simp only [mget] at h
    simp only [mbound, List.foldr_cons]
    split at h
    · rename_i e; subst e; exact Nat.le_max_left _ _
    · exact Nat.lt_of_lt_of_le (mget_bound h) (Nat.le_max_right _ _)
def ACalls (P : Program) (f : Nat) (args : List AV) (m : Mem) (Q : AV → Mem → Prop) : Prop :=
  ∀ (c : Ctx) (w : World) (vs : List Value), RelL c w args vs → MR c m w → (∀ id, mbound m ≤ id → c.φ id = .free) →
    Calls P f vs.toArray w fun e w' => ∃ v r m' c', e = .returned v ∧ Q r m' ∧ Rel c' w' r v ∧ MR c' m' w' ∧ Step (Own c m) c c' w w' ∧
      (∀ b, Own c' m' b → Own c m b ∨ w.heap.size ≤ b) ∧ (∀ id, id < mbound m → (mget m' id).isSome → (mget m id).isSome ∧ c'.φ id = c.φ id) ∧
      (∀ id, Nat.max (mbound m) (mbound m') ≤ id → c'.φ id = .free)
theorem ACalls.mono {P : Program} {f : Nat} {args : List AV} {m : Mem} {Q Q' : AV → Mem → Prop} (h : ACalls P f args m Q) (hq : ∀ r m', Q r m' → Q' r m') : ACalls P f args m Q' :=
  fun c w vs h1 h2 h3 => (h c w vs h1 h2 h3).mono fun _ _ ⟨v, r, m', c', a1, a2, a3⟩ => ⟨v, r, m', c', a1, hq r m' a2, a3⟩
def frm : Nat → List AV → Fr
  | _, [] => []
  | i, x :: xs => (i, x) :: frm (i + 1) xs
theorem fget_frm : ∀ (xs : List AV) (i j : Nat), fget (frm i xs) j = if i ≤ j then xs.getD (j - i) .any else .any
  | [], i, j => by simp [frm, fget]
  | x :: xs, i, j => by
    simp only [frm, fget]
    by_cases h : i = j
    · subst h; simp
    · rw [if_neg h, fget_frm xs (i + 1) j]
      by_cases h1 : i ≤ j
      · rw [if_pos (by omega), if_pos h1]
        have : j - i = (j - (i + 1)) + 1 := by omega
        rw [this, List.getD_cons_succ]
      · rw [if_neg (by omega), if_neg h1]
def resV (S : St) (P : Program) : ResultVar → Option AV
  | .tmp t => some (fget S.t t)
  | .cell a T => match fget S.t a, ldk P T with
    | .ptr id off, some kk => match mget S.m id with
      | some cs => loadA kk (cs.drop off)
      | none => none
    | _, _ => none
def resVs (S : St) (P : Program) : List ResultVar → Option (List AV)
  | [] => some []
  | r :: rs => match resV S P r, resVs S P rs with
    | some v, some vs => some (v :: vs)
    | _, _ => none
def resA (P : Program) (rs : Array ResultVar) (S : St) : Option AV :=
  match resVs S P rs.toList with
  | some [v] => some v
  | some vs => some (.tup vs)
  | none => none
theorem run_resV {P : Program} {c : Ctx} {k : Nat} {S : St} {a : Act} {w : World} (hc : CR c k S a w) {r : ResultVar} {v : AV} (h : resV S P r = some v) :
    ∃ u, ((match r with | .tmp t => pure (a.tmps.getD t undef) | .cell ad t => do loadVar t (← asAddr (a.tmps.getD ad undef))) : Sem Value).run P w = .ok u w ∧ Rel c w v u := by
  cases r with
  | tmp t => simp only [resV, Option.some.injEq] at h; subst h; exact ⟨_, rfl, hc.fr t⟩
  | cell ad T =>
    simp only [resV] at h
    split at h
    · rename_i id off kk h1 h2
      split at h
      · rename_i cs hcs
        have hx := hc.fr ad
        rw [h1] at hx
        obtain ⟨b, hb, hv⟩ := rel_ptr hx
        obtain ⟨u, hu, hr⟩ := run_loadVar (P := P) h2 (cellsAt_own hc.mr hcs hb off) h
        refine ⟨u, ?_, hr⟩
        simp only [hv, asAddr, Sem.run_bind, Sem.run_pure, Result.andThen_ok, hu]
      · cases h
    · cases h
theorem run_resVs {P : Program} {c : Ctx} {k : Nat} {S : St} {a : Act} {w : World} (hc : CR c k S a w) (f : ResultVar → Sem Value)
    (hf : ∀ r, f r = ((match r with | .tmp t => pure (a.tmps.getD t undef) | .cell ad t => do loadVar t (← asAddr (a.tmps.getD ad undef))) : Sem Value)) : ∀ {rs : List ResultVar} {vs : List AV}, resVs S P rs = some vs →
    ∃ us, (rs.mapM f).run P w = .ok us w ∧ RelL c w vs us
  | [], vs, h => by simp only [resVs, Option.some.injEq] at h; subst h; exact ⟨[], by simp, by simp [RelL]⟩
  | r :: rs, vs, h => by
    simp only [resVs] at h
    split at h
    · rename_i v vs' h1 h2
      cases h
      obtain ⟨u, hu, hr⟩ := run_resV hc h1
      obtain ⟨us, hus, hrs⟩ := run_resVs hc f hf h2
      refine ⟨u :: us, ?_, by simp only [RelL]; exact ⟨u, us, rfl, hr, hrs⟩⟩
      rw [List.mapM_cons]
      rw [← hf] at hu
      simp only [Sem.run_bind, hu, Result.andThen_ok, hus, Sem.run_pure]
    · cases h
theorem run_resA {P : Program} {c : Ctx} {k : Nat} {S : St} {a : Act} {w : World} {fn : Func} (hc : CR c k S a w) {v : AV} (h : resA P fn.results S = some v) :
    ∃ u, (results fn a.tmps).run P w = .ok u w ∧ Rel c w v u := by
  unfold resA at h
  have key : ∀ vs, resVs S P fn.results.toList = some vs → ∃ us : List Value, RelL c w vs us ∧ (results fn a.tmps).run P w = .ok (if h : us.toArray.size = 1 then us.toArray[0] else .tuple us.toArray) w := by
    intro vs hvs
    have hrun := fun f hf => run_resVs (P := P) hc f hf hvs
    have hex : ∃ us : List Value, RelL c w vs us ∧ (results fn a.tmps).run P w = .ok (if h : us.toArray.size = 1 then us.toArray[0] else .tuple us.toArray) w := by
      unfold results
      rw [← Array.toArray_toList (xs := fn.results), List.mapM_toArray]
      simp only [Sem.run_bind, Sem.run_map]
      obtain ⟨us, hus, hr⟩ := hrun (fun x => match x with
        | .tmp t => pure (a.tmps.getD t undef)
        | .cell a_1 t => do loadVar t (← asAddr (a.tmps.getD a_1 undef))) (fun r => by cases r <;> rfl)
      refine ⟨us, hr, ?_⟩
      refine (congrArg (fun r => (Result.andThen (Result.andThen r _) _)) hus).trans ?_
      rfl
    exact hex
  split at h
  · rename_i v' hvs
    cases h
    obtain ⟨us, hr, hrun⟩ := key _ hvs
    simp only [RelL] at hr
    obtain ⟨u, us', rfl, hu, rfl⟩ := hr
    exact ⟨u, by rw [hrun]; simp, hu⟩
  · rename_i vs hne hvs
    cases h
    obtain ⟨us, hr, hrun⟩ := key _ hvs
    refine ⟨.tuple us.toArray, ?_, by simp only [Rel]; exact ⟨us, rfl, hr⟩⟩
    rw [hrun, dif_neg]
    intro h1
    have hl := hr.length
    simp at h1
    rw [h1] at hl
    cases vs with
    | nil => simp at hl
    | cons x xs =>
      cases xs with
      | nil => exact hne x rfl
      | cons y ys => simp at hl
  · cases h
def AEnd (P : Program) (rs : Array ResultVar) (n0 : Nat) (Q : AV → Mem → Prop) : Exit → St → Prop
  | .normal, S => ∃ v, resA P rs S = some v ∧ ∃ π m', okRen (Nat.max n0 (mbound m')) π = true ∧ keepRen n0 π = true ∧ entM π S.m m' ∧ Q (v.ren (pget π)) m'
  | .ret, S => ∃ v, resA P rs S = some v ∧ ∃ π m', okRen (Nat.max n0 (mbound m')) π = true ∧ keepRen n0 π = true ∧ entM π S.m m' ∧ Q (v.ren (pget π)) m'
  | _, _ => False
theorem acalls_of_awp {P : Program} {f : Nat} {fn : Func} {code : Code} {args : List AV} {m : Mem} {Q : AV → Mem → Prop} (hf : P.funcs[f]? = some fn) (hb : fn.body = some code)
    (hn : args.length ≤ fn.ntmps) (h : AWP P (mbound m) fn.ntmps code ⟨frm 0 args, m, mbound m⟩ (AEnd P fn.results (mbound m) Q)) : ACalls P f args m Q := by
  intro c w vs hr hM hfree
  have hl := hr.length
  refine calls_of_wp hf hb ?_
  have hconc : Conc ⟨c, m, mbound m, w⟩ fn.ntmps ⟨frm 0 args, m, mbound m⟩ { tmps := vs.toArray ++ Array.replicate (fn.ntmps - vs.toArray.size) undef, defers := [] } w := by
    refine ⟨c, ⟨rfl, ?_, ?_, hM, hfree⟩, ⟨Step.refl _ _ _, fun b hb => .inl hb, fun id _ h => ⟨h, rfl⟩⟩⟩
    · simp; omega
    · intro i
      rw [fget_frm]
      simp only [Nat.zero_le, if_true, Nat.sub_zero]
      by_cases hi : i < args.length
      · obtain ⟨v, hv, hrel⟩ := hr.get (i := i) (x := args[i]) (by simp [hi])
        have h1 : (vs.toArray ++ Array.replicate (fn.ntmps - vs.toArray.size) undef).getD i undef = v := by
          rw [Array.getD_eq_getD_getElem?, Array.getElem?_append_left (by simp; omega), List.getElem?_toArray, hv]; rfl
        rw [h1]
        simpa [hi] using hrel
      · have : args.getD i .any = .any := by simp [hi]
        rw [this]
        simp [Rel]
  have hfin : ∀ (S' : St) (a' : Act) (w' : World), (∃ v, resA P fn.results S' = some v ∧ ∃ π m', okRen (Nat.max (mbound m) (mbound m')) π = true ∧ keepRen (mbound m) π = true ∧ entM π S'.m m' ∧ Q (v.ren (pget π)) m') →
      Conc ⟨c, m, mbound m, w⟩ fn.ntmps S' a' w' → a'.defers = [] ∧ ∃ v, (results fn a'.tmps).run P w' = .ok v w' ∧
        (∃ v' r m' c', Ending.returned v = .returned v' ∧ Q r m' ∧ Rel c' w' r v' ∧ MR c' m' w' ∧ Step (Own c m) c c' w w' ∧
      (∀ b, Own c' m' b → Own c m b ∨ w.heap.size ≤ b) ∧ (∀ id, id < mbound m → (mget m' id).isSome → (mget m id).isSome ∧ c'.φ id = c.φ id) ∧
      (∀ id, Nat.max (mbound m) (mbound m') ≤ id → c'.φ id = .free)) := by
    rintro S' a' w' ⟨v, hv, π, m', hok, hk, hm, hQ⟩ ⟨c1, hcr, hp⟩
    obtain ⟨u, hu, hrel⟩ := run_resA hcr hv
    have hp' := prov_ren hok hk hp hm
    refine ⟨hcr.defers, u, hu, u, _, m', c1.ren π, rfl, hQ, rel_ren (c := c1) (c' := c1.ren π) (fun _ h => h) (fun i j h _ => ren_φ hok h) _ _ hrel, mr_ren hok hcr.mr hm, hp'.step, hp'.own, hp'.keep, fun id hid => ?_⟩
    simp only [Ctx.ren]
    split
    · rename_i i hi
      have := (okRen_spec hok i id (pinv_mem hi)).2.2
      exact absurd hid (Nat.not_le.2 this)
    · rfl
  refine wp_mono (h ⟨c, m, mbound m, w⟩ rfl _ _ hconc) ?_
  rintro e a' w' ⟨S', h1, h2⟩
  cases e with
  | normal => exact hfin S' a' w' h1 h2
  | ret => exact hfin S' a' w' h1 h2
  | _ => exact h1.elim
end Go.Jq
