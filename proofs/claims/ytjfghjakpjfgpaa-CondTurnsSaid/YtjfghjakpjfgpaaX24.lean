/- The abstract layer, part 24: a contract in the model's own words, lifted. -/
import Derived.Test.YtjfghjakpjfgpaaX23
namespace Go.Jq
open Go

theorem pure_of_calls {P : Program} {f : Nat} {args : List AV} {v : AV}
    (h : ∀ (c : Ctx) (w : World) (vs : List Value), RelL c w args vs → Calls P f vs.toArray w fun e w' => ∃ u, e = .returned u ∧ w' = w ∧ Rel c w v u) : Pure P f args v := by
  intro c w vs hr hM hfree
  refine (h c w vs hr).mono ?_
  rintro e w' ⟨u, rfl, rfl, hu⟩
  exact ⟨u, v, [], c, rfl, ⟨rfl, rfl⟩, hu, hM, Step.refl _ _ _, fun b hb => .inl hb, fun id _ h => ⟨h, rfl⟩, fun id hid => hfree id (Nat.le_trans (Nat.zero_le _) hid)⟩

/-- A function's end, with own blocks left to the caller. -/
theorem aend_mem {P : Program} {rs : Array ResultVar} {n0 : Nat} {Q : AV → Mem → Prop} {S : St} (v : AV) (π : Ren) (m' : Mem) (hv : resA P rs S = some v) (hok : okRen (Nat.max n0 (mbound m')) π = true)
    (hk : keepRen n0 π = true) (hm : entM π S.m m') (hq : Q (v.ren (pget π)) m') : AEnd P rs n0 Q .ret S := ⟨v, hv, π, m', hok, hk, hm, hq⟩

/-! ### Slices of data that encode lists -/

/-- A value of a slice's type: nil, or the list's elements' cells one behind the other. -/
def IsSl {α : Type} (enc : α → List DV) (l : List α) (X : DV) : Prop := l.length ≤ 9223372036854775807 ∧ ((X = .nsl ∧ l = []) ∨ X = .sl l.length (l.flatMap enc))

theorem flat_get {α : Type} {enc : α → List DV} {k : Nat} (hk : ∀ a, (enc a).length = k) : ∀ (l : List α) (i : Nat) (a : α), l[i]? = some a →
    ((l.flatMap enc).drop (i * k)).take k = enc a ∧ i * k + k ≤ (l.flatMap enc).length
  | [], i, a, h => by simp at h
  | x :: l, 0, a, h => by
    simp at h
    subst h
    refine ⟨?_, ?_⟩
    · rw [Nat.zero_mul, List.drop_zero, List.flatMap_cons, List.take_append_of_le_length (by rw [hk]; exact Nat.le_refl _), List.take_of_length_le (by rw [hk]; exact Nat.le_refl _)]
    · simp [List.flatMap_cons, hk]
  | x :: l, i + 1, a, h => by
    obtain ⟨h1, h2⟩ := flat_get hk l i a (by simpa using h)
    refine ⟨?_, ?_⟩
    · rw [← h1, List.flatMap_cons, List.drop_append]
      have e1 : (enc x).drop ((i + 1) * k) = [] := List.drop_eq_nil_of_le (by rw [hk, Nat.succ_mul]; omega)
      have e2 : (i + 1) * k - (enc x).length = i * k := by rw [hk, Nat.succ_mul]; omega
      rw [e1, e2, List.nil_append]
    · rw [List.flatMap_cons, List.length_append, hk, Nat.succ_mul]; omega

/-- What stands at place i of a list of encoded elements. -/
def eltA {α : Type} (enc : α → List DV) (l : List α) (i : Nat) : AV := match l[i]? with
  | some a => .agg ((enc a).map .d)
  | none => .any

theorem slE_agg {α : Type} {enc : α → List DV} {k : Nat} (hk : ∀ a, (enc a).length = k) (hk0 : 0 < k) {l : List α} {X : DV} (h : IsSl enc l X) : SlE k (some k) X l.length (eltA enc l) := by
  obtain ⟨hb, h⟩ := h
  refine ⟨?_, hb, fun i hi => ?_⟩
  · rcases h with ⟨rfl, rfl⟩ | rfl <;> rfl
  · rcases h with ⟨rfl, rfl⟩ | rfl
    · simp at hi
    · have hget : l[i]? = some l[i] := by simp [hi]
      obtain ⟨h1, h2⟩ := flat_get hk l i _ hget
      refine ⟨_, rfl, by omega, ?_⟩
      simp only [loadA, eltA, hget]
      rw [if_pos (by rw [List.length_map, List.length_drop]; omega), ← List.map_take, h1]

/-- One-celled elements. -/
def eltD (l : List DV) (i : Nat) : AV := match l[i]? with
  | some d => .d d
  | none => .any

theorem slE_one {ds : List DV} {X : DV} (h : IsSl (fun d => [d]) ds X) : SlE 1 none X ds.length (eltD ds) := by
  obtain ⟨hb, h⟩ := h
  refine ⟨?_, hb, fun i hi => ?_⟩
  · rcases h with ⟨rfl, rfl⟩ | rfl <;> rfl
  · rcases h with ⟨rfl, rfl⟩ | rfl
    · simp at hi
    · have hget : ds[i]? = some ds[i] := by simp [hi]
      have hfm : ds.flatMap (fun d => [d]) = ds := by simp
      refine ⟨_, rfl, by rw [hfm]; omega, ?_⟩
      rw [hfm]
      simp only [loadA, eltD, hget, Nat.mul_one, List.map_drop, List.getElem?_drop, Nat.add_zero, List.getElem?_map, Option.map_some]

/-- Lists of lists. -/
def IsSls {α : Type} (enc : α → List DV) : List (List α) → List DV → Prop
  | [], [] => True
  | l :: ls, d :: ds => IsSl enc l d ∧ IsSls enc ls ds
  | _, _ => False

theorem IsSls.length {α : Type} {enc : α → List DV} : ∀ {ls : List (List α)} {ds : List DV}, IsSls enc ls ds → ds.length = ls.length
  | [], [], _ => rfl
  | _ :: _, _ :: _, h => by simp [IsSls.length h.2]
  | [], _ :: _, h => h.elim
  | _ :: _, [], h => h.elim

theorem IsSls.get {α : Type} {enc : α → List DV} : ∀ {ls : List (List α)} {ds : List DV}, IsSls enc ls ds → ∀ (i : Nat) (l : List α), ls[i]? = some l → ∃ d, ds[i]? = some d ∧ IsSl enc l d
  | [], [], _, i, l, h => by simp at h
  | x :: ls, d :: ds, h, i, l, hi => by
    cases i with
    | zero => simp at hi; subst hi; exact ⟨d, rfl, h.1⟩
    | succ i => simpa using IsSls.get h.2 i l (by simpa using hi)
  | [], _ :: _, h, _, _, _ => h.elim
  | _ :: _, [], h, _, _, _ => h.elim

theorem IsSls.append {α : Type} {enc : α → List DV} {l : List α} {d : DV} (h1 : IsSl enc l d) : ∀ {ls : List (List α)} {ds : List DV}, IsSls enc ls ds → IsSls enc (ls ++ [l]) (ds ++ [d])
  | [], [], _ => ⟨h1, trivial⟩
  | _ :: _, _ :: _, h => ⟨h.1, IsSls.append h1 h.2⟩
  | [], _ :: _, h => h.elim
  | _ :: _, [], h => h.elim

def IsSl2 {α : Type} (enc : α → List DV) (ls : List (List α)) (X : DV) : Prop := ∃ ds, IsSl (fun d => [d]) ds X ∧ IsSls enc ls ds

theorem any_idx {α : Type} (q : α → Bool) (l : List α) : (List.range' 0 l.length).any (fun i => (l[i]?.map q).getD false) = l.any q := by
  rw [Bool.eq_iff_iff]
  simp only [List.any_eq_true]
  constructor
  · rintro ⟨i, hi, h⟩
    cases hg : l[i]? with
    | none => simp [hg] at h
    | some a => exact ⟨a, List.mem_of_getElem? hg, by simpa [hg] using h⟩
  · rintro ⟨a, ha, h⟩
    obtain ⟨i, hi⟩ := List.mem_iff_getElem?.1 ha
    exact ⟨i, by simp [List.mem_range'_1, (List.getElem?_eq_some_iff.1 hi).1], by simp [hi, h]⟩

theorem putAt_eq : ∀ (vs cs : List AV) (o : Nat), o + vs.length ≤ cs.length → putAt cs o vs = cs.take o ++ vs ++ cs.drop (o + vs.length)
  | [], cs, o, _ => by simp [putAt]
  | v :: vs, cs, o, h => by
    simp only [List.length_cons] at h
    have ih := putAt_eq vs (cs.set o v) (o + 1) (by simp; omega)
    have e1 : (cs.set o v).take (o + 1) = cs.take o ++ [v] := by
      rw [List.take_add_one, List.take_set_of_le (Nat.le_refl o)]
      have : o < cs.length := by omega
      simp [this]
    have e2 : (cs.set o v).drop (o + 1 + vs.length) = cs.drop (o + (vs.length + 1)) := by
      rw [List.drop_set_of_lt (by omega)]
      congr 1; omega
    rw [putAt, ih, e1, e2]
    simp

theorem putAt_all {vs cs : List AV} (h : vs.length = cs.length) : putAt cs 0 vs = vs := by
  rw [putAt_eq vs cs 0 (by omega)]
  simp [h]

theorem all_oneB_d (l : List DV) : (l.map AV.d).all oneB = true := by
  simp [oneB]

theorem bits_and_le (x : Int) (m : Nat) (hm : m ≤ 9223372036854775807) : ∃ q : Nat, q ≤ m ∧ bits .and .i64 x (m : Int) = (q : Int) := by
  refine ⟨(BitVec.ofInt 64 x).toNat &&& m, Nat.and_le_right, ?_⟩
  have h : (BitVec.ofInt 64 (m : Int)).toNat = m := by simp [BitVec.ofInt_natCast]; omega
  have h2 : ((BitVec.ofInt 64 x).toNat &&& m) ≤ m := Nat.and_le_right
  have e : bits .and .i64 x (m : Int) = IntKind.i64.wrap (((BitVec.ofInt 64 x) &&& (BitVec.ofInt 64 (m : Int))).toNat : Nat) := rfl
  rw [e, BitVec.toNat_and, h]
  exact wrap_i64 (by omega) (by omega)

theorem wrap_next (a : Int) : IntKind.i64.wrap (a + 1) ≠ a := by
  have e1 : (2 ^ (64 - 1) : Int) = 9223372036854775808 := rfl
  have e2 : (2 ^ 64 : Int) = 18446744073709551616 := rfl
  simp only [IntKind.wrap, IntKind.signed, IntKind.bits, e1, e2, Bool.true_and, decide_eq_true_eq]
  split <;> omega

/-- A list of numbers as a slice's value. -/
def IsInts (l : List Int) (X : DV) : Prop := IsSl (fun d => [d]) (l.map (DV.int .i64)) X

theorem IsInts.sl {l : List Int} {X : DV} (h : IsInts l X) : SlE 1 none X l.length (eltD (l.map (DV.int .i64))) := by
  have := slE_one h
  rwa [List.length_map] at this

/-- A data slice of bytes. -/
def bytesD (s : List UInt8) : DV := .sl s.length (s.map fun b => .int .u8 b.toNat)

end Go.Jq
