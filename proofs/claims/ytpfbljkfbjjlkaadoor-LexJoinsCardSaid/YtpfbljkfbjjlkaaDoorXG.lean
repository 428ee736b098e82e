/- The abstract layer: numbers, loops, bits. -/
import Derived.Test.YtpfbljkfbjjlkaaDoorXF
/-! The abstract layer, part 28: whole numbers that are not less than nought: what Go's operations on them come to. -/
namespace Go.Jq
open Go

@[go_sem] theorem bits_i64 : IntKind.i64.bits = 64 := rfl
@[go_sem] theorem bits_u8 : IntKind.u8.bits = 8 := rfl

section
variable (x : Nat)
theorem fdiv_nat (b : Nat) : (x : Int).fdiv (b : Int) = ((x / b : Nat) : Int) := by rw [Int.fdiv_eq_ediv_of_nonneg _ (Int.natCast_nonneg _)]; rfl
theorem tmod_nat (b : Nat) : (x : Int).tmod (b : Int) = ((x % b : Nat) : Int) := rfl
theorem tdiv_nat (b : Nat) : (x : Int).tdiv (b : Int) = ((x / b : Nat) : Int) := rfl
theorem fd8 : (x : Int).fdiv 8 = ((x / 8 : Nat) : Int) := fdiv_nat x 8
theorem fd16 : (x : Int).fdiv 16 = ((x / 16 : Nat) : Int) := fdiv_nat x 16
theorem fd32 : (x : Int).fdiv 32 = ((x / 32 : Nat) : Int) := fdiv_nat x 32
theorem fd64 : (x : Int).fdiv 64 = ((x / 64 : Nat) : Int) := fdiv_nat x 64
theorem fd128 : (x : Int).fdiv 128 = ((x / 128 : Nat) : Int) := fdiv_nat x 128
theorem fd256 : (x : Int).fdiv 256 = ((x / 256 : Nat) : Int) := fdiv_nat x 256
theorem fd1024 : (x : Int).fdiv 1024 = ((x / 1024 : Nat) : Int) := fdiv_nat x 1024
theorem fd2048 : (x : Int).fdiv 2048 = ((x / 2048 : Nat) : Int) := fdiv_nat x 2048
theorem tm2 : (x : Int).tmod 2 = ((x % 2 : Nat) : Int) := rfl
theorem tm3 : (x : Int).tmod 3 = ((x % 3 : Nat) : Int) := rfl
theorem tm4 : (x : Int).tmod 4 = ((x % 4 : Nat) : Int) := rfl
theorem tm12 : (x : Int).tmod 12 = ((x % 12 : Nat) : Int) := rfl
theorem td3 : (x : Int).tdiv 3 = ((x / 3 : Nat) : Int) := rfl
theorem and1 : bits .and .i64 (x : Int) 1 = ((x % 2 : Nat) : Int) := by
  have e : bits .and .i64 (x : Int) 1 = IntKind.i64.wrap (((BitVec.ofInt 64 (x : Int)) &&& (BitVec.ofInt 64 1)).toNat : Nat) := rfl
  have h1 : (BitVec.ofInt 64 1).toNat = 2 ^ 1 - 1 := rfl
  have h2 : (BitVec.ofInt 64 (x : Int)).toNat = x % 2 ^ 64 := by simp [BitVec.ofInt_natCast]
  rw [e, BitVec.toNat_and, h1, h2, Nat.and_two_pow_sub_one_eq_mod, wrap_i64 (by omega) (by omega)]
  congr 1
  omega
end

theorem wrap_small {n : Nat} (h : n ≤ 9223372036854775807) : IntKind.i64.wrap (n : Int) = (n : Int) := wrap_i64 (by omega) (by omega)

end Go.Jq

/-! The abstract layer, part 29: loops by families of states; elements of data slices at hand. -/
namespace Go.Jq
open Go

theorem exists_least (p : Nat → Prop) : ∀ n, p n → ∃ m, p m ∧ ∀ k, k < m → ¬ p k := by
  intro n
  induction n using Nat.strongRecOn with
  | ind n ih =>
    intro hn
    by_cases h : ∃ k, k < n ∧ p k
    · obtain ⟨k, hk, hp⟩ := h
      exact ih k hk hp
    · exact ⟨n, hn, fun k hk hp => h ⟨k, hk, hp⟩⟩

section
variable {P : Program} {n0 k : Nat} {Q : Exit → St → Prop}

/-- A loop: a family of states, each of which leads to one of a lower rank, or out. -/
theorem bwp_fam {ι : Type} {b : ACode} (F : ι → St) (rank : ι → Nat) (i0 : ι)
    (h : ∀ i, BWP P n0 k b (F i) (Exit.thenA (fun S' => ∃ j, rank j < rank i ∧ Leads n0 k S' (F j)) Q)) : BWP P n0 k (.loop b) (F i0) Q := by
  classical
  have least : ∀ S, (∃ i, F i = S) → ∃ m, (∃ i, F i = S ∧ rank i = m) ∧ ∀ j, F j = S → m ≤ rank j := by
    rintro S ⟨i, hi⟩
    obtain ⟨m, hm, hl⟩ := exists_least (fun m => ∃ i, F i = S ∧ rank i = m) (rank i) ⟨i, hi, rfl⟩
    refine ⟨m, hm, fun j hj => ?_⟩
    rcases Nat.lt_or_ge (rank j) m with hlt | hge
    · exact absurd ⟨j, hj, rfl⟩ (hl _ hlt)
    · exact hge
  refine bwp_loop (fun S => ∃ i, F i = S) (fun S => if hS : ∃ i, F i = S then Classical.choose (least S hS) else 0) ⟨i0, rfl⟩ ?_
  intro S hS
  have hsp := Classical.choose_spec (least S hS)
  obtain ⟨⟨i, rfl, hi⟩, _⟩ := hsp
  refine bwp_mono (h i) ?_
  intro e S' hq
  cases e with
  | normal =>
    obtain ⟨j, hj, hle⟩ := hq
    refine ⟨F j, hle, ⟨j, rfl⟩, ?_⟩
    have hj' : ∃ i, F i = F j := ⟨j, rfl⟩
    have h1 := (Classical.choose_spec (least (F j) hj')).2 j rfl
    simp only [dif_pos hS, dif_pos hj']
    omega
  | _ => exact hq

/-- A counted loop. -/
theorem bwp_count {b : ACode} (F : Nat → St) (N : Nat)
    (h : ∀ i, i ≤ N → BWP P n0 k b (F i) (Exit.thenA (fun S' => i < N ∧ Leads n0 k S' (F (i + 1))) Q)) : BWP P n0 k (.loop b) (F 0) Q := by
  refine bwp_fam (ι := Fin (N + 1)) (fun i => F i.1) (fun i => N - i.1) ⟨0, Nat.succ_pos _⟩ ?_
  rintro ⟨i, hi⟩
  refine bwp_mono (h i (Nat.le_of_lt_succ hi)) ?_
  intro e S' hq
  cases e with
  | normal =>
    obtain ⟨hlt, hle⟩ := hq
    exact ⟨⟨i + 1, Nat.succ_lt_succ hlt⟩, by simp only; omega, hle⟩
  | _ => exact hq

/-- A counted loop with what is known on the way. -/
theorem bwp_countI {b : ACode} (F : Nat → St) (p : Nat → Prop) (N : Nat) (h0 : p 0)
    (h : ∀ i, i ≤ N → p i → BWP P n0 k b (F i) (Exit.thenA (fun S' => i < N ∧ p (i + 1) ∧ Leads n0 k S' (F (i + 1))) Q)) : BWP P n0 k (.loop b) (F 0) Q := by
  refine bwp_fam (ι := { i : Nat // i ≤ N ∧ p i }) (fun i => F i.1) (fun i => N - i.1) ⟨0, Nat.zero_le _, h0⟩ ?_
  rintro ⟨i, hi, hp⟩
  refine bwp_mono (h i hi hp) ?_
  intro e S' hq
  cases e with
  | normal =>
    obtain ⟨hlt, hp', hle⟩ := hq
    exact ⟨⟨i + 1, hlt, hp'⟩, by simp only; omega, hle⟩
  | _ => exact hq

end

/-- An element of a data slice, its cells at hand. -/
theorem IsSl.at {α : Type} {enc : α → List DV} {w : Nat} (hk : ∀ a, (enc a).length = w) (hk0 : 0 < w) {l : List α} {X : DV} (h : IsSl enc l X) (i : Nat) (hi : i < l.length) :
    ∃ cs rest, X = .sl l.length cs ∧ cs.drop (i * w) = enc l[i] ++ rest ∧ i * w < cs.length := by
  obtain ⟨_, h⟩ := h
  rcases h with ⟨_, rfl⟩ | rfl
  · simp at hi
  · have hget : l[i]? = some l[i] := by simp [hi]
    obtain ⟨h1, h2⟩ := flat_get hk l i _ hget
    refine ⟨_, ((l.flatMap enc).drop (i * w)).drop w, rfl, ?_, by omega⟩
    rw [← h1, List.take_append_drop]

theorem IsSl.len {α : Type} {enc : α → List DV} {l : List α} {X : DV} (h : IsSl enc l X) : lenA (.d X) = some l.length := by
  obtain ⟨_, h⟩ := h
  rcases h with ⟨rfl, rfl⟩ | rfl <;> rfl

/-- The same for slices of slices. -/
theorem IsSl2.at {α : Type} {enc : α → List DV} {ls : List (List α)} {X : DV} (h : IsSl2 enc ls X) (i : Nat) (hi : i < ls.length) :
    ∃ cs d rest, X = .sl ls.length cs ∧ cs.drop i = d :: rest ∧ i < cs.length ∧ IsSl enc ls[i] d := by
  obtain ⟨ds, ⟨_, h⟩, hs⟩ := h
  have hl := hs.length
  rcases h with ⟨_, rfl⟩ | rfl
  · simp at hl; rw [← hl] at hi; simp at hi
  · obtain ⟨d, hd, hsl⟩ := hs.get i ls[i] (by simp [hi])
    refine ⟨ds, d, ds.drop (i + 1), by simp [hl], ?_, by omega, hsl⟩
    obtain ⟨h1, h2⟩ := List.getElem?_eq_some_iff.1 hd
    rw [List.drop_eq_getElem_cons h1, h2]

theorem IsSl2.len {α : Type} {enc : α → List DV} {ls : List (List α)} {X : DV} (h : IsSl2 enc ls X) : lenA (.d X) = some ls.length := by
  obtain ⟨ds, h, hs⟩ := h
  rw [h.len, hs.length]

theorem IsSl2.big {α : Type} {enc : α → List DV} {ls : List (List α)} {X : DV} (h : IsSl2 enc ls X) : ls.length ≤ 9223372036854775807 := by
  obtain ⟨ds, h, hs⟩ := h
  rw [← hs.length]; exact h.1

theorem foldl_next {α β : Type} (f : β → α → β) (b : β) (l : List α) (i : Nat) (h : i < l.length) : (l.take (i + 1)).foldl f b = f ((l.take i).foldl f b) l[i] := by
  rw [List.take_add_one, List.getElem?_eq_getElem h, Option.toList_some, List.foldl_append]
  rfl

theorem foldl_all {α β : Type} (f : β → α → β) (b : β) (l : List α) : (l.take l.length).foldl f b = l.foldl f b := by
  rw [List.take_of_length_le (Nat.le_refl _)]

/-- Bools' cells. -/
def bcells (th : List Bool) : List AV := (th.map DV.bool).map .d

@[go_sem, simp] theorem bcells_set (th : List Bool) (q : Nat) (b : Bool) : (bcells th).set q (.d (.bool b)) = bcells (th.set q b) := by
  simp [bcells, List.map_set]
@[go_sem, simp] theorem bcells_len (th : List Bool) : (bcells th).length = th.length := by simp [bcells]
@[go_sem, simp] theorem bcells_ren (π : Nat → Option Nat) (th : List Bool) : renL π (bcells th) = bcells th := renL_d _ _
@[go_sem] theorem bcells_get (th : List Bool) (q : Nat) : (bcells th)[q]? = th[q]?.map fun b => .d (.bool b) := by
  simp [bcells, Function.comp_def]
@[simp] theorem bcells_cv (π : Nat → Option Nat) (Z : Nat → Option (List DV)) (th : List Bool) : cvL π Z (bcells th) = bcells th := cvL_d _ _ _

/-- A number's lowest eight bits. -/
def low8 (x : Int) : Nat := (bits .and .i64 x 255).toNat

theorem low8_eq (x : Int) : bits .and .i64 x 255 = (low8 x : Int) := by
  obtain ⟨q, _, h⟩ := bits_and_le x 255 (by omega)
  have h' : bits .and .i64 x 255 = (q : Int) := h
  simp [low8, h']

theorem low8_le (x : Int) : low8 x ≤ 255 := by
  obtain ⟨q, hq, h⟩ := bits_and_le x 255 (by omega)
  have h' : bits .and .i64 x 255 = (q : Int) := h
  simp [low8, h', hq]

/-- A slice of bytes: nil, or theirs. -/
theorem bytes_len {s : List UInt8} : lenA (.d (bytesD s)) = some s.length := rfl

theorem bytes_at (s : List UInt8) (i : Nat) (hi : i < s.length) : ∃ rest, (s.map fun b => DV.int .u8 b.toNat).drop i = .int .u8 s[i].toNat :: rest := by
  refine ⟨(s.map fun b => DV.int .u8 b.toNat).drop (i + 1), ?_⟩
  rw [List.drop_eq_getElem_cons (by simpa using hi), List.getElem_map]

theorem inL_data (l : List DV) : inL (fun _ => none) (l.map .d) = true := by
  induction l with
  | nil => rfl
  | cons a l ih => simp [inL, inB, ih]

/-- A slice's first elements. -/
theorem IsSl.take {α : Type} {enc : α → List DV} {w : Nat} (hk : ∀ a, (enc a).length = w) {l : List α} {X : DV} (h : IsSl enc l X) (k : Nat) (hk : k ≤ l.length) : ∃ X', slcA w 0 k l.length (.d X) = some (.d X') ∧ IsSl enc (l.take k) X' := by
  obtain ⟨hb, h⟩ := h
  rcases h with ⟨rfl, rfl⟩ | rfl
  · simp only [List.length_nil, Nat.le_zero] at hk
    subst hk
    exact ⟨.nsl, rfl, by simp, .inl ⟨rfl, rfl⟩⟩
  · refine ⟨.sl k ((l.flatMap enc).take (k * w)), ?_, ?_, .inr ?_⟩
    · simp [slcA, hk]
    · simp; omega
    · have : (l.flatMap enc).take (k * w) = (l.take k).flatMap enc := by
        clear hb
        induction l generalizing k with
        | nil => simp
        | cons a l ih =>
          cases k with
          | zero => simp
          | succ k =>
            simp only [List.take_succ_cons, List.flatMap_cons]
            rw [List.take_append, ← ih k (by simpa using hk)]
            have h1 : (enc a).take ((k + 1) * w) = enc a := List.take_of_length_le (by simp only [*]; rw [Nat.succ_mul]; omega)
            have h2 : (k + 1) * w - (enc a).length = k * w := by simp only [*]; rw [Nat.succ_mul]; omega
            rw [h1, h2]
      rw [this]
      simp; omega

end Go.Jq

/-! The abstract layer, part 31: bits of the kind uint64. -/
namespace Go.Jq
open Go

theorem wrap_u64 {n : Int} (h0 : 0 ≤ n) (h1 : n < 18446744073709551616) : IntKind.u64.wrap n = n := by
  have e2 : (2 ^ 64 : Int) = 18446744073709551616 := rfl
  simp only [IntKind.wrap, IntKind.signed, IntKind.bits, e2, Bool.false_and, Bool.false_eq_true, if_false]
  omega

theorem toNat_ofInt64 {a : Nat} (h : a < 18446744073709551616) : (BitVec.ofInt 64 (a : Int)).toNat = a := by
  simp only [BitVec.ofInt_natCast, BitVec.toNat_ofNat]
  omega

theorem or_u64 {a b : Nat} (ha : a < 18446744073709551616) (hb : b < 18446744073709551616) : bits .or .u64 (a : Int) (b : Int) = ((a ||| b : Nat) : Int) := by
  have e : bits .or .u64 (a : Int) (b : Int) = IntKind.u64.wrap (((BitVec.ofInt 64 (a : Int)) ||| (BitVec.ofInt 64 (b : Int))).toNat : Nat) := rfl
  have hlt : a ||| b < 2 ^ 64 := Nat.or_lt_two_pow (by omega) (by omega)
  rw [e, BitVec.toNat_or, toNat_ofInt64 ha, toNat_ofInt64 hb, wrap_u64 (by omega) (by omega)]

theorem and1_u64 (x : Nat) (hx : x < 18446744073709551616) : bits .and .u64 (x : Int) 1 = ((x % 2 : Nat) : Int) := by
  have e : bits .and .u64 (x : Int) 1 = IntKind.u64.wrap (((BitVec.ofInt 64 (x : Int)) &&& (BitVec.ofInt 64 1)).toNat : Nat) := rfl
  have h1 : (BitVec.ofInt 64 1).toNat = 2 ^ 1 - 1 := rfl
  rw [e, BitVec.toNat_and, h1, toNat_ofInt64 hx, Nat.and_two_pow_sub_one_eq_mod, wrap_u64 (by omega) (by omega)]

/-- A set of letters as a number: one more letter. -/
def addBit (s k : Nat) : Nat := s ||| 2 ^ k

theorem addBit_lt {s k : Nat} (hs : s < 67108864) (hk : k < 26) : addBit s k < 67108864 := by
  have h1 : (2 : Nat) ^ k < 2 ^ 26 := Nat.pow_lt_pow_right (by omega) hk
  exact Nat.or_lt_two_pow (x := s) (y := 2 ^ k) (n := 26) hs h1

theorem addBit_test (s k i : Nat) : (addBit s k).testBit i = (s.testBit i || decide (k = i)) := by
  rw [addBit, Nat.testBit_or, Nat.testBit_two_pow]

/-- A bit, as it is looked at. -/
theorem bit_seen (s i : Nat) : ((s / 2 ^ i % 2 : Nat) : Int) = 1 ↔ s.testBit i = true := by
  rw [Nat.testBit_eq_decide_div_mod_eq]
  simp only [decide_eq_true_eq]
  omega

theorem fdiv_pow (s i : Nat) : (s : Int).fdiv (2 ^ i) = ((s / 2 ^ i : Nat) : Int) := by
  have : ((2 : Int) ^ i) = ((2 ^ i : Nat) : Int) := by simp
  rw [this]
  exact fdiv_nat s (2 ^ i)

end Go.Jq

/-! The abstract layer, part 32: own blocks handed over to a callee for good: they are data from then on. -/
namespace Go.Jq
open Go

section
variable {P : Program} {f : Nat} {args : List AV} {v : AV} {dst : Option Nat} {r : List AOper} {K : St → Prop} {t : Fr} {m : Mem} {n : Nat}

mutual
theorem rel_imm {c c' : Ctx} {w : World} (hI : ∀ b, c.imm b → c'.imm b) : ∀ (x : AV) (v : Value), inB (fun _ => none) x = true → Rel c w x v → Rel c' w x v
  | .d x, v, _, h => by simp only [Rel] at h ⊢; exact relD_mono hI (fun _ _ => rfl) x v h
  | .ptr _ _, _, hx, _ => by simp [inB] at hx
  | .npt _ _, _, hx, _ => by simp [inB] at hx
  | .slT _ _ _, _, hx, _ => by simp [inB] at hx
  | .dptr cs, v, _, h => by
    simp only [Rel] at h ⊢
    obtain ⟨b, o, h1, h2, h3⟩ := h
    exact ⟨b, o, hI b h1, h2, relDs_mono hI (fun _ _ => rfl) cs b o h1 h3⟩
  | .sl _ _ _ _, _, hx, _ => by simp [inB] at hx
  | .fn f cap, v, hx, h => by
    simp only [Rel, inB] at h hx ⊢
    obtain ⟨vs, h1, h2⟩ := h
    exact ⟨vs, h1, relL_imm hI cap vs hx h2⟩
  | .agg cs, v, hx, h => by
    simp only [Rel, inB] at h hx ⊢
    obtain ⟨vs, h1, h2⟩ := h
    exact ⟨vs, h1, relL_imm hI cs vs hx h2⟩
  | .tup cs, v, hx, h => by
    simp only [Rel, inB] at h hx ⊢
    obtain ⟨vs, h1, h2⟩ := h
    exact ⟨vs, h1, relL_imm hI cs vs hx h2⟩
  | .any, _, _, _ => by simp [Rel]
theorem relL_imm {c c' : Ctx} {w : World} (hI : ∀ b, c.imm b → c'.imm b) : ∀ (xs : List AV) (vs : List Value), inL (fun _ => none) xs = true → RelL c w xs vs → RelL c' w xs vs
  | [], vs, _, h => by simpa [RelL] using h
  | x :: xs, vs, hx, h => by
    simp only [RelL, inL, Bool.and_eq_true] at h hx ⊢
    obtain ⟨v, vs', h1, h2, h3⟩ := h
    exact ⟨v, vs', h1, rel_imm hI x v hx.1 h2, relL_imm hI xs vs' hx.2 h3⟩
end

/-- A memory without the blocks of Z. -/
def delZ : Zs → Mem → Mem
  | [], m => m
  | (i, _) :: r, m => delZ r (mdel m i)

theorem mget_delZ : ∀ (Z : Zs) (m : Mem) (j : Nat), mget (delZ Z m) j = if (zget Z j).isSome then none else mget m j
  | [], m, j => by simp [delZ, zget]
  | (i, ds) :: r, m, j => by
    rw [delZ, mget_delZ r, mget_mdel]
    simp only [zget]
    by_cases h : i = j
    · simp [h]
    · simp [h]

theorem callK_give (Z : Zs) (args0 : List AV) {Q : AV → Prop} (h : ACalls P f args0 [] fun r m' => Q r ∧ m' = []) (hz : zokFrom m Z Z) (hargs : cvL (fun _ => none) (zget Z) args = args0) (hv : ∀ v, Q v → inB (fun _ => none) v = true)
    (hk : ∀ v, Q v → runOps P r ⟨putF t dst v, delZ Z m, n⟩ K) : callK P f args dst r K t m n := by
  refine ⟨fun v m' n' => Q v ∧ m' = delZ Z m ∧ n' = n, ?_, fun v m' n' h => by obtain ⟨h1, rfl, rfl⟩ := h; exact hk v h1⟩
  intro c w vs hr hM hfree
  have hown0 : ∀ (c' : Ctx) b, ¬ Own c' [] b := fun c' b ⟨id, h1, _⟩ => by simp [mget] at h1
  have hzi : ∀ id, (zget Z id).isSome → (mget m id).isSome := fun id h => by
    obtain ⟨ds, hds⟩ := Option.isSome_iff_exists.1 h
    obtain ⟨cs, hcs, _⟩ := zok_get hz id ds hds
    rw [hcs]; rfl
  have hr0 : RelL (c.frz [] Z) w args0 vs := by rw [← hargs]; exact relL_cv (π := []) (nb := 0) rfl hM hz _ _ hr
  have hM0 : MR (c.frz [] Z) [] w := ⟨fun id cells h => by simp [mget] at h, fun id id' b h => by simp [mget] at h, fun b hb => by
    rcases hb with h1 | ⟨id, h1, h2⟩
    · exact hM.imm b h1
    · exact hM.blk_lt ⟨id, hzi id h1, h2⟩, hM.tabTo (fun _ h => .inl h) fun _ _ => rfl⟩
  refine (h (c.frz [] Z) w vs hr0 hM0 fun id _ => rfl).mono ?_
  rintro e w' ⟨v, r0, m', c', rfl, ⟨hQ, rfl⟩, hrel, hM', hs, ho, hpers, hfr⟩
  have hkeep : ∀ b, b < w.heap.size → w'.heap[b]? = w.heap[b]? := fun b hb => hs.keep b hb (hown0 _ b)
  have hdel : ∀ id, (mget (delZ Z m) id).isSome → (mget m id).isSome ∧ ¬ (zget Z id).isSome := fun id h => by
    rw [mget_delZ] at h
    split at h
    · simp at h
    · rename_i hn; exact ⟨h, hn⟩
  let c2 : Ctx := ⟨c.φ, c'.imm⟩
  have himm' : ∀ b, c'.imm b → c.imm b ∨ (∃ id, (zget Z id).isSome ∧ c.φ id = .blk b) ∨ w.heap.size ≤ b := fun b hb => by
    rcases hs.imm' b hb with h1 | h1 | h1
    · rcases h1 with h1 | h1
      · exact .inl h1
      · exact .inr (.inl h1)
    · exact absurd h1 (hown0 _ b)
    · exact .inr (.inr h1)
  have hl : Later c c2 w w' := ⟨fun b hb => hs.imm b (.inl hb), fun b hb => hkeep b (hM.imm b hb), fun _ _ => rfl, hs.rows⟩
  refine ⟨v, r0, delZ Z m, n, c2, rfl, ⟨hQ, rfl, rfl⟩, rel_imm (c := c') (c' := c2) (fun b hb => hb) _ _ (hv _ hQ) hrel, ⟨fun id cells hid => ?_, fun id id' b h1 h2 => hM.inj id id' b (hdel id h1).1 (hdel id' h2).1, fun b hb => hM'.imm b hb, hM.tabTo hl.imm hl.same⟩,
    ⟨hs.os, hs.tape, hs.output, hs.size, fun b hb _ => hkeep b hb, hs.rows, fun b hb => hs.imm b (.inl hb), fun b hb => ?_⟩, fun b hb => ?_, fun _ _ => rfl, fun id _ h => (hdel id h).1, Nat.le_refl _⟩
  · have hS : (mget (delZ Z m) id).isSome := by rw [hid]; rfl
    obtain ⟨hS1, hnz⟩ := hdel id hS
    have hid' : mget m id = some cells := by
      rw [mget_delZ, if_neg hnz] at hid
      exact hid
    refine (hM.own id cells hid').later hl fun b hb => ⟨hkeep b (hM.blk_lt ⟨id, hS1, hb⟩), fun hi => ?_⟩
    rcases himm' b hi with h1 | ⟨id', h1, h2⟩ | h1
    · exact hM.sep h1 ⟨id, hS1, hb⟩
    · have := hM.inj id' id b (hzi id' h1) hS1 h2 hb
      subst this
      exact hnz h1
    · have := hM.blk_lt ⟨id, hS1, hb⟩
      omega
  · rcases himm' b hb with h1 | ⟨id', h1, h2⟩ | h1
    · exact .inl h1
    · exact .inr (.inl ⟨id', hzi id' h1, h2⟩)
    · exact .inr (.inr h1)
  · obtain ⟨id, h1, h2⟩ := hb
    exact .inl ⟨id, (hdel id h1).1, h2⟩

end

theorem IsSls.take {α : Type} {enc : α → List DV} : ∀ {ls : List (List α)} {ds : List DV} (k : Nat), IsSls enc ls ds → IsSls enc (ls.take k) (ds.take k)
  | _, _, 0, _ => by simp [IsSls]
  | [], [], k + 1, _ => by simp [IsSls]
  | l :: ls, d :: ds, k + 1, h => by
    simp only [List.take_succ_cons, IsSls] at h ⊢
    exact ⟨h.1, IsSls.take k h.2⟩
  | [], _ :: _, _ + 1, h => h.elim
  | _ :: _, [], _ + 1, h => h.elim

/-- A slice's first elements, each of them a slice. -/
theorem IsSl2.take {α : Type} {enc : α → List DV} {ls : List (List α)} {X : DV} (h : IsSl2 enc ls X) (k : Nat) (hk : k ≤ ls.length) : ∃ X', slcA 1 0 k ls.length (.d X) = some (.d X') ∧ IsSl2 enc (ls.take k) X' := by
  obtain ⟨ds, h1, h2⟩ := h
  have hl := h2.length
  obtain ⟨X', e, h3⟩ := IsSl.take (w := 1) (fun _ => rfl) h1 k (by omega)
  rw [hl] at e
  exact ⟨X', e, ds.take k, h3, h2.take k⟩

end Go.Jq
