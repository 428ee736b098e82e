/- The test that WellLocs makes: plain Lean. -/
import Derived.Test.YtjfghjakpjfgpaaG3
namespace Go.Proofs.Ytjfghjakpjfgpaa
open Go Go.Jq

def byteLoc (x : UInt8) : Nat := x.toNat % 26
def wlInit (x : UInt8) : Init := ⟨97 + (byteLoc x : Int), 0⟩
def wlIns (x : UInt8) : Ins := ⟨2, 0, 97 + (byteLoc x : Int), ⟨0, 0⟩, 0, ⟨0, 0⟩, 0⟩
def wlAtom (x : UInt8) : Atom := ⟨-1, 0, 97 + (byteLoc x : Int), 0⟩
def wlKind (k : Nat) : Int := if k = 0 then 0 else 1

def wlTest (a b c : List UInt8) : Test := ⟨[110], a.map wlInit, [b.map wlIns], wlKind c.length, c.map fun x => [wlAtom x]⟩

def setLoc (th : List Bool) (x : UInt8) : List Bool := th.set (byteLoc x) true
def noLocs : List Bool := List.replicate 26 false
theorem noLocs_len : noLocs.length = 26 := by simp [noLocs]

theorem byteLoc_lt (x : UInt8) : byteLoc x < 26 := Nat.mod_lt _ (by omega)

theorem setLocs_len : ∀ (l : List UInt8) (th : List Bool), (l.foldl setLoc th).length = th.length
  | [], _ => rfl
  | a :: l, th => by rw [List.foldl_cons, setLocs_len l]; simp [setLoc]

theorem setLocs_get (c : Nat) (hc : c < 26) : ∀ (l : List UInt8) (th : List Bool), th.length = 26 → (l.foldl setLoc th).getD c false = (th.getD c false || l.any fun x => decide (byteLoc x = c))
  | [], th, _ => by simp
  | a :: l, th, h => by
    rw [List.foldl_cons, setLocs_get c hc l _ (by simp [setLoc, h]), List.any_cons, ← Bool.or_assoc]
    congr 1
    unfold setLoc
    rw [List.getD_eq_getElem?_getD, List.getElem?_set, List.getD_eq_getElem?_getD]
    by_cases h1 : byteLoc a = c
    · rw [if_pos h1, if_pos (by omega)]
      simp [h1]
    · rw [if_neg h1]
      simp [h1]

/-- The letters that are marked in a row of 26. -/
def thLets (th : List Bool) (i : Nat) : List UInt8 := ((List.range i).filter fun c => th.getD c false).map letter

theorem thLets_zero (th : List Bool) : thLets th 0 = [] := rfl

theorem thLets_next (th : List Bool) (i : Nat) : thLets th (i + 1) = if th.getD i false = true then thLets th i ++ [letter i] else thLets th i := by
  unfold thLets
  rw [List.range_succ, List.filter_append, List.map_append]
  by_cases h : th.getD i false = true
  · rw [if_pos h, List.filter_cons, if_pos h]; rfl
  · rw [if_neg h, List.filter_cons, if_neg h]; simp

theorem thLets_len (th : List Bool) (i : Nat) : (thLets th i).length ≤ i := by
  unfold thLets
  rw [List.length_map]
  exact Nat.le_trans (List.length_filter_le _ _) (by simp)

def wlThere (a b c : List UInt8) : List Bool := c.foldl setLoc (b.foldl setLoc (a.foldl setLoc noLocs))

theorem wl_locs (a b c : List UInt8) : wellLocs (wlTest a b c) = thLets (wlThere a b c) 26 := by
  unfold wellLocs bitLets thLets
  congr 1
  refine List.filter_congr fun i hi => ?_
  have hi26 := List.mem_range.1 hi
  have hno : noLocs.getD i false = false := by
    unfold noLocs
    rw [List.getD_eq_getElem?_getD, List.getElem?_replicate]
    split <;> rfl
  have hth : (wlThere a b c).getD i false = (a ++ b ++ c).any fun x => decide (byteLoc x = i) := by
    unfold wlThere
    rw [← List.foldl_append, ← List.foldl_append, setLocs_get i hi26 _ _ noLocs_len, hno, Bool.false_or, List.append_assoc]
  rw [hth, Bool.eq_iff_iff, maskT_test, List.any_eq_true]
  have hall : ∀ y, y ∈ allLocs (wlTest a b c) ↔ ∃ x ∈ a ++ b ++ c, y = 97 + (byteLoc x : Int) := by
    intro y
    simp only [allLocs, wlTest, List.map_map, List.flatten_cons, List.flatten_nil, List.append_nil, List.mem_append, List.mem_map, List.mem_flatten, Function.comp_apply, wlInit, wlIns]
    constructor
    · rintro (⟨x, hx, rfl⟩ | ⟨x, hx, rfl⟩ | ⟨z, ⟨l, ⟨x, hx, rfl⟩, hz⟩, rfl⟩)
      · exact ⟨x, .inl (.inl hx), rfl⟩
      · exact ⟨x, .inl (.inr hx), rfl⟩
      · simp only [List.mem_singleton] at hz
        subst hz
        exact ⟨x, .inr hx, rfl⟩
    · rintro ⟨x, (hx | hx) | hx, rfl⟩
      · exact .inl ⟨x, hx, rfl⟩
      · exact .inr (.inl ⟨x, hx, rfl⟩)
      · exact .inr (.inr ⟨wlAtom x, ⟨[wlAtom x], ⟨x, hx, rfl⟩, by simp⟩, rfl⟩)
  constructor
  · rintro ⟨y, hy, h1, h2⟩
    obtain ⟨x, hx, rfl⟩ := (hall y).1 hy
    exact ⟨x, hx, by simp only [decide_eq_true_eq]; omega⟩
  · rintro ⟨x, hx, h⟩
    have hl := byteLoc_lt x
    simp only [decide_eq_true_eq] at h
    exact ⟨_, (hall _).2 ⟨x, hx, rfl⟩, (isLocB_iff _).2 (by omega), by omega⟩

theorem wl_ok (a b c : List UInt8) : okB (wlTest a b c) = true := by
  have hwd : isWordB [110] = true := by decide +kernel
  have hl : ∀ x : UInt8, isLocB (97 + (byteLoc x : Int)) = true := fun x => (isLocB_iff _).2 (by have := byteLoc_lt x; omega)
  have hi : badInitB (a.map wlInit) = false := by
    unfold badInitB
    rw [List.any_eq_false]
    intro y hy
    obtain ⟨x, _, rfl⟩ := List.mem_map.1 hy
    simp [wlInit, hl x]
  have ht : badThreadB (b.map wlIns) = false := by
    unfold badThreadB
    rw [List.any_eq_false]
    intro y hy
    obtain ⟨x, _, rfl⟩ := List.mem_map.1 hy
    have hr : isRegB 0 = true := rfl
    simp [okInsB, wlIns, eqIns, hl x, hr]
  have hc : okCondB (wlKind c.length) (c.map fun x => [wlAtom x]) = true := by
    unfold okCondB wlKind
    have hr : (c.map fun x => [wlAtom x]).any badRowB = false := by
      rw [List.any_eq_false]
      intro l hl2
      obtain ⟨x, _, rfl⟩ := List.mem_map.1 hl2
      simp [badRowB, okAtomB, wlAtom, hl x]
    rw [hr]
    by_cases h : c.length = 0
    · simp [h]
    · have : 0 < c.length := by omega
      simp [h, this]
  simp [okB, wlTest, hwd, hi, ht, hc]

/-- More than four letters: too big. -/
theorem wl_big (a b c : List UInt8) (h : 4 < (thLets (wlThere a b c) 26).length) : checkW (wlTest a b c) = 8 := by
  refine checkW_big (wl_ok a b c) ?_
  have : 4 < (wellLocs (wlTest a b c)).length := by rw [wl_locs]; exact h
  simp [bigB, this]

theorem cellBytes_all : ∀ s : List UInt8, cellBytes ((s.map fun b => DV.int .u8 b.toNat).map .d) = some s
  | [] => rfl
  | b :: s => by
    simp only [List.map_cons, cellBytes, cellBytes_all s, Option.map_some, Int.toNat_natCast]
    simp

end Go.Proofs.Ytjfghjakpjfgpaa
