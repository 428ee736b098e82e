/- What the functions of package cond come to, told without a heap. -/
import Derived.Test.YtjfghjakpjfgpaaXF
import Derived.Test.YtjfghjakpjfgpaaAc
import Derived.Lib.Strings
import Derived.Lib.Walk
import Derived.Lib.BytesEntry
namespace Go.Proofs.Ytjfghjakpjfgpaa
open Go Go.Jq
set_option maxRecDepth 100000
set_option linter.unusedSimpArgs false

theorem calls_indexByte (b o n c : Nat) (xs : List Int) (cv : Int) (w : World) (hx : xs.length = n)
    (hc : ∀ i, i < n → w.cell? ⟨b, o + i, none⟩ = some (.int .u8 (xs.getD i 0))) :
    Calls Try.prog 44 #[.slice (some ⟨b, o, none⟩) n c, .int .u8 cv] w fun e w' => e = .returned (.int .i64 (Lib.indexByte (Lib.bytesOf xs) cv.toNat.toUInt8)) ∧ w' = w := by
  go_enter Try.func44, Try.ntmps44
  go_wp2
  rw [run_callFunc_extern Try.func61 (by kernel_rfl) (by kernel_rfl) (by kernel_rfl) (e := Extern.BytealgIndexByte.indexByte) (by kernel_rfl), Lib.run_indexByteSlice w b o n c xs hx hc cv]
  simp only [Result.andThen]
  rw [Oper.upon_value]
  go_wp2
  go_ret
  exact ⟨rfl, rfl⟩

/-! ### bytes.IndexByte -/

/-- A value of type []byte: nil, or data. -/
def IsBytes (X : DV) (s : List UInt8) : Prop := (X = .nsl ∧ s = []) ∨ X = bytesD s

theorem calls_indexByte_nil (cv : Int) (w : World) :
    Calls Try.prog 44 #[.slice none 0 0, .int .u8 cv] w fun e w' => e = .returned (.int .i64 (-1)) ∧ w' = w := by
  go_enter Try.func44, Try.ntmps44
  go_wp2
  rw [run_callFunc_extern Try.func61 (by kernel_rfl) (by kernel_rfl) (by kernel_rfl) (e := Extern.BytealgIndexByte.indexByte) (by kernel_rfl), Lib.run_indexByteNil w 0 0 cv]
  simp only [Result.andThen]
  rw [Oper.upon_value]
  go_wp2
  go_ret
  exact ⟨rfl, rfl⟩

theorem calls_indexByte_zero (a : Option Addr) (c : Nat) (cv : Int) (w : World) :
    Calls Try.prog 44 #[.slice a 0 c, .int .u8 cv] w fun e w' => e = .returned (.int .i64 (-1)) ∧ w' = w := by
  have h : (Extern.BytealgIndexByte.indexByte #[.slice a 0 c, .int .u8 cv]).run Try.prog w = .ok (.int .i64 (-1)) w := by
    have hs := Lib.run_indexByteString (P := Try.prog) .empty cv w
    cases a with
    | none => exact hs
    | some ad => exact hs
  go_enter Try.func44, Try.ntmps44
  go_wp2
  rw [run_callFunc_extern Try.func61 (by kernel_rfl) (by kernel_rfl) (by kernel_rfl) (e := Extern.BytealgIndexByte.indexByte) (by kernel_rfl), h]
  simp only [Result.andThen]
  rw [Oper.upon_value]
  go_wp2
  go_ret
  exact ⟨rfl, rfl⟩

theorem bytesOf_nat (s : List UInt8) : Lib.bytesOf (s.map fun b => (b.toNat : Int)) = s := by
  simp only [Lib.bytesOf, List.map_map]
  conv => rhs; rw [← List.map_id s]
  exact List.map_congr_left fun b _ => by simp

theorem indexByte_pure {X : DV} {s : List UInt8} (hX : IsBytes X s) (cv : Int) : Pure Try.prog 44 [.d X, .d (.int .u8 cv)] (.d (.int .i64 (Lib.indexByte s cv.toNat.toUInt8))) := by
  refine pure_of_calls fun c w vs hr => ?_
  simp only [RelL, Rel, RelD] at hr
  obtain ⟨v1, vs1, rfl, h1, v2, vs2, rfl, rfl, rfl⟩ := hr
  have fin : ∀ r, (Calls Try.prog 44 #[v1, .int .u8 cv] w fun e w' => e = .returned (.int .i64 r) ∧ w' = w) → r = Lib.indexByte s cv.toNat.toUInt8 →
      Calls Try.prog 44 #[v1, .int .u8 cv] w fun e w' => ∃ u, e = .returned u ∧ w' = w ∧ u = .int .i64 (Lib.indexByte s cv.toNat.toUInt8) := by
    rintro r h rfl
    exact h.mono fun e w' ⟨h1, h2⟩ => ⟨_, h1, h2, rfl⟩
  rcases hX with ⟨rfl, rfl⟩ | rfl
  · simp only [RelD] at h1
    subst h1
    exact fin (-1) (calls_indexByte_zero _ _ _ _) rfl
  · simp only [bytesD, RelD] at h1
    obtain ⟨a, cap, rfl, hle, h1⟩ := h1
    rcases h1 with ⟨h0, h1⟩ | ⟨b, o, rfl, hb, h1⟩
    · have : s = [] := List.eq_nil_of_length_eq_zero h0
      subst this
      exact fin (-1) (calls_indexByte_zero _ _ _ _) rfl
    · have h2 := calls_indexByte b o s.length cap (s.map fun b => (b.toNat : Int)) cv w (by simp) fun i hi => by
        obtain ⟨u, hu, hr⟩ := RelDs.get h1 (i := i) (c := .int .u8 (s[i]).toNat) (by simp [hi])
        simp only [RelD] at hr
        rw [hu, hr]
        simp [hi]
      exact fin _ h2 (by rw [bytesOf_nat])

end Go.Proofs.Ytjfghjakpjfgpaa
