/- strings.Builder, told without a heap. -/
import Derived.Test.YtgfkgngpganllaaDoorB1
import Derived.Test.YtgfkgngpganllaaDoorXI
namespace Go.Proofs.YtgfkgngpganllaaDoor
open Go Go.Jq
set_option maxRecDepth 100000
set_option linter.unusedSimpArgs false

theorem own_at {c : Ctx} {m : Mem} {w : World} {id b : Nat} {cs : List AV} (hM : MR c m w) (hid : mget m id = some cs) (hφ : c.φ id = .blk b) :
    ∃ arr T f vs rest, ¬ c.imm b ∧ w.heap[b]? = some (.cells arr T f) ∧ NoFz arr.size f ∧ arr.toList = vs ++ rest ∧ RelL c w cs vs := by
  rcases hM.own id cs hid with ⟨h0, _⟩ | ⟨b', arr, T, f, hb, hi, hw, hf, vs, rest, ha, hr⟩
  · rw [h0] at hφ; cases hφ
  · rw [hb] at hφ; cases hφ; exact ⟨arr, T, f, vs, rest, hi, hw, hf, ha, hr⟩

theorem mbound_eq {m m' : Mem} (h : m.map Prod.fst = m'.map Prod.fst) : mbound m = mbound m' := by
  induction m generalizing m' with
  | nil => cases m' with
    | nil => rfl
    | cons _ _ => simp at h
  | cons p m ih => cases m' with
    | nil => simp at h
    | cons q m' =>
      simp only [List.map_cons, List.cons.injEq] at h
      have := ih h.2
      simp only [mbound, List.foldr_cons] at this ⊢
      rw [h.1, this]

/-- A builder that was not written yet. -/
theorem copyCheck_fresh (x : AV) (ys : List AV) : ACalls Tryd.prog 65 [.ptr 0 0] [(0, [.npt 0 66, x]), (1, ys)] fun r m' => r = .tup [] ∧ m' = [(0, [.ptr 0 0, x]), (1, ys)] := by
  intro c w vs hr hM hfree
  simp only [RelL, Rel] at hr
  obtain ⟨v, vs', rfl, ⟨b, hb, rfl⟩, rfl⟩ := hr
  obtain ⟨arr, T, f, vs, rest, hni, hw, hnf, ha, hrl⟩ := own_at hM (id := 0) rfl hb
  have hrl0 := hrl
  simp only [RelL, Rel] at hrl
  obtain ⟨p, vs1, rfl, ⟨rfl, b', hb', hsz⟩, y, vs2, rfl, hy, rfl⟩ := hrl
  rw [hb] at hb'
  cases hb'
  rw [Go.Jq.rowSize_of_row hw] at hsz
  simp only [Option.some.injEq, Prod.mk.injEq] at hsz
  obtain ⟨rfl, hsz⟩ := hsz
  have hrest : rest = [] := by
    have := congrArg List.length ha
    rw [Array.length_toList, hsz] at this
    simp only [List.length_append, List.length_cons, List.length_nil] at this
    exact List.eq_nil_of_length_eq_zero (by omega)
  subst hrest
  have harr : arr = #[.pointer none, y] := by apply Array.ext'; simpa using ha
  subst harr
  have h0 : w.cell? ⟨b, 0, none⟩ = some (.pointer none) := by rw [Go.Jq.cell_of_row hw]; rfl
  have hsh : w.shape? b = some (66, 2) := by simp [World.shape?, hw]
  have hfz := Go.Jq.frozen_of_row (o := 0) hw hnf (by simp)
  refine (calls_copyCheck_fresh b w h0 hsh hfz).mono ?_
  rintro e w' ⟨rfl, rfl⟩
  have hto : RowTo w (w.setCell ⟨b, 0, none⟩ (.pointer (some ⟨b, 0, none⟩))) b #[.pointer (some ⟨b, 0, none⟩), y] 66 f :=
    ⟨rfl, rfl, rfl, by simp, fun k hk => RowKit.Below.heap_setCell _ _ _ _ hk, by
      simp only [World.setCell, Array.getElem?_modify, if_true]
      rw [hw]
      rfl⟩
  have hMR := hM.put (id := 0) (cells := [.ptr 0 0, x]) (vs := [.pointer (some ⟨b, 0, none⟩), y]) (rest := []) rfl hb hto hw rfl hni hnf rfl (by simp only [RelL, Rel]; exact ⟨_, _, rfl, ⟨b, hb, rfl⟩, y, _, rfl, hy, rfl⟩)
  refine ⟨_, .tup [], [(0, [.ptr 0 0, x]), (1, ys)], c, rfl, ⟨rfl, rfl⟩, ⟨[], rfl, rfl⟩, hMR, hto.step hw rfl ⟨0, rfl, hb⟩, fun b h => .inl (own_put (id := 0) rfl h), fun id _ h => ⟨?_, rfl⟩, fun id h => hfree id ?_⟩
  · simp only [mget] at h ⊢
    split at h
    · rename_i e; rw [if_pos e]; rfl
    · rename_i e; rw [if_neg e]; exact h
  · exact Nat.le_trans (Nat.le_max_left _ _) h

/-- A builder that was written. -/
theorem copyCheck_used (x : AV) (ys : List AV) : ACalls Tryd.prog 65 [.ptr 0 0] [(0, [.ptr 0 0, x]), (1, ys)] fun r m' => r = .tup [] ∧ m' = [(0, [.ptr 0 0, x]), (1, ys)] := by
  intro c w vs hr hM hfree
  simp only [RelL, Rel] at hr
  obtain ⟨v, vs', rfl, ⟨b, hb, rfl⟩, rfl⟩ := hr
  obtain ⟨arr, T, f, vs, rest, hni, hw, hnf, ha, hrl⟩ := own_at hM (id := 0) rfl hb
  simp only [RelL, Rel] at hrl
  obtain ⟨p, vs1, rfl, ⟨b', hb', rfl⟩, y, vs2, rfl, hy, rfl⟩ := hrl
  rw [hb] at hb'
  cases hb'
  have h0 : w.cell? ⟨b, 0, none⟩ = some (.pointer (some ⟨b, 0, none⟩)) := by rw [Go.Jq.cell_of_row hw, ← Array.getElem?_toList, ha]; rfl
  refine (calls_copyCheck_used b w h0).mono ?_
  rintro e w' ⟨rfl, rfl⟩
  exact ⟨_, .tup [], [(0, [.ptr 0 0, x]), (1, ys)], c, rfl, ⟨rfl, rfl⟩, ⟨[], rfl, rfl⟩, hM, Step.refl _ _ _, fun b h => .inl h, fun id _ h => ⟨h, rfl⟩, fun id h => hfree id (Nat.le_trans (Nat.le_max_left _ _) h)⟩

/-- What a builder's block and its buffer's are, s written to it. -/
def bldM (s : List UInt8) : Mem := [(0, [.ptr 0 0, .slT 1 5 s.length]), (1, bytesAV s)]

theorem bytesAV_len (s : List UInt8) : (bytesAV s).length = s.length := by simp [bytesAV]
theorem bytesAV_append (s s' : List UInt8) : bytesAV (s ++ s') = bytesAV s ++ bytesAV s' := by simp [bytesAV]
theorem bytesAV_one (s : List UInt8) : (bytesAV s).all oneB = true := by simp [bytesAV, oneB]

theorem string_built {s : List UInt8} (h0 : s ≠ []) (h63 : s.length ≤ 9223372036854775807) : ACalls Tryd.prog 37 [.ptr 0 0] (bldM s) fun r m' => r = .d (.str s) ∧ m' = [] := by
  intro c w vs hr hM hfree
  simp only [RelL, Rel] at hr
  obtain ⟨v, vs', rfl, ⟨b, hb, rfl⟩, rfl⟩ := hr
  obtain ⟨arr, T, f, vs, rest, hni, hw, hnf, ha, hrl⟩ := own_at hM (id := 0) rfl hb
  simp only [RelL, Rel] at hrl
  obtain ⟨p, vs1, rfl, ⟨b', hb', rfl⟩, y, vs2, rfl, hy, rfl⟩ := hrl
  have hl0 : s.length ≠ 0 := by simpa using h0
  rcases hy with ⟨_, h, _⟩ | ⟨g, cap, N, hg, rfl, hle, hN, hcap⟩
  · exact absurd h hl0
  obtain ⟨arr', T', f', us, rest', hni', hw', hnf', ha', hus⟩ := own_at hM (id := 1) rfl hg
  rw [Go.Jq.rowSize_of_row hw'] at hN
  simp only [Option.some.injEq, Prod.mk.injEq] at hN
  obtain ⟨rfl, rfl⟩ := hN
  have h1 : w.cell? ⟨b, 1, none⟩ = some (.slice (some ⟨g, 0, none⟩) s.length cap) := by rw [Go.Jq.cell_of_row hw, ← Array.getElem?_toList, ha]; rfl
  have hsh : w.shape? g = some (5, arr'.size) := by simp [World.shape?, hw']
  have hc : ∀ j x, s[j]? = some x → w.cell? ⟨g, j, none⟩ = some (.int .u8 x.toNat) := fun j x hx => by
    obtain ⟨u, hu, hrel⟩ := hus.get (i := j) (x := .d (.int .u8 x.toNat)) (by simp [bytesAV, hx])
    simp only [Rel, RelD] at hrel
    rw [Go.Jq.cell_of_row hw', ← Array.getElem?_toList, ha', List.getElem?_append_left (List.getElem?_eq_some_iff.1 hu).1, hu, hrel]
  refine (calls_string b g cap arr'.size s w h0 hle hcap h63 h1 hsh hc).mono ?_
  rintro e w' ⟨rfl, rfl⟩
  have hother : ∀ k, k ≠ g → (w.drew.freeze ⟨g, 0, none⟩ s.length).heap[k]? = w.heap[k]? := fun k hk => by
    unfold World.freeze
    split
    · rfl
    · simp only [Array.getElem?_modify]
      rw [if_neg (by simpa using fun e => hk e.symm)]
      rfl
  have hrows : ∀ b n, rowSize w b = some n → rowSize (w.drew.freeze ⟨g, 0, none⟩ s.length) b = some n := fun k n hn => by
    by_cases hk : k = g
    · subst hk
      rw [Go.Jq.rowSize_of_row hw'] at hn
      unfold World.freeze
      rw [if_neg hl0]
      simp only [rowSize, Array.getElem?_modify, if_true, World.drew]
      rw [hw']
      simpa using hn
    · unfold rowSize
      rw [hother k hk]
      exact hn
  have hsz : (w.drew.freeze ⟨g, 0, none⟩ s.length).heap.size = w.heap.size := by
    unfold World.freeze
    rw [if_neg hl0]
    exact Array.size_modify
  have hm : ∀ id, mget ([] : Mem) id = none := fun id => rfl
  refine ⟨_, .d (.str s), [], c, rfl, ⟨rfl, rfl⟩, rfl, ⟨fun id cs h => by simp [hm] at h, fun id id' b h => by simp [hm] at h, fun b hb => ?_, hM.tabTo (fun _ h => h) fun k hk => hother k fun e => hni' (e ▸ hk)⟩, ⟨?_, ?_, ?_, ?_, fun k hk hn => hother k fun e => hn ⟨1, rfl, e ▸ hg⟩, hrows, fun _ h => h, fun _ h => .inl h⟩,
    fun b ⟨id, h, _⟩ => by simp [mget] at h, fun id _ h => by simp [mget] at h, fun id h => hfree id (Nat.le_trans (Nat.le_max_left _ _) h)⟩
  · rw [hsz]; exact hM.imm b hb
  · unfold World.freeze; rw [if_neg hl0]; rfl
  · unfold World.freeze; rw [if_neg hl0]; rfl
  · unfold World.freeze; rw [if_neg hl0]; rfl
  · rw [hsz]; exact Nat.le_refl _

end Go.Proofs.YtgfkgngpganllaaDoor
