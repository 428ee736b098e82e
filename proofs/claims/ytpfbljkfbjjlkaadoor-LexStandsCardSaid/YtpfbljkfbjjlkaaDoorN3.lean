/- num.Parse: in the model's words. -/
import Derived.Test.YtpfbljkfbjjlkaaDoorP0
import Derived.RegionTactic
import Derived.Deep.RegionWith
import Derived.Below
namespace Go.Proofs.YtpfbljkfbjjlkaaDoor
open Go Go.Jq Go.RowKit
set_option maxRecDepth 100000
set_option linter.unusedSimpArgs false

theorem bytes_eq {a b : ByteArray} (h : a.data.toList = b.data.toList) : a = b := by
  cases a; cases b
  simp only [Array.toList_inj] at h
  rw [h]

theorem tab_below {w w' : World} (h : Lib.TabIs Tryd.prog w "internal/strconv.uint64pow10" .u64 Lib.pow10Tab) (hb : Below w.heap.size w w') : Lib.TabIs Tryd.prog w' "internal/strconv.uint64pow10" .u64 Lib.pow10Tab := by
  unfold Lib.TabIs World.var? at h ⊢
  rw [gTab] at h ⊢
  simp only [Option.bind_some] at h ⊢
  cases h0 : w.heap[3]? with
  | none => rw [h0] at h; cases h
  | some o =>
    have hlt : 3 < w.heap.size := by
      rcases Nat.lt_or_ge 3 w.heap.size with h' | h'
      · exact h'
      · rw [Array.getElem?_eq_none h'] at h0; cases h0
    rw [hb.block 3 hlt]
    exact h

theorem below_of_grow {w w' : World} {k : Nat} {os : Array Obj} (h : w' = Go.Sort.grow (w.drewN k) os) : Below w.heap.size w w' := by
  subst h
  refine ⟨rfl, rfl, rfl, ?_, fun j hj => ?_⟩
  · simp [Go.Sort.grow, World.drewN]
  · simp only [Go.Sort.grow, World.drewN]
    exact Array.getElem?_append_left hj

set_option maxHeartbeats 2000000 in
theorem calls_text {n : Int} (hn : I64 n) (s : ByteArray) (hs : s.data.toList = Lib.itoa n) (w : World) (htab : Lib.TabIs Tryd.prog w "internal/strconv.uint64pow10" .u64 Lib.pow10Tab) :
    Calls Tryd.prog 69 #[.int .i64 n] w fun e w' => e = .returned (.string s) ∧ Below w.heap.size w w' := by
  have hI := Tryd.strconv_FormatInt_10 n hn.1 hn.2 w htab
  have hs' : (⟨(Lib.itoa n).toArray⟩ : ByteArray) = s := by
    cases s with
    | mk d => cases d with
      | mk l => simp only at hs; rw [hs]
  rw [hs'] at hI
  clear hs hs' htab hn
  go_enter Tryd.func69, Tryd.ntmps69
  go_wp2_with (go_at_call 89; refine hI.mono ?_)
  rintro e W1 ⟨rfl, k, os, hW⟩
  have hb := below_of_grow hW
  clear hW
  go_wp2
  go_ret
  exact ⟨rfl, hb⟩

set_option maxHeartbeats 2000000 in
theorem calls_parse_ok (s : ByteArray) (hmax : s.size ≤ 9223372036854775806) (n : Int) (h : Lib.parseIntB 64 s.data.toList = .ok n) (hn : I64 n) (w : World) (htab : Lib.TabIs Tryd.prog w "internal/strconv.uint64pow10" .u64 Lib.pow10Tab)
    (s' : ByteArray) (hs : s'.data.toList = Lib.itoa n) : Calls Tryd.prog 37 #[.string s] w fun e w' => e = .returned (.tuple #[.int .i64 (if s' = s then n else 0), .bool (decide (s' = s))]) ∧ Below w.heap.size w w' := by
  have hI := Any.strconv_ParseInt_10_at64_ok Tryd.laysC174 s hmax n h w
  have hT : ∀ W1, Below w.heap.size w W1 → Calls Tryd.prog 69 #[.int .i64 n] W1 fun e w' => e = .returned (.string s') ∧ Below W1.heap.size W1 w' := fun W1 hb => calls_text hn s' hs W1 (tab_below htab hb)
  clear h htab hs hn
  go_enter Tryd.func37, Tryd.ntmps37
  go_wp2_with (go_at_call 68; refine hI.mono ?_)
  rintro e W1 ⟨rfl, hW⟩
  have hb1 : Below w.heap.size w W1 := by
    rcases hW with rfl | ⟨t, rfl⟩
    · exact Below.refl _ _
    · exact Lib.bytesWorld_below _ _ _
  have hT1 := hT W1 hb1
  clear hW hT hI
  go_wp2_with (go_at_call 69; refine hT1.mono ?_)
  rintro e W2 ⟨rfl, hb2⟩
  have hb := hb1.trans (hb2.mono hb1.size)
  clear hT1 hb1 hb2
  by_cases hss : s' = s
  · subst hss
    go_wp2
    go_ret2
    simp only [if_true, decide_true]
    exact ⟨rfl, hb⟩
  · have ht : ¬ s'.toList = s.toList := fun e => hss (by
      simp only [ByteArray.toList_eq] at e
      exact bytes_eq e)
    go_wp2
    · go_ret2
      simp only [hss, if_false, decide_false]
      exact ⟨rfl, hb⟩
    · rename_i hx
      exact absurd (by simpa using hx) ht

theorem calls_pint_err (s : ByteArray) (hlim : s.size ≤ 281474976710656) (w : World) (h : Lib.parseIntB 64 s.data.toList = Lib.parseIntB 64 [] ∨ Lib.parseIntB 64 s.data.toList = .range)
    (h1 : ∃ t p, w.cell? ⟨0, 0, none⟩ = some (.iface t p)) (h2 : ∃ t p, w.cell? ⟨1, 0, none⟩ = some (.iface t p)) :
    Calls Tryd.prog 68 #[.string s, .int .i64 10, .int .i64 64] w fun e w' => ∃ v N, e = .returned (.tuple #[.int .i64 v, .iface 130 (.pointer (some ⟨N, 0, none⟩))]) ∧ Below w.heap.size w w' := by
  rcases h with h | h
  · obtain ⟨t, p, hv⟩ := h1
    refine (Any.strconv_ParseInt_10_at64_syntax Tryd.laysC174 s hlim h _ w hv (.inr ⟨t, p, rfl⟩)).mono ?_
    rintro e w' ⟨N, rfl, _, _, hb⟩
    exact ⟨0, N, rfl, hb⟩
  · obtain ⟨t, p, hv⟩ := h2
    refine (Any.strconv_ParseInt_10_at64_range Tryd.laysC174 s hlim h _ w hv (.inr ⟨t, p, rfl⟩)).mono ?_
    rintro e w' ⟨N, rfl, _, _, hb⟩
    exact ⟨_, N, rfl, hb⟩

set_option maxHeartbeats 2000000 in
theorem calls_parse_err (s : ByteArray) (hlim : s.size ≤ 281474976710656) (w : World) (h : Lib.parseIntB 64 s.data.toList = Lib.parseIntB 64 [] ∨ Lib.parseIntB 64 s.data.toList = .range)
    (h1 : ∃ t p, w.cell? ⟨0, 0, none⟩ = some (.iface t p)) (h2 : ∃ t p, w.cell? ⟨1, 0, none⟩ = some (.iface t p)) :
    Calls Tryd.prog 37 #[.string s] w fun e w' => e = .returned (.tuple #[.int .i64 0, .bool false]) ∧ Below w.heap.size w w' := by
  have hI := calls_pint_err s hlim w h h1 h2
  clear h h1 h2
  go_enter Tryd.func37, Tryd.ntmps37
  go_wp2_with (go_at_call 68; refine hI.mono ?_)
  rintro e W1 ⟨v, N, rfl, hb⟩
  go_wp2
  go_ret2
  exact ⟨rfl, hb⟩

/-- What num.Parse tells. -/
def parseW (s : List UInt8) : Int × Bool :=
  match Lib.parseIntB 64 s with
  | .ok n => if Lib.itoa n = s then (n, true) else (0, false)
  | _ => (0, false)

theorem ofItoa (n : Int) : (⟨(Lib.itoa n).toArray⟩ : ByteArray).data.toList = Lib.itoa n := by simp

theorem bytes_mk (s : List UInt8) : (⟨s.toArray⟩ : ByteArray).data.toList = s := by simp

theorem bytes_size (s : List UInt8) : (⟨s.toArray⟩ : ByteArray).size = s.length := by simp [ByteArray.size]

theorem tab_cell {c : Ctx} {m : Mem} {w : World} (h : MR c m w) (g : Nat) (hg : g = 0 ∨ g = 1) : ∃ t p, w.cell? ⟨g, 0, none⟩ = some (.iface t p) := by
  have : ∃ Φ, tabC g = some Φ ∧ ∀ cs, Φ cs → ∃ t p, cs = #[Value.iface t p] := by
    rcases hg with rfl | rfl <;> exact ⟨_, rfl, fun _ h => h⟩
  obtain ⟨Φ, hΦ, hc⟩ := this
  obtain ⟨_, cs, T, f, h1, h2⟩ := h.tab g Φ hΦ
  obtain ⟨t, p, rfl⟩ := hc cs h2
  refine ⟨t, p, ?_⟩
  simp [World.cell?, h1]

theorem parse_pure {s : List UInt8} (h : s.length ≤ 281474976710656) : Pure Tryd.prog 37 [.d (.str s)] (.tup [.d (.int .i64 (parseW s).1), .d (.bool (parseW s).2)]) := by
  refine pure_of_below fun c w vs hr hM => ?_
  simp only [RelL, Rel, RelD] at hr
  obtain ⟨v1, vs1, rfl, rfl, rfl⟩ := hr
  have hs := bytes_mk s
  have hz := bytes_size s
  have key : Calls Tryd.prog 37 #[.string ⟨s.toArray⟩] w fun e w' => e = .returned (.tuple #[.int .i64 (parseW s).1, .bool (parseW s).2]) ∧ Below w.heap.size w w' := by
    have hE := calls_parse_err ⟨s.toArray⟩ (by omega) w
    rw [hs] at hE
    unfold parseW
    rcases hp : Lib.parseIntB 64 s with n | _ | _
    rotate_left
    · exact hE (.inl hp) (tab_cell hM 0 (.inl rfl)) (tab_cell hM 1 (.inr rfl))
    · exact hE (.inr hp) (tab_cell hM 0 (.inl rfl)) (tab_cell hM 1 (.inr rfl))
    · have hn : I64 n := by
        have := Lib.parseIntB_bounds hp
        simp at this
        unfold I64; omega
      have := calls_parse_ok ⟨s.toArray⟩ (by omega) n (by rw [hs]; exact hp) hn w (tabIs hM) ⟨(Lib.itoa n).toArray⟩ (ofItoa n)
      refine this.mono ?_
      rintro e w' ⟨rfl, hb⟩
      refine ⟨?_, hb⟩
      by_cases he : Lib.itoa n = s
      · simp [he]
      · have : ¬ (⟨(Lib.itoa n).toArray⟩ : ByteArray) = ⟨s.toArray⟩ := fun e => he (by have := congrArg (fun b : ByteArray => b.data.toList) e; simpa using this)
        simp [he, this]
  refine key.mono ?_
  rintro e w' ⟨rfl, hb⟩
  exact ⟨_, rfl, hb.os, hb.tape, hb.output, hb.size, fun k hk => hb.block k hk, (by simp [Rel, RelL, RelD])⟩

end Go.Proofs.YtpfbljkfbjjlkaaDoor
