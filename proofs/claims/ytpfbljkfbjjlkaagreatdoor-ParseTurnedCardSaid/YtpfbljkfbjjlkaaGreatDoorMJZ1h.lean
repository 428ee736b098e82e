/- What the statement's proof leans on, part 8: the layer, the walks, the plain laws. -/
import Derived.Test.YtpfbljkfbjjlkaaGreatDoorMJZ1g
set_option linter.unusedSimpArgs false
set_option linter.unusedVariables false

/- ParseTurned comes to true. -/
namespace Go.Proofs.YtpfbljkfbjjlkaaGreatDoor
open Go Go.Jq
set_option maxRecDepth 100000
set_option linter.unusedSimpArgs false
def ptB (s : List UInt8) : List AV := s.map fun b => .d (.int .u8 b.toNat)
theorem ptB_bytes : ∀ s : List UInt8, cellBytes (ptB s) = some s
  | [] => rfl
  | c :: s => by
    have ih := ptB_bytes s
    unfold ptB at ih ⊢
    rw [List.map_cons]
    simp only [cellBytes, ih, Option.map_some, Int.toNat_natCast]
    congr 2
    exact UInt8.ofNat_toNat
theorem ptB_len (s : List UInt8) : (ptB s).length = s.length := by simp [ptB]
theorem ptB_ren (f : Nat → Option Nat) (s : List UInt8) : renL f (ptB s) = ptB s := by
  have e : ptB s = (s.map fun b => DV.int .u8 b.toNat).map .d := by simp [ptB]
  rw [e, renL_d]
theorem ptB_take (s : List UInt8) (k : Nat) : (ptB s).take k = ptB (s.take k) := by simp [ptB, List.map_take]
theorem ptB_drop (s : List UInt8) (k : Nat) : (ptB s).drop k = ptB (s.drop k) := by simp [ptB, List.map_drop]
theorem ptB_append (s t : List UInt8) : ptB s ++ ptB t = ptB (s ++ t) := by simp [ptB]
theorem ptB_set (s : List UInt8) (k : Nat) (c : UInt8) : (ptB s).set k (.d (.int .u8 c.toNat)) = ptB (s.set k c) := by simp [ptB, List.map_set]
theorem ptB_one (s : List UInt8) : (ptB s).all oneB = true := by
  unfold ptB
  rw [List.all_eq_true]
  intro x hx
  obtain ⟨c, _, rfl⟩ := List.mem_map.1 hx
  rfl
theorem ptB_at {s : List UInt8} {k : Nat} (h : k < s.length) : (ptB s).drop k = .d (.int .u8 (s.getD k 0).toNat) :: ptB (s.drop (k + 1)) := by
  rw [ptB_drop, List.drop_eq_getElem_cons h]
  have e : s.getD k 0 = s[k] := by simp [h]
  rw [e]
  unfold ptB
  rw [List.map_cons]
theorem xor_u8 (a b : Int) : ∃ c : UInt8, bits .xor .u8 a b = (c.toNat : Int) := by
  have e : bits .xor .u8 a b = IntKind.u8.wrap ((BitVec.ofInt 8 a ^^^ BitVec.ofInt 8 b).toNat : Int) := rfl
  have h := (BitVec.ofInt 8 a ^^^ BitVec.ofInt 8 b).isLt
  generalize (BitVec.ofInt 8 a ^^^ BitVec.ofInt 8 b).toNat = m at e h
  refine ⟨UInt8.ofNat m, ?_⟩
  rw [e, wrap_u8 (by omega) (by omega), UInt8.toNat_ofNat']
  omega
def tuS (s : List UInt8) (cut : Int) : St := ⟨[(12, .sl 0 1 0 s.length), (4, .d (.int .i64 cut))], [(0, ptB s)], 1⟩
theorem mask_natT (x : Int) (m : Nat) (hm : m < 9223372036854775808) : ∃ q : Nat, bits .and .i64 x m = (q : Int) ∧ q ≤ m := by
  obtain ⟨h1, h2⟩ := and_mask x m hm
  exact ⟨(bits .and .i64 x m).toNat, by omega, by omega⟩
set_option maxHeartbeats 16000000 in
theorem parseTurned_pure {ls : List Int} {X : DV} (hX : IsInts ls X) {at' by' out cut : Int} (_ : I64 at') (_ : 0 ≤ by' ∧ by' ≤ 255) (_ : I64 out) (_ : I64 cut) :
    Pure Tryz.prog 3 [.d X, .d (.int .i64 at'), .d (.int .u8 by'), .d (.int .i64 out), .d (.int .i64 cut)] (.d (.bool true)) := by
  have haw := awake3_pure
  have hm : maxLen = 9223372036854775807 := rfl
  have hf := (small_few ls 6).two
  have hl := small_text_len ls 6
  have hhead : 9 ≤ (testT (small ls 6)).length := by
    unfold testT
    rw [if_pos (small_goodTest ls 6).ok]
    have : (headL (small ls 6)).length = 9 := rfl
    simp only [List.length_append, this]; omega
  refine acalls_of Tryz.func3 ac3_ok Tryz.ntmps3 Tryz.results3 rfl ?_
  unfold ac3
  refine bwp_seq fun K hK => bwp_region rfl ?_
  simp only [go_sem, ↓reduceIte]
  refine hK _ ?_; clear hK
  refine bwp_seq fun K hK => bwp_region rfl ?_
  simp only [go_sem, ↓reduceIte]
  refine callK_pureQ (small_calls hX (most := 6) (by omega)) rfl (fun v ⟨cs, h, _⟩ => by subst h; exact inL_data cs) ?_
  rintro v ⟨cu, rfl, hU⟩
  have kp := refPrint_pure hU hf
  obtain ⟨I', T', A', rfl, hI', hTh', hA'⟩ := hU
  generalize testT (small ls 6) = p at *
  simp only [List.map_cons, List.map_nil] at kp
  simp only [go_sem, ↓reduceIte, List.map_cons, List.map_nil]
  refine callK_pure kp rfl rfl ?_
  simp only [go_sem, ↓reduceIte]
  refine hK _ ?_; clear hK kp
  have h0 : ¬ (p.length : Int) = 0 := by omega
  refine bwp_seq fun K hK => bwp_region rfl ?_
  simp only [go_sem, ↓reduceIte]
  refine hK _ ?_; clear hK
  refine bwp_seq fun K1 hK1 => ?_
  refine bwp_seq fun K hK => bwp_region rfl ?_
  simp only [go_sem, ↓reduceIte, eq_false h0, decide_false]
  refine hK _ ?_; clear hK
  refine bwp_cond false (by simp [ev, fget]) (fun h => nomatch h) (fun _ => ?_)
  refine bwp_skip ?_
  refine hK1 _ ?_; clear hK1
  have ep : (List.map (fun b : UInt8 => AV.d (DV.int IntKind.u8 b.toNat)) p) = ptB p := rfl
  rw [ep]
  obtain ⟨q, hq, _⟩ := mask_natT at' 65535 (by omega)
  have hq' : bits .and .i64 at' 65535 = (q : Int) := hq
  have hj : q % p.length < p.length := Nat.mod_lt _ (by omega)
  have e1 : (q : Int).tmod (p.length : Int) = ((q % p.length : Nat) : Int) := rfl
  generalize q % p.length = j at hj e1
  have e2 : (0 : Int) ≤ (j : Int) := by omega
  have e3 : (j : Int) < p.length := by omega
  have e4 := ptB_at hj
  obtain ⟨c, hc⟩ := xor_u8 ((p.getD j 0).toNat : Int) by'
  have e5 := ptB_set p j c
  have e6 : j + 1 ≤ (ptB p).length := by rw [ptB_len]; omega
  refine bwp_seq fun K hK => bwp_region rfl ?_
  simp only [go_sem, ↓reduceIte, hq', h0, e1, e2, e3, e4, e5, e6, hc, Int.toNat_natCast, Nat.mul_one, Nat.zero_add]
  refine hK _ ?_; clear hK
  have hpl : (p.set j c).length = p.length := List.length_set
  generalize p.set j c = s at hpl
  rw [← hpl]
  have hs9 : 9 ≤ s.length := by omega
  have hs4 : s.length ≤ 4000 := by omega
  clear e1 e2 e3 e4 e5 e6 hc hj hpl hq hq' ep h0 hl hhead
  have h0 : ¬ (s.length : Int) = 0 := by omega
  obtain ⟨q', hq, _⟩ := mask_natT out 65535 (by omega)
  have hq' : bits .and .i64 out 65535 = (q' : Int) := hq
  have hj : q' % s.length < s.length := Nat.mod_lt _ (by omega)
  have e1 : (q' : Int).tmod (s.length : Int) = ((q' % s.length : Nat) : Int) := rfl
  generalize q' % s.length = k at hj e1
  refine bwp_seq fun K hK => bwp_region rfl ?_
  simp only [go_sem, ↓reduceIte, hq', h0, e1]
  refine hK _ ?_; clear hK
  have b0 : (0 : Int) ≤ (k : Int) := by omega
  have b1 : (0 : Int) ≤ ((k + 1 : Nat) : Int) := by omega
  have b2 : k ≤ s.length := by omega
  have b3 : k + 1 ≤ s.length := by omega
  have hw : IntKind.i64.wrap ((k : Int) + 1) = ((k + 1 : Nat) : Int) := by rw [wrap_i64 (by omega) (by omega)]; rfl
  have t3 : (ptB s).take k = ptB (s.take k) := ptB_take s k
  have t4 : ((ptB s).drop (k + 1)).take (s.length - (k + 1)) = ptB (s.drop (k + 1)) := by
    rw [ptB_drop, ptB_take, List.take_of_length_le (by rw [List.length_drop]; omega)]
  have t5 : k ≤ (ptB s).length := by rw [ptB_len]; omega
  have t6 : k + 1 + (s.length - (k + 1)) ≤ (ptB s).length := by rw [ptB_len]; omega
  have n0 : ¬ k + 1 = 0 := by omega
  refine bwp_seq fun K1 hK1 => ?_
  have fin : ∀ (S : St) (w : List UInt8), w.length ≤ 4000 → Leads (mbound []) Tryz.f3.ntmps S (tuS w cut) → K1 S := by
    intro S w hw4 hS
    refine hK1 _ ?_; clear hK1
    refine bwp_leads hS ?_
    clear hS n0 t6 t5 t4 t3 hw b3 b2 b1 b0 e1 hj hq hq' h0 hs4 hs9
    unfold tuS
    obtain ⟨r, hr, _⟩ := mask_natT cut 15 (by omega)
    have hr' : bits .and .i64 cut 15 = (r : Int) := hr
    have hw1 : IntKind.i64.wrap ((w.length : Int) + 1) = ((w.length + 1 : Nat) : Int) := by rw [wrap_i64 (by omega) (by omega)]; rfl
    have hj : r % (w.length + 1) < w.length + 1 := Nat.mod_lt _ (by omega)
    have e1 : (r : Int).tmod ((w.length + 1 : Nat) : Int) = ((r % (w.length + 1) : Nat) : Int) := rfl
    have e0 : ¬ ((w.length + 1 : Nat) : Int) = 0 := by omega
    generalize r % (w.length + 1) = j' at hj e1
    have e2 : IntKind.i64.wrap ((w.length : Int) - (j' : Int)) = ((w.length - j' : Nat) : Int) := by rw [wrap_i64 (by omega) (by omega)]; omega
    have e3 : w.length - j' ≤ w.length := by omega
    have e4 : (0 : Int) ≤ ((w.length - j' : Nat) : Int) := by omega
    refine bwp_seq fun K hK => bwp_region rfl ?_
    simp only [go_sem, ↓reduceIte, hr', hw1, e0, e1, e2, e3, e4, Int.toNat_natCast, Nat.zero_le, true_and, and_true]
    refine hK _ ?_; clear hK
    generalize w.length - j' = h at e3
    have hhl : (w.take h).length = h := by rw [List.length_take]; omega
    have t3 : (ptB w).take h = ptB (w.take h) := ptB_take w h
    have k1 := parse2_pure (s := w.take h) (by omega)
    have k2 := tree2_pure (s := w.take h) (by omega)
    have k3 := refSame_pure (isTest_p (w.take h)) (isTest_p (w.take h))
    have hpl : pAt (pTest (w.take h)) ≤ h := by
      cases hp : pTest (w.take h) with
      | ok t => exact Nat.zero_le _
      | error e =>
        obtain ⟨c, q⟩ := e
        have := pTest_place hp
        rw [hhl] at this
        exact this
    rw [(sameB_iff _ _).2 rfl] at k3
    obtain ⟨I, T, A, hc⟩ := pCells_split (pTest (w.take h))
    rw [hc] at k1 k2 k3
    generalize (pT (pTest (w.take h))).name = nm at *
    generalize (pT (pTest (w.take h))).kind = kd at *
    generalize pCode (pTest (w.take h)) = c1 at *
    generalize pAt (pTest (w.take h)) = c2 at *
    simp only [List.map_cons, List.map_nil] at k1 k2 k3
    have g1 : (0 : Int) ≤ (c2 : Int) := by omega
    have g2 : (c2 : Int) ≤ (h : Int) := by omega
    refine bwp_seq fun K hK => bwp_region rfl ?_
    simp only [go_sem, ↓reduceIte, ptB_one, ptB_bytes, t3, ptB_len, Nat.mul_one, Nat.zero_add, List.drop_zero, e3, hhl]
    repeat' (first
      | (refine gateK_split (fun hb => ?_) (fun hb => ?_) <;> simp only [go_sem, ↓reduceIte, hb, ptB_one, ptB_bytes, t3, ptB_len, Nat.mul_one, Nat.zero_add, List.drop_zero, e3, hhl])
      | (refine dGateK_split (fun hb => ?_) (fun hb => ?_) <;> simp only [go_sem, ↓reduceIte, hb, ptB_one, ptB_bytes, t3, ptB_len, Nat.mul_one, Nat.zero_add, List.drop_zero, e3, hhl])
      | (refine callK_pure (k1) rfl rfl ?_; simp only [go_sem, ↓reduceIte, ptB_one, ptB_bytes, t3, ptB_len, Nat.mul_one, Nat.zero_add, List.drop_zero, e3, hhl])
      | (refine dCallK_pure (k1) rfl rfl ?_; simp only [go_sem, ↓reduceIte, ptB_one, ptB_bytes, t3, ptB_len, Nat.mul_one, Nat.zero_add, List.drop_zero, e3, hhl])
      | (rw [if_pos (by (try simp only [List.length_append, List.length_cons, List.length_nil, List.length_map]); omega)]; simp only [go_sem, ↓reduceIte, ptB_one, ptB_bytes, t3, ptB_len, Nat.mul_one, Nat.zero_add, List.drop_zero, e3, hhl]))
    refine hK _ ?_; clear hK
    refine bwp_seq fun K hK => bwp_region rfl ?_
    simp only [go_sem, ↓reduceIte, ptB_one, ptB_bytes, t3, ptB_len, Nat.mul_one, Nat.zero_add, List.drop_zero, e3, hhl]
    repeat' (first
      | (refine gateK_split (fun hb => ?_) (fun hb => ?_) <;> simp only [go_sem, ↓reduceIte, hb, ptB_one, ptB_bytes, t3, ptB_len, Nat.mul_one, Nat.zero_add, List.drop_zero, e3, hhl])
      | (refine dGateK_split (fun hb => ?_) (fun hb => ?_) <;> simp only [go_sem, ↓reduceIte, hb, ptB_one, ptB_bytes, t3, ptB_len, Nat.mul_one, Nat.zero_add, List.drop_zero, e3, hhl])
      | (refine callK_pure (k2) rfl rfl ?_; simp only [go_sem, ↓reduceIte, ptB_one, ptB_bytes, t3, ptB_len, Nat.mul_one, Nat.zero_add, List.drop_zero, e3, hhl])
      | (refine dCallK_pure (k2) rfl rfl ?_; simp only [go_sem, ↓reduceIte, ptB_one, ptB_bytes, t3, ptB_len, Nat.mul_one, Nat.zero_add, List.drop_zero, e3, hhl])
      | (rw [if_pos (by (try simp only [List.length_append, List.length_cons, List.length_nil, List.length_map]); omega)]; simp only [go_sem, ↓reduceIte, ptB_one, ptB_bytes, t3, ptB_len, Nat.mul_one, Nat.zero_add, List.drop_zero, e3, hhl]))
    refine hK _ ?_; clear hK
    refine bwp_seq fun K hK => bwp_region rfl ?_
    simp only [go_sem, ↓reduceIte, g1, g2, beq_self_eq_true, bne_self_eq_false]
    repeat' (first
      | (refine gateK_split (fun hb => ?_) (fun hb => ?_) <;> simp only [go_sem, ↓reduceIte, hb, g1, g2, beq_self_eq_true, bne_self_eq_false, decide_true])
      | (refine dGateK_split (fun hb => ?_) (fun hb => ?_) <;> simp only [go_sem, ↓reduceIte, hb, g1, g2, beq_self_eq_true, bne_self_eq_false, decide_true])
      | (refine callK_pure (k3) rfl rfl ?_; simp only [go_sem, ↓reduceIte, g1, g2, beq_self_eq_true, bne_self_eq_false, decide_true])
      | (refine dCallK_pure (k3) rfl rfl ?_; simp only [go_sem, ↓reduceIte, g1, g2, beq_self_eq_true, bne_self_eq_false, decide_true])
      | (refine callK_pure (haw) rfl rfl ?_; simp only [go_sem, ↓reduceIte, g1, g2, beq_self_eq_true, bne_self_eq_false, decide_true])
      | (refine dCallK_pure (haw) rfl rfl ?_; simp only [go_sem, ↓reduceIte, g1, g2, beq_self_eq_true, bne_self_eq_false, decide_true])
      | (rw [if_pos (by (try simp only [List.length_append, List.length_cons, List.length_nil, List.length_map]); omega)]; simp only [go_sem, ↓reduceIte, g1, g2, beq_self_eq_true, bne_self_eq_false, decide_true]))
    refine hK _ ?_; clear hK
    refine bwp_ret ?_
    simp only [go_sem]
    refine aend_ret _ rfl rfl ⟨?_, rfl⟩
    simp [fget]
  have m3 : k ≤ 140737488351232 := by omega
  have t6' : k + 1 + (s.length - (k + 1)) ≤ s.length := by omega
  have t7 : (ptB (s.take k)).length = k := by rw [ptB_len, List.length_take]; omega
  by_cases hk0 : k = 0
  · have n1 : ¬ k + 1 = s.length := by omega
    have n2 : ¬ s.length - (k + 1) = 0 := by omega
    have n3 : s.length - (k + 1) ≤ 140737488351232 := by omega
    have n4 : (s.drop (k + 1)).length = s.length - (k + 1) := List.length_drop
    refine bwp_region_draw rfl rfl ?_
    simp only [go_sem, ↓reduceIte, b0, b1, b2, b3, hw, Int.toNat_natCast, Nat.zero_le, Nat.le_refl, true_and, and_true, Nat.mul_one, Nat.zero_add, List.drop_zero, ptB_one, t3, t4, t5, t6, n0, n1, n2, n3, m3, List.nil_append, Int.natCast_nonneg, eq_true hk0, t6', List.length_nil]
    refine ⟨rfl, fin _ (s.drop (k + 1)) (by omega) (Leads.ent [(10, 0)] ⟨by simp [entT, fget, AV.ren, renL, pget, tuS], by simp [entM, pinv, mget, renL, AV.ren, pget, tuS, ptB_ren], rfl, rfl⟩)⟩
  · by_cases hk1 : k + 1 = s.length
    · have n4 : (s.take k).length = k := by rw [List.length_take]; omega
      refine bwp_region_draw rfl rfl ?_
      simp only [go_sem, ↓reduceIte, b0, b1, b2, b3, hw, Int.toNat_natCast, Nat.zero_le, Nat.le_refl, true_and, and_true, Nat.mul_one, Nat.zero_add, List.drop_zero, ptB_one, t3, t5, n0, m3, List.nil_append, Int.natCast_nonneg, eq_false hk0, eq_true hk1, List.length_nil, Nat.zero_mul, t7]
      refine ⟨rfl, fin _ (s.take k) (by omega) (Leads.ent [(5, 0)] ⟨by simp [entT, fget, AV.ren, renL, pget, tuS, n4], by simp [entM, pinv, mget, renL, AV.ren, pget, tuS, ptB_ren], rfl, rfl⟩)⟩
    · have n2 : ¬ s.length - (k + 1) = 0 := by omega
      have n3 : k + (s.length - (k + 1)) ≤ 140737488351232 := by omega
      have n4 : (s.take k ++ s.drop (k + 1)).length = k + (s.length - (k + 1)) := by rw [List.length_append, List.length_drop, List.length_take]; omega
      refine bwp_region_draw rfl rfl ?_
      simp only [go_sem, ↓reduceIte, b0, b1, b2, b3, hw, Int.toNat_natCast, Nat.zero_le, Nat.le_refl, true_and, and_true, Nat.mul_one, Nat.zero_add, List.drop_zero, ptB_one, t3, t4, t5, t6, t7, n0, n2, n3, m3, List.nil_append, Int.natCast_nonneg, eq_false hk0, eq_false hk1]
      refine ⟨rfl, fin _ (s.take k ++ s.drop (k + 1)) (by omega) (Leads.ent [(10, 0)] ⟨by simp [entT, fget, AV.ren, renL, pget, tuS]; omega, by simp [entM, pinv, mget, renL, AV.ren, pget, tuS, ptB_ren, renL_append, ptB_append], rfl, rfl⟩)⟩
end Go.Proofs.YtpfbljkfbjjlkaaGreatDoor
