/- The document's next token, gone through. -/
import Derived.Test.YtpfbljkfbjjlkaaDoorL8
import Derived.Test.YtpfbljkfbjjlkaaDoorN10
namespace Go.Proofs.YtpfbljkfbjjlkaaDoor
open Go Go.Jq
set_option maxRecDepth 100000
set_option linter.unusedSimpArgs false

def nxV (s : List UInt8) (a : Nat) : AV := .tup [.agg ((nextW s a).1.cells.map .d), .d (.int .i64 (nextW s a).2.1), .agg [.d (.int .i64 (nextW s a).2.2), .d (.int .i64 (errAt s a))]]

theorem nxV_ok {s : List UInt8} {a : Nat} {t : Tok} {e : Nat} (h : nextW s a = (t, e, 0)) : nxV s a = .tup [.agg [.d (.int .i64 t.kd), .d (.str t.tx), .d (.int .i64 t.pl)], .d (.int .i64 e), .agg [.d (.int .i64 0), .d (.int .i64 0)]] := by
  simp [nxV, errAt, h, Tok.cells]

theorem nxV_bad {s : List UInt8} {a : Nat} {e : Nat} {c : Int} (hc : c ≠ 0) (h : nextW s a = (noTok, e, c)) : nxV s a = .tup [.agg [.d (.int .i64 0), .d (.str []), .d (.int .i64 0)], .d (.int .i64 e), .agg [.d (.int .i64 c), .d (.int .i64 (skipA s a))]] := by
  simp [nxV, errAt, h, hc, Tok.cells, noTok]

theorem nxV_ren (s : List UInt8) (a : Nat) : (nxV s a).ren (fun _ => none) = nxV s a := by simp [nxV, Tok.cells, AV.ren, renL]

def nxM : Mem := [(0, [.d (.int .i64 0), .d (.str []), .d (.int .i64 0)]), (1, [.d (.int .i64 0), .d (.int .i64 0)])]
def rnS (s : List UInt8) (at' : Nat) (c : UInt8) (p : Nat) : St := ⟨[(9, .d (.int .i64 p)), (0, .d (.str s)), (7, .d (.int .i64 at')), (8, .d (.int .u8 c.toNat)), (4, .ptr 0 0), (6, .ptr 1 0)], nxM, 2⟩

theorem run_at {s : List UInt8} {p : Nat} (h : p < s.length) : runL (s.drop p) = if alnB (s.getD p 0) = true then 1 + runL (s.drop (p + 1)) else 0 := by rw [drop_at h, runL]

theorem slice_eq (s : List UInt8) (a b : Nat) : (s.take b).drop a = (s.drop a).take (b - a) := by rw [List.drop_take]

set_option maxHeartbeats 4000000 in
theorem rn_loop0 {s : List UInt8} (hs : s.length ≤ 140737488351232) {at' : Nat} {c : UInt8} {p0 : Nat} (hp0 : p0 ≤ s.length) {Q : Exit → St → Prop}
    (hQ : Q (.exit 0) (rnS s at' c (p0 + runL (s.drop p0)))) :
    BWP Tryd.prog (mbound []) 174 (.loop ac23L0) (rnS s at' c p0) Q := by
  refine bwp_fam (ι := { p : Nat // p ≤ s.length ∧ p + runL (s.drop p) = p0 + runL (s.drop p0) }) (fun p => rnS s at' c p.1) (fun p => s.length - p.1) ⟨p0, hp0, rfl⟩ ?_
  rintro ⟨p, hl, hT⟩
  simp only
  unfold ac23L0 rnS nxM
  have hi0 : (0 : Int) ≤ (p : Int) := Int.natCast_nonneg _
  have hout : runL (s.drop p) = 0 → Q (.exit 0) (rnS s at' c p) := fun h => by rw [← hT, h] at hQ; exact hQ
  by_cases hlt : p < s.length
  · have hlt' : (p : Int) < s.length := by omega
    have hd := run_at hlt
    generalize hc : s.getD p 0 = d at hd
    have k1 := letter_pure d
    have k2 := digit_pure d
    have hw : IntKind.i64.wrap ((p : Int) + 1) = ((p + 1 : Nat) : Int) := by rw [wrap_i64 (by omega) (by omega)]; rfl
    refine bwp_seq fun K1 hK1 => ?_
    refine bwp_seq fun K hK => bwp_region rfl ?_
    simp -implicitDefEqProofs only [go_sem, ↓reduceIte, Nat.reduceEqDiff, Nat.reduceAdd, Nat.reduceLeDiff, Nat.reduceMul, Nat.reduceSub, Int.reduceLE, Int.reduceLT, Int.reduceEq, Int.reduceToNat, Int.reducePow, Int.reduceNeg, hlt', hi0, Int.toNat_natCast, hc]
    by_cases ha : alnB d = true
    · rw [if_pos ha] at hd
      have fin : ∀ t : Fr, fget t 49 = .d (.bool true) → fget t 9 = .d (.int .i64 p) → fget t 0 = .d (.str s) → fget t 7 = .d (.int .i64 at') → fget t 8 = .d (.int .u8 c.toNat) → fget t 4 = .ptr 0 0 → fget t 6 = .ptr 1 0 → K ⟨t, nxM, 2⟩ := by
        intro t g1 g9 g0 g7 g8 g4 g6
        refine hK _ ?_; clear hK
        refine bwp_cond true (by simp [ev, fget, g1]) (fun _ => ?_) (fun h => nomatch h)
        refine bwp_skip ?_
        refine hK1 _ ?_; clear hK1
        refine bwp_block ?_
        refine bwp_region rfl ?_
        simp -implicitDefEqProofs only [go_sem, ↓reduceIte, Nat.reduceEqDiff, Nat.reduceAdd, Nat.reduceLeDiff, Nat.reduceMul, Nat.reduceSub, Int.reduceLE, Int.reduceLT, Int.reduceEq, Int.reduceToNat, Int.reducePow, Int.reduceNeg, g9, hw]
        refine ⟨⟨p + 1, by omega, by omega⟩, by simp only; omega, ?_⟩
        exact Leads.ent [(0, 0), (1, 1)] ⟨by simp [entT, fget, AV.ren, renL, pget, rnS, g0, g7, g8, g4, g6], by simp [entM, pinv, mget, renL, AV.ren, rnS, nxM], rfl, rfl⟩
      cases h1 : letB d with
      | true =>
        rw [h1] at k1
        repeat' (first
          | (refine gateK_split (fun hb => ?_) (fun hb => ?_) <;> simp -implicitDefEqProofs only [go_sem, ↓reduceIte, Nat.reduceEqDiff, Nat.reduceAdd, Nat.reduceLeDiff, Nat.reduceMul, Nat.reduceSub, Int.reduceLE, Int.reduceLT, Int.reduceEq, Int.reduceToNat, Int.reducePow, Int.reduceNeg, hb, hlt', hi0, Int.toNat_natCast, hc])
          | (refine dGateK_split (fun hb => ?_) (fun hb => ?_) <;> simp -implicitDefEqProofs only [go_sem, ↓reduceIte, Nat.reduceEqDiff, Nat.reduceAdd, Nat.reduceLeDiff, Nat.reduceMul, Nat.reduceSub, Int.reduceLE, Int.reduceLT, Int.reduceEq, Int.reduceToNat, Int.reducePow, Int.reduceNeg, hb, hlt', hi0, Int.toNat_natCast, hc])
          | (refine callK_pure (k1) rfl rfl ?_; simp -implicitDefEqProofs only [go_sem, ↓reduceIte, Nat.reduceEqDiff, Nat.reduceAdd, Nat.reduceLeDiff, Nat.reduceMul, Nat.reduceSub, Int.reduceLE, Int.reduceLT, Int.reduceEq, Int.reduceToNat, Int.reducePow, Int.reduceNeg, hlt', hi0, Int.toNat_natCast, hc])
          | (refine dCallK_pure (k1) rfl rfl ?_; simp -implicitDefEqProofs only [go_sem, ↓reduceIte, Nat.reduceEqDiff, Nat.reduceAdd, Nat.reduceLeDiff, Nat.reduceMul, Nat.reduceSub, Int.reduceLE, Int.reduceLT, Int.reduceEq, Int.reduceToNat, Int.reducePow, Int.reduceNeg, hlt', hi0, Int.toNat_natCast, hc])
          | (rw [if_pos (by (try simp only [List.length_append, List.length_cons, List.length_nil, List.length_map]); omega)]; simp -implicitDefEqProofs only [go_sem, ↓reduceIte, Nat.reduceEqDiff, Nat.reduceAdd, Nat.reduceLeDiff, Nat.reduceMul, Nat.reduceSub, Int.reduceLE, Int.reduceLT, Int.reduceEq, Int.reduceToNat, Int.reducePow, Int.reduceNeg, hlt', hi0, Int.toNat_natCast, hc]))
        exact fin _ rfl rfl rfl rfl rfl rfl rfl
      | false =>
        have h2 : digB d = true := by simpa [alnB, h1] using ha
        rw [h1] at k1
        rw [h2] at k2
        repeat' (first
          | (refine gateK_split (fun hb => ?_) (fun hb => ?_) <;> simp -implicitDefEqProofs only [go_sem, ↓reduceIte, Nat.reduceEqDiff, Nat.reduceAdd, Nat.reduceLeDiff, Nat.reduceMul, Nat.reduceSub, Int.reduceLE, Int.reduceLT, Int.reduceEq, Int.reduceToNat, Int.reducePow, Int.reduceNeg, hb, hlt', hi0, Int.toNat_natCast, hc])
          | (refine dGateK_split (fun hb => ?_) (fun hb => ?_) <;> simp -implicitDefEqProofs only [go_sem, ↓reduceIte, Nat.reduceEqDiff, Nat.reduceAdd, Nat.reduceLeDiff, Nat.reduceMul, Nat.reduceSub, Int.reduceLE, Int.reduceLT, Int.reduceEq, Int.reduceToNat, Int.reducePow, Int.reduceNeg, hb, hlt', hi0, Int.toNat_natCast, hc])
          | (refine callK_pure (k1) rfl rfl ?_; simp -implicitDefEqProofs only [go_sem, ↓reduceIte, Nat.reduceEqDiff, Nat.reduceAdd, Nat.reduceLeDiff, Nat.reduceMul, Nat.reduceSub, Int.reduceLE, Int.reduceLT, Int.reduceEq, Int.reduceToNat, Int.reducePow, Int.reduceNeg, hlt', hi0, Int.toNat_natCast, hc])
          | (refine dCallK_pure (k1) rfl rfl ?_; simp -implicitDefEqProofs only [go_sem, ↓reduceIte, Nat.reduceEqDiff, Nat.reduceAdd, Nat.reduceLeDiff, Nat.reduceMul, Nat.reduceSub, Int.reduceLE, Int.reduceLT, Int.reduceEq, Int.reduceToNat, Int.reducePow, Int.reduceNeg, hlt', hi0, Int.toNat_natCast, hc])
          | (refine callK_pure (k2) rfl rfl ?_; simp -implicitDefEqProofs only [go_sem, ↓reduceIte, Nat.reduceEqDiff, Nat.reduceAdd, Nat.reduceLeDiff, Nat.reduceMul, Nat.reduceSub, Int.reduceLE, Int.reduceLT, Int.reduceEq, Int.reduceToNat, Int.reducePow, Int.reduceNeg, hlt', hi0, Int.toNat_natCast, hc])
          | (refine dCallK_pure (k2) rfl rfl ?_; simp -implicitDefEqProofs only [go_sem, ↓reduceIte, Nat.reduceEqDiff, Nat.reduceAdd, Nat.reduceLeDiff, Nat.reduceMul, Nat.reduceSub, Int.reduceLE, Int.reduceLT, Int.reduceEq, Int.reduceToNat, Int.reducePow, Int.reduceNeg, hlt', hi0, Int.toNat_natCast, hc])
          | (rw [if_pos (by (try simp only [List.length_append, List.length_cons, List.length_nil, List.length_map]); omega)]; simp -implicitDefEqProofs only [go_sem, ↓reduceIte, Nat.reduceEqDiff, Nat.reduceAdd, Nat.reduceLeDiff, Nat.reduceMul, Nat.reduceSub, Int.reduceLE, Int.reduceLT, Int.reduceEq, Int.reduceToNat, Int.reducePow, Int.reduceNeg, hlt', hi0, Int.toNat_natCast, hc]))
        exact fin _ rfl rfl rfl rfl rfl rfl rfl
    · rw [if_neg ha] at hd
      have ha' : letB d = false ∧ digB d = false := by simpa [alnB] using ha
      rw [ha'.1] at k1
      rw [ha'.2] at k2
      repeat' (first
        | (refine gateK_split (fun hb => ?_) (fun hb => ?_) <;> simp -implicitDefEqProofs only [go_sem, ↓reduceIte, Nat.reduceEqDiff, Nat.reduceAdd, Nat.reduceLeDiff, Nat.reduceMul, Nat.reduceSub, Int.reduceLE, Int.reduceLT, Int.reduceEq, Int.reduceToNat, Int.reducePow, Int.reduceNeg, hb, hlt', hi0, Int.toNat_natCast, hc])
        | (refine dGateK_split (fun hb => ?_) (fun hb => ?_) <;> simp -implicitDefEqProofs only [go_sem, ↓reduceIte, Nat.reduceEqDiff, Nat.reduceAdd, Nat.reduceLeDiff, Nat.reduceMul, Nat.reduceSub, Int.reduceLE, Int.reduceLT, Int.reduceEq, Int.reduceToNat, Int.reducePow, Int.reduceNeg, hb, hlt', hi0, Int.toNat_natCast, hc])
        | (refine callK_pure (k1) rfl rfl ?_; simp -implicitDefEqProofs only [go_sem, ↓reduceIte, Nat.reduceEqDiff, Nat.reduceAdd, Nat.reduceLeDiff, Nat.reduceMul, Nat.reduceSub, Int.reduceLE, Int.reduceLT, Int.reduceEq, Int.reduceToNat, Int.reducePow, Int.reduceNeg, hlt', hi0, Int.toNat_natCast, hc])
        | (refine dCallK_pure (k1) rfl rfl ?_; simp -implicitDefEqProofs only [go_sem, ↓reduceIte, Nat.reduceEqDiff, Nat.reduceAdd, Nat.reduceLeDiff, Nat.reduceMul, Nat.reduceSub, Int.reduceLE, Int.reduceLT, Int.reduceEq, Int.reduceToNat, Int.reducePow, Int.reduceNeg, hlt', hi0, Int.toNat_natCast, hc])
        | (refine callK_pure (k2) rfl rfl ?_; simp -implicitDefEqProofs only [go_sem, ↓reduceIte, Nat.reduceEqDiff, Nat.reduceAdd, Nat.reduceLeDiff, Nat.reduceMul, Nat.reduceSub, Int.reduceLE, Int.reduceLT, Int.reduceEq, Int.reduceToNat, Int.reducePow, Int.reduceNeg, hlt', hi0, Int.toNat_natCast, hc])
        | (refine dCallK_pure (k2) rfl rfl ?_; simp -implicitDefEqProofs only [go_sem, ↓reduceIte, Nat.reduceEqDiff, Nat.reduceAdd, Nat.reduceLeDiff, Nat.reduceMul, Nat.reduceSub, Int.reduceLE, Int.reduceLT, Int.reduceEq, Int.reduceToNat, Int.reducePow, Int.reduceNeg, hlt', hi0, Int.toNat_natCast, hc])
        | (rw [if_pos (by (try simp only [List.length_append, List.length_cons, List.length_nil, List.length_map]); omega)]; simp -implicitDefEqProofs only [go_sem, ↓reduceIte, Nat.reduceEqDiff, Nat.reduceAdd, Nat.reduceLeDiff, Nat.reduceMul, Nat.reduceSub, Int.reduceLE, Int.reduceLT, Int.reduceEq, Int.reduceToNat, Int.reducePow, Int.reduceNeg, hlt', hi0, Int.toNat_natCast, hc]))
      refine hK _ ?_; clear hK
      refine bwp_cond false (by simp [ev, fget]) (fun h => nomatch h) (fun _ => ?_)
      refine bwp_leads (S' := rnS s at' c p) (Leads.ent [(0, 0), (1, 1)] ⟨by simp [entT, fget, AV.ren, renL, pget, rnS, nxM], by simp [entM, pinv, mget, mset, renL, AV.ren, pget, renL_append, -List.map_map, rnS, nxM], rfl, rfl⟩) ?_
      exact bwp_exit (hout hd)
  · have hlt' : ¬ (p : Int) < s.length := by omega
    have he : p = s.length := by omega
    refine bwp_seq fun K1 hK1 => ?_
    refine bwp_seq fun K hK => bwp_region rfl ?_
    simp -implicitDefEqProofs only [go_sem, ↓reduceIte, Nat.reduceEqDiff, Nat.reduceAdd, Nat.reduceLeDiff, Nat.reduceMul, Nat.reduceSub, Int.reduceLE, Int.reduceLT, Int.reduceEq, Int.reduceToNat, Int.reducePow, Int.reduceNeg, hlt']
    refine hK _ ?_; clear hK
    refine bwp_cond false (by simp [ev, fget]) (fun h => nomatch h) (fun _ => ?_)
    refine bwp_leads (S' := rnS s at' c p) (Leads.ent [(0, 0), (1, 1)] ⟨by simp [entT, fget, AV.ren, renL, pget, rnS, nxM], by simp [entM, pinv, mget, mset, renL, AV.ren, pget, renL_append, -List.map_map, rnS, nxM], rfl, rfl⟩) ?_
    exact bwp_exit (hout (by rw [he, List.drop_length]; rfl))

set_option maxHeartbeats 4000000 in
theorem rn_loop1 {s : List UInt8} (hs : s.length ≤ 140737488351232) {at' : Nat} {c : UInt8} {p0 : Nat} (hp0 : p0 ≤ s.length) {Q : Exit → St → Prop}
    (hQ : Q (.exit 2) (rnS s at' c (p0 + runL (s.drop p0)))) :
    BWP Tryd.prog (mbound []) 174 (.loop ac23L1) (rnS s at' c p0) Q := by
  refine bwp_fam (ι := { p : Nat // p ≤ s.length ∧ p + runL (s.drop p) = p0 + runL (s.drop p0) }) (fun p => rnS s at' c p.1) (fun p => s.length - p.1) ⟨p0, hp0, rfl⟩ ?_
  rintro ⟨p, hl, hT⟩
  simp only
  unfold ac23L1 rnS nxM
  have hi0 : (0 : Int) ≤ (p : Int) := Int.natCast_nonneg _
  have hout : runL (s.drop p) = 0 → Q (.exit 2) (rnS s at' c p) := fun h => by rw [← hT, h] at hQ; exact hQ
  by_cases hlt : p < s.length
  · have hlt' : (p : Int) < s.length := by omega
    have hd := run_at hlt
    generalize hc : s.getD p 0 = d at hd
    have k1 := letter_pure d
    have k2 := digit_pure d
    have hw : IntKind.i64.wrap ((p : Int) + 1) = ((p + 1 : Nat) : Int) := by rw [wrap_i64 (by omega) (by omega)]; rfl
    refine bwp_seq fun K1 hK1 => ?_
    refine bwp_seq fun K hK => bwp_region rfl ?_
    simp -implicitDefEqProofs only [go_sem, ↓reduceIte, Nat.reduceEqDiff, Nat.reduceAdd, Nat.reduceLeDiff, Nat.reduceMul, Nat.reduceSub, Int.reduceLE, Int.reduceLT, Int.reduceEq, Int.reduceToNat, Int.reducePow, Int.reduceNeg, hlt', hi0, Int.toNat_natCast, hc]
    by_cases ha : alnB d = true
    · rw [if_pos ha] at hd
      have fin : ∀ t : Fr, fget t 93 = .d (.bool true) → fget t 9 = .d (.int .i64 p) → fget t 0 = .d (.str s) → fget t 7 = .d (.int .i64 at') → fget t 8 = .d (.int .u8 c.toNat) → fget t 4 = .ptr 0 0 → fget t 6 = .ptr 1 0 → K ⟨t, nxM, 2⟩ := by
        intro t g1 g9 g0 g7 g8 g4 g6
        refine hK _ ?_; clear hK
        refine bwp_cond true (by simp [ev, fget, g1]) (fun _ => ?_) (fun h => nomatch h)
        refine bwp_skip ?_
        refine hK1 _ ?_; clear hK1
        refine bwp_block ?_
        refine bwp_region rfl ?_
        simp -implicitDefEqProofs only [go_sem, ↓reduceIte, Nat.reduceEqDiff, Nat.reduceAdd, Nat.reduceLeDiff, Nat.reduceMul, Nat.reduceSub, Int.reduceLE, Int.reduceLT, Int.reduceEq, Int.reduceToNat, Int.reducePow, Int.reduceNeg, g9, hw]
        refine ⟨⟨p + 1, by omega, by omega⟩, by simp only; omega, ?_⟩
        exact Leads.ent [(0, 0), (1, 1)] ⟨by simp [entT, fget, AV.ren, renL, pget, rnS, g0, g7, g8, g4, g6], by simp [entM, pinv, mget, renL, AV.ren, rnS, nxM], rfl, rfl⟩
      cases h1 : letB d with
      | true =>
        rw [h1] at k1
        repeat' (first
          | (refine gateK_split (fun hb => ?_) (fun hb => ?_) <;> simp -implicitDefEqProofs only [go_sem, ↓reduceIte, Nat.reduceEqDiff, Nat.reduceAdd, Nat.reduceLeDiff, Nat.reduceMul, Nat.reduceSub, Int.reduceLE, Int.reduceLT, Int.reduceEq, Int.reduceToNat, Int.reducePow, Int.reduceNeg, hb, hlt', hi0, Int.toNat_natCast, hc])
          | (refine dGateK_split (fun hb => ?_) (fun hb => ?_) <;> simp -implicitDefEqProofs only [go_sem, ↓reduceIte, Nat.reduceEqDiff, Nat.reduceAdd, Nat.reduceLeDiff, Nat.reduceMul, Nat.reduceSub, Int.reduceLE, Int.reduceLT, Int.reduceEq, Int.reduceToNat, Int.reducePow, Int.reduceNeg, hb, hlt', hi0, Int.toNat_natCast, hc])
          | (refine callK_pure (k1) rfl rfl ?_; simp -implicitDefEqProofs only [go_sem, ↓reduceIte, Nat.reduceEqDiff, Nat.reduceAdd, Nat.reduceLeDiff, Nat.reduceMul, Nat.reduceSub, Int.reduceLE, Int.reduceLT, Int.reduceEq, Int.reduceToNat, Int.reducePow, Int.reduceNeg, hlt', hi0, Int.toNat_natCast, hc])
          | (refine dCallK_pure (k1) rfl rfl ?_; simp -implicitDefEqProofs only [go_sem, ↓reduceIte, Nat.reduceEqDiff, Nat.reduceAdd, Nat.reduceLeDiff, Nat.reduceMul, Nat.reduceSub, Int.reduceLE, Int.reduceLT, Int.reduceEq, Int.reduceToNat, Int.reducePow, Int.reduceNeg, hlt', hi0, Int.toNat_natCast, hc])
          | (rw [if_pos (by (try simp only [List.length_append, List.length_cons, List.length_nil, List.length_map]); omega)]; simp -implicitDefEqProofs only [go_sem, ↓reduceIte, Nat.reduceEqDiff, Nat.reduceAdd, Nat.reduceLeDiff, Nat.reduceMul, Nat.reduceSub, Int.reduceLE, Int.reduceLT, Int.reduceEq, Int.reduceToNat, Int.reducePow, Int.reduceNeg, hlt', hi0, Int.toNat_natCast, hc]))
        exact fin _ rfl rfl rfl rfl rfl rfl rfl
      | false =>
        have h2 : digB d = true := by simpa [alnB, h1] using ha
        rw [h1] at k1
        rw [h2] at k2
        repeat' (first
          | (refine gateK_split (fun hb => ?_) (fun hb => ?_) <;> simp -implicitDefEqProofs only [go_sem, ↓reduceIte, Nat.reduceEqDiff, Nat.reduceAdd, Nat.reduceLeDiff, Nat.reduceMul, Nat.reduceSub, Int.reduceLE, Int.reduceLT, Int.reduceEq, Int.reduceToNat, Int.reducePow, Int.reduceNeg, hb, hlt', hi0, Int.toNat_natCast, hc])
          | (refine dGateK_split (fun hb => ?_) (fun hb => ?_) <;> simp -implicitDefEqProofs only [go_sem, ↓reduceIte, Nat.reduceEqDiff, Nat.reduceAdd, Nat.reduceLeDiff, Nat.reduceMul, Nat.reduceSub, Int.reduceLE, Int.reduceLT, Int.reduceEq, Int.reduceToNat, Int.reducePow, Int.reduceNeg, hb, hlt', hi0, Int.toNat_natCast, hc])
          | (refine callK_pure (k1) rfl rfl ?_; simp -implicitDefEqProofs only [go_sem, ↓reduceIte, Nat.reduceEqDiff, Nat.reduceAdd, Nat.reduceLeDiff, Nat.reduceMul, Nat.reduceSub, Int.reduceLE, Int.reduceLT, Int.reduceEq, Int.reduceToNat, Int.reducePow, Int.reduceNeg, hlt', hi0, Int.toNat_natCast, hc])
          | (refine dCallK_pure (k1) rfl rfl ?_; simp -implicitDefEqProofs only [go_sem, ↓reduceIte, Nat.reduceEqDiff, Nat.reduceAdd, Nat.reduceLeDiff, Nat.reduceMul, Nat.reduceSub, Int.reduceLE, Int.reduceLT, Int.reduceEq, Int.reduceToNat, Int.reducePow, Int.reduceNeg, hlt', hi0, Int.toNat_natCast, hc])
          | (refine callK_pure (k2) rfl rfl ?_; simp -implicitDefEqProofs only [go_sem, ↓reduceIte, Nat.reduceEqDiff, Nat.reduceAdd, Nat.reduceLeDiff, Nat.reduceMul, Nat.reduceSub, Int.reduceLE, Int.reduceLT, Int.reduceEq, Int.reduceToNat, Int.reducePow, Int.reduceNeg, hlt', hi0, Int.toNat_natCast, hc])
          | (refine dCallK_pure (k2) rfl rfl ?_; simp -implicitDefEqProofs only [go_sem, ↓reduceIte, Nat.reduceEqDiff, Nat.reduceAdd, Nat.reduceLeDiff, Nat.reduceMul, Nat.reduceSub, Int.reduceLE, Int.reduceLT, Int.reduceEq, Int.reduceToNat, Int.reducePow, Int.reduceNeg, hlt', hi0, Int.toNat_natCast, hc])
          | (rw [if_pos (by (try simp only [List.length_append, List.length_cons, List.length_nil, List.length_map]); omega)]; simp -implicitDefEqProofs only [go_sem, ↓reduceIte, Nat.reduceEqDiff, Nat.reduceAdd, Nat.reduceLeDiff, Nat.reduceMul, Nat.reduceSub, Int.reduceLE, Int.reduceLT, Int.reduceEq, Int.reduceToNat, Int.reducePow, Int.reduceNeg, hlt', hi0, Int.toNat_natCast, hc]))
        exact fin _ rfl rfl rfl rfl rfl rfl rfl
    · rw [if_neg ha] at hd
      have ha' : letB d = false ∧ digB d = false := by simpa [alnB] using ha
      rw [ha'.1] at k1
      rw [ha'.2] at k2
      repeat' (first
        | (refine gateK_split (fun hb => ?_) (fun hb => ?_) <;> simp -implicitDefEqProofs only [go_sem, ↓reduceIte, Nat.reduceEqDiff, Nat.reduceAdd, Nat.reduceLeDiff, Nat.reduceMul, Nat.reduceSub, Int.reduceLE, Int.reduceLT, Int.reduceEq, Int.reduceToNat, Int.reducePow, Int.reduceNeg, hb, hlt', hi0, Int.toNat_natCast, hc])
        | (refine dGateK_split (fun hb => ?_) (fun hb => ?_) <;> simp -implicitDefEqProofs only [go_sem, ↓reduceIte, Nat.reduceEqDiff, Nat.reduceAdd, Nat.reduceLeDiff, Nat.reduceMul, Nat.reduceSub, Int.reduceLE, Int.reduceLT, Int.reduceEq, Int.reduceToNat, Int.reducePow, Int.reduceNeg, hb, hlt', hi0, Int.toNat_natCast, hc])
        | (refine callK_pure (k1) rfl rfl ?_; simp -implicitDefEqProofs only [go_sem, ↓reduceIte, Nat.reduceEqDiff, Nat.reduceAdd, Nat.reduceLeDiff, Nat.reduceMul, Nat.reduceSub, Int.reduceLE, Int.reduceLT, Int.reduceEq, Int.reduceToNat, Int.reducePow, Int.reduceNeg, hlt', hi0, Int.toNat_natCast, hc])
        | (refine dCallK_pure (k1) rfl rfl ?_; simp -implicitDefEqProofs only [go_sem, ↓reduceIte, Nat.reduceEqDiff, Nat.reduceAdd, Nat.reduceLeDiff, Nat.reduceMul, Nat.reduceSub, Int.reduceLE, Int.reduceLT, Int.reduceEq, Int.reduceToNat, Int.reducePow, Int.reduceNeg, hlt', hi0, Int.toNat_natCast, hc])
        | (refine callK_pure (k2) rfl rfl ?_; simp -implicitDefEqProofs only [go_sem, ↓reduceIte, Nat.reduceEqDiff, Nat.reduceAdd, Nat.reduceLeDiff, Nat.reduceMul, Nat.reduceSub, Int.reduceLE, Int.reduceLT, Int.reduceEq, Int.reduceToNat, Int.reducePow, Int.reduceNeg, hlt', hi0, Int.toNat_natCast, hc])
        | (refine dCallK_pure (k2) rfl rfl ?_; simp -implicitDefEqProofs only [go_sem, ↓reduceIte, Nat.reduceEqDiff, Nat.reduceAdd, Nat.reduceLeDiff, Nat.reduceMul, Nat.reduceSub, Int.reduceLE, Int.reduceLT, Int.reduceEq, Int.reduceToNat, Int.reducePow, Int.reduceNeg, hlt', hi0, Int.toNat_natCast, hc])
        | (rw [if_pos (by (try simp only [List.length_append, List.length_cons, List.length_nil, List.length_map]); omega)]; simp -implicitDefEqProofs only [go_sem, ↓reduceIte, Nat.reduceEqDiff, Nat.reduceAdd, Nat.reduceLeDiff, Nat.reduceMul, Nat.reduceSub, Int.reduceLE, Int.reduceLT, Int.reduceEq, Int.reduceToNat, Int.reducePow, Int.reduceNeg, hlt', hi0, Int.toNat_natCast, hc]))
      refine hK _ ?_; clear hK
      refine bwp_cond false (by simp [ev, fget]) (fun h => nomatch h) (fun _ => ?_)
      refine bwp_leads (S' := rnS s at' c p) (Leads.ent [(0, 0), (1, 1)] ⟨by simp [entT, fget, AV.ren, renL, pget, rnS, nxM], by simp [entM, pinv, mget, mset, renL, AV.ren, pget, renL_append, -List.map_map, rnS, nxM], rfl, rfl⟩) ?_
      exact bwp_exit (hout hd)
  · have hlt' : ¬ (p : Int) < s.length := by omega
    have he : p = s.length := by omega
    refine bwp_seq fun K1 hK1 => ?_
    refine bwp_seq fun K hK => bwp_region rfl ?_
    simp -implicitDefEqProofs only [go_sem, ↓reduceIte, Nat.reduceEqDiff, Nat.reduceAdd, Nat.reduceLeDiff, Nat.reduceMul, Nat.reduceSub, Int.reduceLE, Int.reduceLT, Int.reduceEq, Int.reduceToNat, Int.reducePow, Int.reduceNeg, hlt']
    refine hK _ ?_; clear hK
    refine bwp_cond false (by simp [ev, fget]) (fun h => nomatch h) (fun _ => ?_)
    refine bwp_leads (S' := rnS s at' c p) (Leads.ent [(0, 0), (1, 1)] ⟨by simp [entT, fget, AV.ren, renL, pget, rnS, nxM], by simp [entM, pinv, mget, mset, renL, AV.ren, pget, renL_append, -List.map_map, rnS, nxM], rfl, rfl⟩) ?_
    exact bwp_exit (hout (by rw [he, List.drop_length]; rfl))

end Go.Proofs.YtpfbljkfbjjlkaaDoor
