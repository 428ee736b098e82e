/- A condition's text, told without a heap. -/
import Derived.Test.YtgfkgngpganllaaDoorP4
namespace Go.Proofs.YtgfkgngpganllaaDoor
open Go Go.Jq
set_option maxRecDepth 100000
set_option linter.unusedSimpArgs false

def atomT (a : Atom) : List UInt8 := (if a.thread = -1 then locT a.loc else Lib.itoa a.thread ++ [32, 58, 32] ++ regT a.reg) ++ [32, 61, 32] ++ Lib.itoa a.value
def rowT (l : List Atom) : List UInt8 := Lib.join (l.map atomT) [32, 38, 32]
def wordT (kind : Int) : List UInt8 := if kind = 2 then [102, 111, 114, 97, 108, 108, 32] else [101, 120, 105, 115, 116, 115, 32]
def condT (kind : Int) (rows : List (List Atom)) : List UInt8 :=
  if kind = 0 ∨ okCondB kind rows = false then [] else wordT kind ++ Lib.join (rows.map rowT) [32, 124, 32] ++ [32, 59]

def I64a (a : Atom) : Prop := I64 a.thread ∧ I64 a.reg ∧ I64 a.value
def FewC (rows : List (List Atom)) : Prop := rows.length ≤ 12 ∧ ∀ l ∈ rows, l.length ≤ 12 ∧ ∀ a ∈ l, I64a a

theorem atomT_len {a : Atom} (h : I64a a) : (atomT a).length ≤ 67 := by
  have h1 := itoa_len h.1
  have h2 := regT_len h.2.1
  have h3 := itoa_len h.2.2
  have h4 : (locT a.loc).length ≤ 4 := utf8_len _
  unfold atomT
  split <;> simp <;> omega

theorem rowT_len {l : List Atom} (h : l.length ≤ 12 ∧ ∀ a ∈ l, I64a a) : (rowT l).length ≤ 840 := by
  have := join_len [32, 38, 32] (l.map atomT) 67 (fun s hs => by
    obtain ⟨a, ha, rfl⟩ := List.mem_map.1 hs
    exact atomT_len (h.2 a ha))
  rw [List.length_map] at this
  have h2 : l.length * 70 ≤ 12 * 70 := Nat.mul_le_mul_right _ h.1
  unfold rowT
  exact Nat.le_trans this h2

theorem rowsT_len {rows : List (List Atom)} (h : FewC rows) : (Lib.join (rows.map rowT) [32, 124, 32]).length ≤ 10116 := by
  have := join_len [32, 124, 32] (rows.map rowT) 840 (fun s hs => by
    obtain ⟨a, ha, rfl⟩ := List.mem_map.1 hs
    exact rowT_len (h.2 a ha))
  rw [List.length_map] at this
  have h2 : rows.length * 843 ≤ 12 * 843 := Nat.mul_le_mul_right _ h.1
  exact Nat.le_trans this h2

theorem condT_len {kind : Int} {rows : List (List Atom)} (h : FewC rows) : (condT kind rows).length ≤ 10125 := by
  have := rowsT_len h
  unfold condT wordT
  split
  · simp
  · split <;> simp <;> omega

def strs (l : List (List UInt8)) : List AV := (l.map DV.str).map AV.d

@[simp] theorem strs_length (l : List (List UInt8)) : (strs l).length = l.length := by simp [strs]
@[simp] theorem renL_strs (π : Nat → Option Nat) (l : List (List UInt8)) : renL π (strs l) = strs l := renL_d π _
theorem strs_append (l l' : List (List UInt8)) : strs (l ++ l') = strs l ++ strs l' := by simp [strs]
theorem strs_one (s : List UInt8) : strs [s] = [.d (.str s)] := rfl

def cdS (kind : Int) (A X : DV) (n len i k : Nat) (Rs As : List (List UInt8)) : St :=
  ⟨[(28, .d (.int .i64 k)), (26, .d X), (27, .d (.int .i64 len)), (6, .sl 2 1 0 As.length), (22, .d (.int .i64 i)), (20, .d A), (21, .d (.int .i64 n)), (3, .sl 1 1 0 Rs.length), (1, .ptr 0 0)],
    [(0, [.d (.int .i64 kind), .d A]), (1, strs Rs), (2, strs As)], 3⟩

set_option maxHeartbeats 2000000 in
theorem cond_row {kind : Int} {A X : DV} {l : List Atom} (hX : IsSl Atom.cells l X) (h12 : l.length ≤ 12) (ha : ∀ a ∈ l, I64a a) {n i : Nat} {Rs : List (List UInt8)} {Q : Exit → St → Prop}
    (hQ : Q (.exit 2) (cdS kind A X n l.length i l.length Rs (l.map atomT))) : BWP Tryd.prog (mbound []) 70 (.loop ac14L0) (cdS kind A X n l.length i 0 Rs []) Q := by
  refine bwp_count (fun k => cdS kind A X n l.length i k Rs ((l.take k).map atomT)) l.length ?_
  intro k hk
  have hlen : ((l.take k).map atomT).length = k := by simp; omega
  unfold ac14L0 cdS
  rw [hlen]
  generalize hAs : (l.take k).map atomT = As at hlen
  have hsl : (strs As).length = k := by rw [strs_length, hlen]
  by_cases hlt : k < l.length
  · have hlt' : (k : Int) < l.length := by omega
    obtain ⟨cs, rest, hXe, hdrop, hcs⟩ := hX.at atom_len (by omega) k hlt
    obtain ⟨a1, a2, a3⟩ := ha l[k] (List.getElem_mem hlt)
    generalize hael : l[k] = a at hcs hdrop a1 a2 a3
    have hnx : (l.take (k + 1)).map atomT = As ++ [atomT a] := by
      rw [← hAs, List.take_succ_eq_append_getElem hlt, List.map_append, hael]; rfl
    have l1 := itoa_len a1
    have l2 := regT_len a2
    have l3 := itoa_len a3
    have l4 : (locT a.loc).length ≤ 4 := utf8_len _
    refine bwp_seq fun K hK => bwp_region rfl ?_
    simp -implicitDefEqProofs only [go_sem, ↓reduceIte, Nat.reduceEqDiff, Nat.reduceAdd, Nat.reduceLeDiff, Nat.reduceMul, Nat.reduceSub, Int.reduceLE, Int.reduceLT, Int.reduceEq, Int.reduceToNat, Int.reducePow, Int.reduceNeg, hlt']
    refine hK _ ?_; clear hK
    refine bwp_seq fun K1 hK1 => ?_
    refine bwp_cond true (by simp [ev, fget]) (fun _ => ?_) (fun h => nomatch h)
    refine bwp_skip ?_
    refine hK1 _ ?_; clear hK1
    refine bwp_seq fun K1 hK1 => ?_
    refine bwp_block ?_
    refine bwp_seq fun K hK => bwp_region rfl ?_
    simp -implicitDefEqProofs only [go_sem, ↓reduceIte, Nat.reduceEqDiff, Nat.reduceAdd, Nat.reduceLeDiff, Nat.reduceMul, Nat.reduceSub, Int.reduceLE, Int.reduceLT, Int.reduceEq, Int.reduceToNat, Int.reducePow, Int.reduceNeg, hXe, hlt', Int.natCast_nonneg, Int.toNat_natCast, hcs, hdrop, Atom.cells]
    refine hK _ ?_; clear hK
    refine bwp_seq fun K hK => bwp_region rfl ?_
    simp -implicitDefEqProofs only [go_sem, ↓reduceIte, Nat.reduceEqDiff, Nat.reduceAdd, Nat.reduceLeDiff, Nat.reduceMul, Nat.reduceSub, Int.reduceLE, Int.reduceLT, Int.reduceEq, Int.reduceToNat, Int.reducePow, Int.reduceNeg]
    refine callK_pure (loc_pure a.loc) rfl rfl ?_
    simp -implicitDefEqProofs only [go_sem, ↓reduceIte, Nat.reduceEqDiff, Nat.reduceAdd, Nat.reduceLeDiff, Nat.reduceMul, Nat.reduceSub, Int.reduceLE, Int.reduceLT, Int.reduceEq, Int.reduceToNat, Int.reducePow, Int.reduceNeg]
    refine hK _ ?_; clear hK
    refine bwp_seq fun K2 hK2 => ?_
    have fin : ∀ (S : St) (s : List UInt8), s.length ≤ 44 → atomT a = s ++ [32, 61, 32] ++ Lib.itoa a.value →
        Leads (mbound []) 70 S ⟨[(9, .d (.str s)), (8, .ptr 3 0), (28, .d (.int .i64 k)), (26, .d X), (27, .d (.int .i64 l.length)), (6, .sl 2 1 0 k), (22, .d (.int .i64 i)), (20, .d A), (21, .d (.int .i64 n)), (3, .sl 1 1 0 Rs.length), (1, .ptr 0 0)],
          [(0, [.d (.int .i64 kind), .d A]), (1, strs Rs), (2, strs As), (3, (Atom.cells a).map .d)], 4⟩ → K2 S := by
      intro S s hs hat hS
      refine hK2 _ ?_; clear hK2
      refine bwp_leads hS ?_
      refine bwp_region rfl ?_
      have b1 : s.length + 3 ≤ 9223372036854775807 := by omega
      have b2 : s.length + 3 + (Lib.itoa a.value).length ≤ 9223372036854775807 := by omega
      have b3 : (k + 1) * 16 ≤ 140737488351232 := by omega
      simp -implicitDefEqProofs only [go_sem, ↓reduceIte, Nat.reduceEqDiff, Nat.reduceAdd, Nat.reduceLeDiff, Nat.reduceMul, Nat.reduceSub, Int.reduceLE, Int.reduceLT, Int.reduceEq, Int.reduceToNat, Int.reducePow, Int.reduceNeg, Atom.cells, List.map_cons, List.map_nil, b1]
      refine callK_pure (text_pure a3) rfl rfl ?_
      simp -implicitDefEqProofs only [go_sem, ↓reduceIte, Nat.reduceEqDiff, Nat.reduceAdd, Nat.reduceLeDiff, Nat.reduceMul, Nat.reduceSub, Int.reduceLE, Int.reduceLT, Int.reduceEq, Int.reduceToNat, Int.reducePow, Int.reduceNeg, List.length_append, List.length_cons, List.length_nil, b1, b2, b3, hsl, Nat.mul_one, Nat.zero_add]
      refine hK1 _ ?_; clear hK1
      have hw : IntKind.i64.wrap ((k : Int) + 1) = ((k + 1 : Nat) : Int) := by rw [wrap_i64 (by omega) (by omega)]; rfl
      refine bwp_region rfl ?_
      simp -implicitDefEqProofs only [go_sem, ↓reduceIte, Nat.reduceEqDiff, Nat.reduceAdd, Nat.reduceLeDiff, Nat.reduceMul, Nat.reduceSub, Int.reduceLE, Int.reduceLT, Int.reduceEq, Int.reduceToNat, Int.reducePow, Int.reduceNeg, hw]
      have hlen2 : (l.take (k + 1)).length = k + 1 := by simp; omega
      have hfe : strs ((l.take (k + 1)).map atomT) = strs As ++ [AV.d (.str (s ++ [32, 61, 32] ++ Lib.itoa a.value))] := by rw [hnx, strs_append, strs_one, hat]
      rw [hlen2, hfe]
      exact ⟨hlt, (Leads.ent [(0, 0), (1, 1), (5, 2)] ⟨by simp [entT, fget, AV.ren, renL, pget, hXe], by simp [entM, pinv, mget, mset, renL, AV.ren, pget, renL_append, -List.map_map, hXe], rfl, rfl⟩)⟩
    by_cases hth : a.thread = -1
    · refine bwp_seq fun K hK => bwp_region rfl ?_
      simp -implicitDefEqProofs only [go_sem, ↓reduceIte, Nat.reduceEqDiff, Nat.reduceAdd, Nat.reduceLeDiff, Nat.reduceMul, Nat.reduceSub, Int.reduceLE, Int.reduceLT, Int.reduceEq, Int.reduceToNat, Int.reducePow, Int.reduceNeg, Atom.cells, List.map_cons, List.map_nil, hth]
      refine hK _ ?_; clear hK
      refine bwp_cond false (by simp [ev, fget]) (fun h => nomatch h) (fun _ => ?_)
      refine bwp_skip ?_
      refine fin _ (locT a.loc) (by omega) (by simp [atomT, hth]) ?_
      exact Leads.ent [(0, 0), (1, 1), (2, 2), (3, 3)] ⟨by simp [entT, fget, AV.ren, renL, pget, hXe], by simp [entM, pinv, mget, mset, renL, AV.ren, pget, hth, Atom.cells], rfl, rfl⟩
    · refine bwp_seq fun K hK => bwp_region rfl ?_
      simp -implicitDefEqProofs only [go_sem, ↓reduceIte, Nat.reduceEqDiff, Nat.reduceAdd, Nat.reduceLeDiff, Nat.reduceMul, Nat.reduceSub, Int.reduceLE, Int.reduceLT, Int.reduceEq, Int.reduceToNat, Int.reducePow, Int.reduceNeg, Atom.cells, List.map_cons, List.map_nil, hth]
      refine hK _ ?_; clear hK
      refine bwp_cond true (by simp [ev, fget, hth]) (fun _ => ?_) (fun h => nomatch h)
      have b1 : (Lib.itoa a.thread).length + 3 ≤ 9223372036854775807 := by omega
      have b2 : (Lib.itoa a.thread).length + 3 + (regT a.reg).length ≤ 9223372036854775807 := by omega
      refine bwp_region_draw rfl rfl ?_
      simp -implicitDefEqProofs only [go_sem, ↓reduceIte, Nat.reduceEqDiff, Nat.reduceAdd, Nat.reduceLeDiff, Nat.reduceMul, Nat.reduceSub, Int.reduceLE, Int.reduceLT, Int.reduceEq, Int.reduceToNat, Int.reducePow, Int.reduceNeg]
      repeat' (first
        | (refine gateK_split (fun hb => ?_) (fun hb => ?_) <;> simp -implicitDefEqProofs only [go_sem, ↓reduceIte, Nat.reduceEqDiff, Nat.reduceAdd, Nat.reduceLeDiff, Nat.reduceMul, Nat.reduceSub, Int.reduceLE, Int.reduceLT, Int.reduceEq, Int.reduceToNat, Int.reducePow, Int.reduceNeg, hb, List.length_append, List.length_cons, List.length_nil, Nat.zero_add, b1, b2])
        | (refine dGateK_split (fun hb => ?_) (fun hb => ?_) <;> simp -implicitDefEqProofs only [go_sem, ↓reduceIte, Nat.reduceEqDiff, Nat.reduceAdd, Nat.reduceLeDiff, Nat.reduceMul, Nat.reduceSub, Int.reduceLE, Int.reduceLT, Int.reduceEq, Int.reduceToNat, Int.reducePow, Int.reduceNeg, hb, List.length_append, List.length_cons, List.length_nil, Nat.zero_add, b1, b2])
        | (refine callK_pure (text_pure a1) rfl rfl ?_; simp -implicitDefEqProofs only [go_sem, ↓reduceIte, Nat.reduceEqDiff, Nat.reduceAdd, Nat.reduceLeDiff, Nat.reduceMul, Nat.reduceSub, Int.reduceLE, Int.reduceLT, Int.reduceEq, Int.reduceToNat, Int.reducePow, Int.reduceNeg, List.length_append, List.length_cons, List.length_nil, Nat.zero_add, b1, b2])
        | (refine dCallK_pure (text_pure a1) rfl rfl ?_; simp -implicitDefEqProofs only [go_sem, ↓reduceIte, Nat.reduceEqDiff, Nat.reduceAdd, Nat.reduceLeDiff, Nat.reduceMul, Nat.reduceSub, Int.reduceLE, Int.reduceLT, Int.reduceEq, Int.reduceToNat, Int.reducePow, Int.reduceNeg, List.length_append, List.length_cons, List.length_nil, Nat.zero_add, b1, b2])
        | (refine callK_pure (reg_pure a2) rfl rfl ?_; simp -implicitDefEqProofs only [go_sem, ↓reduceIte, Nat.reduceEqDiff, Nat.reduceAdd, Nat.reduceLeDiff, Nat.reduceMul, Nat.reduceSub, Int.reduceLE, Int.reduceLT, Int.reduceEq, Int.reduceToNat, Int.reducePow, Int.reduceNeg, List.length_append, List.length_cons, List.length_nil, Nat.zero_add, b1, b2])
        | (refine dCallK_pure (reg_pure a2) rfl rfl ?_; simp -implicitDefEqProofs only [go_sem, ↓reduceIte, Nat.reduceEqDiff, Nat.reduceAdd, Nat.reduceLeDiff, Nat.reduceMul, Nat.reduceSub, Int.reduceLE, Int.reduceLT, Int.reduceEq, Int.reduceToNat, Int.reducePow, Int.reduceNeg, List.length_append, List.length_cons, List.length_nil, Nat.zero_add, b1, b2]))
      refine ⟨rfl, ?_⟩
      refine fin _ (Lib.itoa a.thread ++ [32, 58, 32] ++ regT a.reg) (by simp; omega) (by simp [atomT, hth]) ?_
      exact Leads.ent [(0, 0), (1, 1), (2, 2), (3, 3)] ⟨by simp [entT, fget, AV.ren, renL, pget, hXe], by simp [entM, pinv, mget, mset, renL, AV.ren, pget, Atom.cells], rfl, rfl⟩
  · have hlt' : ¬ (k : Int) < l.length := by omega
    have hin : k = l.length := by omega
    subst hin
    refine bwp_seq fun K hK => bwp_region rfl ?_
    simp -implicitDefEqProofs only [go_sem, ↓reduceIte, Nat.reduceEqDiff, Nat.reduceAdd, Nat.reduceLeDiff, Nat.reduceMul, Nat.reduceSub, Int.reduceLE, Int.reduceLT, Int.reduceEq, Int.reduceToNat, Int.reducePow, Int.reduceNeg, hlt']
    refine hK _ ?_; clear hK
    refine bwp_seq fun K1 hK1 => ?_
    refine bwp_cond false (by simp [ev, fget]) (fun h => nomatch h) (fun _ => ?_)
    refine bwp_leads (S' := cdS kind A X n l.length i l.length Rs (l.map atomT)) (Leads.ent [(0, 0), (1, 1), (2, 2)] ⟨by simp [entT, fget, AV.ren, renL, pget, cdS, ← hAs], by simp [entM, pinv, mget, mset, renL, AV.ren, pget, renL_append, -List.map_map, cdS, ← hAs], rfl, rfl⟩) ?_
    exact bwp_exit hQ


def cdR (kind : Int) (A : DV) (n i : Nat) (Rs : List (List UInt8)) : St :=
  ⟨[(22, .d (.int .i64 i)), (20, .d A), (21, .d (.int .i64 n)), (3, .sl 1 1 0 Rs.length), (1, .ptr 0 0)], [(0, [.d (.int .i64 kind), .d A]), (1, strs Rs)], 2⟩

set_option maxHeartbeats 2000000 in
theorem cond_rows {kind : Int} {A : DV} {rows : List (List Atom)} (hA : IsSl2 Atom.cells rows A) (hf : FewC rows) {Q : Exit → St → Prop}
    (hQ : Q (.exit 0) (cdR kind A rows.length rows.length (rows.map rowT))) : BWP Tryd.prog (mbound []) 70 (.loop ac14L1) (cdR kind A rows.length 0 []) Q := by
  refine bwp_count (fun i => cdR kind A rows.length i ((rows.take i).map rowT)) rows.length ?_
  intro i hi
  have h12 := hf.1
  have hlen : ((rows.take i).map rowT).length = i := by simp; omega
  unfold ac14L1 cdR
  rw [hlen]
  generalize hRs : (rows.take i).map rowT = Rs at hlen
  have hsl : (strs Rs).length = i := by rw [strs_length, hlen]
  by_cases hlt : i < rows.length
  · have hlt' : (i : Int) < rows.length := by omega
    obtain ⟨cs2, d, rest2, hTe, hd, hjc, hD⟩ := hA.at i hlt
    have hrow := hf.2 rows[i] (List.getElem_mem hlt)
    have hrl := rowT_len hrow
    generalize hael : rows[i] = l at hD hrow hrl
    have hnx : (rows.take (i + 1)).map rowT = Rs ++ [rowT l] := by
      rw [← hRs, List.take_succ_eq_append_getElem hlt, List.map_append, hael]; rfl
    have hlen2 : (rows.take (i + 1)).length = i + 1 := by simp; omega
    refine bwp_seq fun K hK => bwp_region rfl ?_
    simp -implicitDefEqProofs only [go_sem, ↓reduceIte, Nat.reduceEqDiff, Nat.reduceAdd, Nat.reduceLeDiff, Nat.reduceMul, Nat.reduceSub, Int.reduceLE, Int.reduceLT, Int.reduceEq, Int.reduceToNat, Int.reducePow, Int.reduceNeg, hlt']
    refine hK _ ?_; clear hK
    refine bwp_seq fun K1 hK1 => ?_
    refine bwp_cond true (by simp [ev, fget]) (fun _ => ?_) (fun h => nomatch h)
    refine bwp_skip ?_
    refine hK1 _ ?_; clear hK1
    refine bwp_seq fun K1 hK1 => ?_
    refine bwp_block ?_
    refine bwp_seq fun K hK => bwp_region rfl ?_
    simp -implicitDefEqProofs only [go_sem, ↓reduceIte, Nat.reduceEqDiff, Nat.reduceAdd, Nat.reduceLeDiff, Nat.reduceMul, Nat.reduceSub, Int.reduceLE, Int.reduceLT, Int.reduceEq, Int.reduceToNat, Int.reducePow, Int.reduceNeg, hTe, hlt', Int.natCast_nonneg, Int.toNat_natCast, hd, hjc]
    refine hK _ ?_; clear hK
    refine bwp_seq fun K hK => bwp_region rfl ?_
    simp -implicitDefEqProofs only [go_sem, ↓reduceIte, Nat.reduceEqDiff, Nat.reduceAdd, Nat.reduceLeDiff, Nat.reduceMul, Nat.reduceSub, Int.reduceLE, Int.reduceLT, Int.reduceEq, Int.reduceToNat, Int.reducePow, Int.reduceNeg]
    refine hK _ ?_; clear hK
    refine bwp_seq fun K2 hK2 => ?_
    refine bwp_seq fun K hK => bwp_region rfl ?_
    simp -implicitDefEqProofs only [go_sem, ↓reduceIte, Nat.reduceEqDiff, Nat.reduceAdd, Nat.reduceLeDiff, Nat.reduceMul, Nat.reduceSub, Int.reduceLE, Int.reduceLT, Int.reduceEq, Int.reduceToNat, Int.reducePow, Int.reduceNeg, hD.len]
    refine hK _ ?_; clear hK
    refine bwp_block ?_
    refine bwp_leads (Leads.nil 6 1 rfl rfl) ?_
    refine bwp_leads (S' := cdS kind A d rows.length l.length i 0 Rs []) (Leads.ent [(0, 0), (1, 1), (2, 2)] ⟨by simp [entT, fget, AV.ren, renL, pget, cdS, strs, mset, hTe, hlen], by simp [entM, pinv, mget, mset, renL, AV.ren, pget, renL_append, -List.map_map, cdS, strs, mset, hTe, hlen], rfl, rfl⟩) ?_
    refine cond_row hD hrow.1 hrow.2 ?_
    simp -implicitDefEqProofs only [go_sem, ↓reduceIte, Nat.reduceEqDiff, Nat.reduceAdd, Nat.reduceLeDiff, Nat.reduceMul, Nat.reduceSub, Int.reduceLE, Int.reduceLT, Int.reduceEq, Int.reduceToNat, Int.reducePow, Int.reduceNeg]
    refine hK2 _ ?_; clear hK2
    have hstr : IsStrs (l.map atomT) (.sl l.length ((l.map atomT).map DV.str)) := ⟨by simp; omega, .inr (by rw [flatMap_one]; simp)⟩
    have b3 : (i + 1) * 16 ≤ 140737488351232 := by omega
    unfold cdS
    refine bwp_region rfl ?_
    simp -implicitDefEqProofs only [go_sem, ↓reduceIte, Nat.reduceEqDiff, Nat.reduceAdd, Nat.reduceLeDiff, Nat.reduceMul, Nat.reduceSub, Int.reduceLE, Int.reduceLT, Int.reduceEq, Int.reduceToNat, Int.reducePow, Int.reduceNeg]
    refine callK_lend [(2, (l.map atomT).map DV.str)] _ (join_pure hstr [32, 38, 32] (by simp; omega) (by show (rowT l).length ≤ _; omega)) ?_ ?_ (fun v h => by subst h; rfl) ?_
    · simp [zokFrom, mget, mset, mdel, cvL, strs, cvL_d, -List.map_map]
    · have htk : (((l.map atomT).map DV.str).take l.length) = (l.map atomT).map DV.str := List.take_of_length_le (by simp)
      simp only [cvL, AV.cv, zget, if_true, Nat.mul_one, Nat.zero_add, List.drop_zero, List.length_map]
      rw [htk]
    rintro v rfl
    simp -implicitDefEqProofs only [go_sem, ↓reduceIte, Nat.reduceEqDiff, Nat.reduceAdd, Nat.reduceLeDiff, Nat.reduceMul, Nat.reduceSub, Int.reduceLE, Int.reduceLT, Int.reduceEq, Int.reduceToNat, Int.reducePow, Int.reduceNeg, hsl, hlen, Nat.mul_one, Nat.zero_add, b3]
    refine hK1 _ ?_; clear hK1
    have hw : IntKind.i64.wrap ((i : Int) + 1) = ((i + 1 : Nat) : Int) := by rw [wrap_i64 (by omega) (by omega)]; rfl
    refine bwp_region rfl ?_
    simp -implicitDefEqProofs only [go_sem, ↓reduceIte, Nat.reduceEqDiff, Nat.reduceAdd, Nat.reduceLeDiff, Nat.reduceMul, Nat.reduceSub, Int.reduceLE, Int.reduceLT, Int.reduceEq, Int.reduceToNat, Int.reducePow, Int.reduceNeg, hw]
    have hfe : strs ((rows.take (i + 1)).map rowT) = strs Rs ++ [AV.d (.str (Lib.join (l.map atomT) [32, 38, 32]))] := by rw [hnx, strs_append, strs_one]; rfl
    rw [hlen2, hfe]
    exact ⟨hlt, (Leads.ent [(0, 0), (4, 1)] ⟨by simp [entT, fget, AV.ren, renL, pget, hTe], by simp [entM, pinv, mget, mset, renL, AV.ren, pget, renL_append, -List.map_map, hTe], rfl, rfl⟩)⟩
  · have hlt' : ¬ (i : Int) < rows.length := by omega
    have hin : i = rows.length := by omega
    subst hin
    refine bwp_seq fun K hK => bwp_region rfl ?_
    simp -implicitDefEqProofs only [go_sem, ↓reduceIte, Nat.reduceEqDiff, Nat.reduceAdd, Nat.reduceLeDiff, Nat.reduceMul, Nat.reduceSub, Int.reduceLE, Int.reduceLT, Int.reduceEq, Int.reduceToNat, Int.reducePow, Int.reduceNeg, hlt']
    refine hK _ ?_; clear hK
    refine bwp_seq fun K1 hK1 => ?_
    refine bwp_cond false (by simp [ev, fget]) (fun h => nomatch h) (fun _ => ?_)
    refine bwp_leads (S' := cdR kind A rows.length rows.length (rows.map rowT)) (Leads.ent [(0, 0), (1, 1)] ⟨by simp [entT, fget, AV.ren, renL, pget, cdR, ← hRs], by simp [entM, pinv, mget, mset, renL, AV.ren, pget, renL_append, -List.map_map, cdR, ← hRs], rfl, rfl⟩) ?_
    exact bwp_exit hQ


set_option maxHeartbeats 2000000 in
theorem cond_pure {kind : Int} {A : DV} {rows : List (List Atom)} (hA : IsSl2 Atom.cells rows A) (hf : FewC rows) : Pure Tryd.prog 14 [.agg [.d (.int .i64 kind), .d A]] (.d (.str (condT kind rows))) := by
  have hok := okCond_pure hA kind
  have hln := hA.len
  have hrl := rowsT_len hf
  have h12 := hf.1
  refine acalls_of Tryd.func14 ac14_ok Tryd.ntmps14 Tryd.results14 rfl ?_
  unfold ac14
  refine bwp_seq fun K hK => bwp_region rfl ?_
  simp -implicitDefEqProofs only [go_sem, ↓reduceIte, Nat.reduceEqDiff, Nat.reduceAdd, Nat.reduceLeDiff, Nat.reduceMul, Nat.reduceSub, Int.reduceLE, Int.reduceLT, Int.reduceEq, Int.reduceToNat, Int.reducePow, Int.reduceNeg]
  refine hK _ ?_; clear hK
  refine bwp_seq fun K1 hK1 => ?_
  have early : ∀ S : St, condT kind rows = [] → (∀ h : Unit, fget S.t 18 = .d (.bool true)) → decide (mbound [] ≤ S.n) = true → BWP Tryd.prog (mbound []) 70 ((ACode.region false [⟨some 2, .mv (.c (.d (.str []))), none⟩] []).seq ACode.ret) S (Exit.thenA K1 (AEnd Tryd.prog #[.tmp 2] (mbound []) fun r m' => r = .d (.str (condT kind rows)) ∧ m' = [])) := by
    intro S h0 _ hn
    rw [h0]
    refine bwp_seq fun K hK => bwp_region hn ?_
    simp -implicitDefEqProofs only [go_sem, ↓reduceIte, Nat.reduceEqDiff, Nat.reduceAdd, Nat.reduceLeDiff, Nat.reduceMul, Nat.reduceSub, Int.reduceLE, Int.reduceLT, Int.reduceEq, Int.reduceToNat, Int.reducePow, Int.reduceNeg]
    refine hK _ ?_; clear hK
    refine bwp_ret ?_
    simp only [go_sem]
    refine aend_ret _ rfl rfl ⟨?_, rfl⟩
    simp [fget]
  by_cases h0 : kind = 0
  · refine bwp_seq fun K hK => bwp_region rfl ?_
    simp -implicitDefEqProofs only [go_sem, ↓reduceIte, Nat.reduceEqDiff, Nat.reduceAdd, Nat.reduceLeDiff, Nat.reduceMul, Nat.reduceSub, Int.reduceLE, Int.reduceLT, Int.reduceEq, Int.reduceToNat, Int.reducePow, Int.reduceNeg, h0]
    refine hK _ ?_; clear hK
    refine bwp_cond true (by simp [ev, fget]) (fun _ => ?_) (fun h => nomatch h)
    exact early _ (by simp [condT, h0]) (fun _ => by simp [fget]) rfl
  · refine bwp_seq fun K hK => bwp_region rfl ?_
    simp -implicitDefEqProofs only [go_sem, ↓reduceIte, Nat.reduceEqDiff, Nat.reduceAdd, Nat.reduceLeDiff, Nat.reduceMul, Nat.reduceSub, Int.reduceLE, Int.reduceLT, Int.reduceEq, Int.reduceToNat, Int.reducePow, Int.reduceNeg, h0]
    refine callK_pure hok rfl rfl ?_
    simp -implicitDefEqProofs only [go_sem, ↓reduceIte, Nat.reduceEqDiff, Nat.reduceAdd, Nat.reduceLeDiff, Nat.reduceMul, Nat.reduceSub, Int.reduceLE, Int.reduceLT, Int.reduceEq, Int.reduceToNat, Int.reducePow, Int.reduceNeg]
    cases hc : okCondB kind rows with
    | false =>
      refine hK _ ?_; clear hK
      refine bwp_cond true (by simp [ev, fget, hc]) (fun _ => ?_) (fun h => nomatch h)
      exact early _ (by simp [condT, hc]) (fun _ => by simp [fget]) rfl
    | true =>
      refine hK _ ?_; clear hK
      refine bwp_cond false (by simp [ev, fget, hc]) (fun h => nomatch h) (fun _ => ?_)
      refine bwp_skip ?_
      refine hK1 _ ?_; clear hK1
      have hct : condT kind rows = wordT kind ++ Lib.join (rows.map rowT) [32, 124, 32] ++ [32, 59] := by simp [condT, h0, hc]
      refine bwp_seq fun K hK => bwp_region rfl ?_
      simp -implicitDefEqProofs only [go_sem, ↓reduceIte, Nat.reduceEqDiff, Nat.reduceAdd, Nat.reduceLeDiff, Nat.reduceMul, Nat.reduceSub, Int.reduceLE, Int.reduceLT, Int.reduceEq, Int.reduceToNat, Int.reducePow, Int.reduceNeg]
      refine hK _ ?_; clear hK
      refine bwp_seq fun K2 hK2 => ?_
      refine bwp_seq fun K hK => bwp_region rfl ?_
      simp -implicitDefEqProofs only [go_sem, ↓reduceIte, Nat.reduceEqDiff, Nat.reduceAdd, Nat.reduceLeDiff, Nat.reduceMul, Nat.reduceSub, Int.reduceLE, Int.reduceLT, Int.reduceEq, Int.reduceToNat, Int.reducePow, Int.reduceNeg, hln]
      refine hK _ ?_; clear hK
      refine bwp_block ?_
      refine bwp_leads (Leads.nil 3 1 rfl rfl) ?_
      refine bwp_leads (S' := cdR kind A rows.length 0 []) (Leads.ent [(0, 0), (1, 1)] ⟨by simp [entT, fget, AV.ren, renL, pget, cdR, strs, mset], by simp [entM, pinv, mget, mset, renL, AV.ren, pget, renL_append, -List.map_map, cdR, strs, mset], rfl, rfl⟩) ?_
      refine cond_rows hA hf ?_
      simp -implicitDefEqProofs only [go_sem, ↓reduceIte, Nat.reduceEqDiff, Nat.reduceAdd, Nat.reduceLeDiff, Nat.reduceMul, Nat.reduceSub, Int.reduceLE, Int.reduceLT, Int.reduceEq, Int.reduceToNat, Int.reducePow, Int.reduceNeg]
      refine hK2 _ ?_; clear hK2
      unfold cdR
      have hstr : IsStrs (rows.map rowT) (.sl rows.length ((rows.map rowT).map DV.str)) := ⟨by simp; omega, .inr (by rw [flatMap_one]; simp)⟩
      refine bwp_seq fun K hK => bwp_region rfl ?_
      simp -implicitDefEqProofs only [go_sem, ↓reduceIte, Nat.reduceEqDiff, Nat.reduceAdd, Nat.reduceLeDiff, Nat.reduceMul, Nat.reduceSub, Int.reduceLE, Int.reduceLT, Int.reduceEq, Int.reduceToNat, Int.reducePow, Int.reduceNeg]
      refine hK _ ?_; clear hK
      refine bwp_seq fun K3 hK3 => ?_
      have b1 : 7 + (Lib.join (rows.map rowT) [32, 124, 32]).length ≤ 9223372036854775807 := by omega
      have b2 : 7 + (Lib.join (rows.map rowT) [32, 124, 32]).length + 2 ≤ 9223372036854775807 := by omega
      have wl : (wordT kind).length = 7 := by unfold wordT; split <;> rfl
      have fin : ∀ S : St, Leads (mbound []) 70 S ⟨[(10, .d (.str (wordT kind))), (3, .sl 1 1 0 rows.length)], [(1, strs (rows.map rowT))], 2⟩ → K3 S := by
        intro S hS
        refine hK3 _ ?_; clear hK3
        refine bwp_leads hS ?_
        refine bwp_seq fun K hK => bwp_region rfl ?_
        simp -implicitDefEqProofs only [go_sem, ↓reduceIte, Nat.reduceEqDiff, Nat.reduceAdd, Nat.reduceLeDiff, Nat.reduceMul, Nat.reduceSub, Int.reduceLE, Int.reduceLT, Int.reduceEq, Int.reduceToNat, Int.reducePow, Int.reduceNeg]
        refine callK_lend [(1, (rows.map rowT).map DV.str)] _ (join_pure hstr [32, 124, 32] (by simp; omega) (by omega)) ?_ ?_ (fun v h => by subst h; rfl) ?_
        · simp [zokFrom, mget, mset, mdel, cvL, strs, cvL_d, -List.map_map]
        · have htk : (((rows.map rowT).map DV.str).take rows.length) = (rows.map rowT).map DV.str := List.take_of_length_le (by simp)
          simp only [cvL, AV.cv, zget, if_true, Nat.mul_one, Nat.zero_add, List.drop_zero, List.length_map]
          rw [htk]
        rintro v rfl
        simp -implicitDefEqProofs only [go_sem, ↓reduceIte, Nat.reduceEqDiff, Nat.reduceAdd, Nat.reduceLeDiff, Nat.reduceMul, Nat.reduceSub, Int.reduceLE, Int.reduceLT, Int.reduceEq, Int.reduceToNat, Int.reducePow, Int.reduceNeg, List.length_append, List.length_cons, List.length_nil, wl, b1, b2]
        refine hK _ ?_; clear hK
        refine bwp_ret ?_
        simp only [go_sem]
        refine aend_ret _ rfl rfl ⟨?_, rfl⟩
        simp [fget, hct]
      by_cases h2 : kind = 2
      · refine bwp_seq fun K hK => bwp_region rfl ?_
        simp -implicitDefEqProofs only [go_sem, ↓reduceIte, Nat.reduceEqDiff, Nat.reduceAdd, Nat.reduceLeDiff, Nat.reduceMul, Nat.reduceSub, Int.reduceLE, Int.reduceLT, Int.reduceEq, Int.reduceToNat, Int.reducePow, Int.reduceNeg, h2]
        refine hK _ ?_; clear hK
        refine bwp_cond true (by simp [ev, fget, h2]) (fun _ => ?_) (fun h => nomatch h)
        refine bwp_region rfl ?_
        simp -implicitDefEqProofs only [go_sem, ↓reduceIte, Nat.reduceEqDiff, Nat.reduceAdd, Nat.reduceLeDiff, Nat.reduceMul, Nat.reduceSub, Int.reduceLE, Int.reduceLT, Int.reduceEq, Int.reduceToNat, Int.reducePow, Int.reduceNeg]
        exact fin _ (Leads.ent [(1, 1)] ⟨by simp [entT, fget, AV.ren, renL, pget, wordT, h2], by simp [entM, pinv, mget, mset, mdel, renL, AV.ren, pget, renL_append, -List.map_map, wordT, h2], rfl, rfl⟩)
      · refine bwp_seq fun K hK => bwp_region rfl ?_
        simp -implicitDefEqProofs only [go_sem, ↓reduceIte, Nat.reduceEqDiff, Nat.reduceAdd, Nat.reduceLeDiff, Nat.reduceMul, Nat.reduceSub, Int.reduceLE, Int.reduceLT, Int.reduceEq, Int.reduceToNat, Int.reducePow, Int.reduceNeg, h2]
        refine hK _ ?_; clear hK
        refine bwp_cond false (by simp [ev, fget, h2]) (fun h => nomatch h) (fun _ => ?_)
        refine bwp_skip ?_
        exact fin _ (Leads.ent [(1, 1)] ⟨by simp [entT, fget, AV.ren, renL, pget, wordT, h2], by simp [entM, pinv, mget, mset, mdel, renL, AV.ren, pget, renL_append, -List.map_map, wordT, h2], rfl, rfl⟩)

end Go.Proofs.YtgfkgngpganllaaDoor
