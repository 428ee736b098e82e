/- The document's text of a condition. -/
import Derived.Test.YtgfkgngpganllaaDoorV1
import Derived.Test.YtgfkgngpganllaaDoorQ2
namespace Go.Proofs.YtgfkgngpganllaaDoor
open Go Go.Jq
set_option maxRecDepth 100000
set_option linter.unusedSimpArgs false

def rowP (first : Bool) (l : List Atom) : List UInt8 := if l = [] then [] else (if first then [32] else [32, 124, 32]) ++ rowT l
def rowsP (rows : List (List Atom)) : List UInt8 := if rows = [] then [] else [32] ++ Lib.join (rows.map rowT) [32, 124, 32]

theorem join_snoc (s x : List UInt8) {l : List (List UInt8)} (h : l ≠ []) : Lib.join (l ++ [x]) s = Lib.join l s ++ s ++ x := by
  rw [join_app s l [x] h (by simp), Lib.join_one]

theorem rowP_snoc (first : Bool) (l : List Atom) (a : Atom) : rowP first (l ++ [a]) = rowP first l ++ (if l = [] then (if first then [32] else [32, 124, 32]) else [32, 38, 32]) ++ atomT a := by
  unfold rowP rowT
  rw [if_neg (by simp), List.map_append]
  by_cases h : l = []
  · subst h; simp [Lib.join_one]
  · rw [if_neg h, if_neg h, List.map_singleton, join_snoc _ _ (by simpa using h)]
    simp

theorem rowsP_snoc (rows : List (List Atom)) (l : List Atom) (hl : l ≠ []) : rowsP (rows ++ [l]) = rowsP rows ++ rowP (decide (rows = [])) l := by
  unfold rowsP rowP
  rw [if_neg (by simp), if_neg hl, List.map_append]
  by_cases h : rows = []
  · subst h; simp [Lib.join_one]
  · rw [if_neg h, List.map_singleton, join_snoc _ _ (by simpa using h)]
    simp [h]

theorem rowP_len {first : Bool} {l : List Atom} (h : l.length ≤ 12 ∧ ∀ a ∈ l, I64a a) : (rowP first l).length ≤ 843 := by
  have := rowT_len h
  unfold rowP
  split
  · simp
  · split <;> simp <;> omega

theorem rowsP_len {rows : List (List Atom)} (h : FewC rows) : (rowsP rows).length ≤ 10117 := by
  have := rowsT_len h
  unfold rowsP
  split
  · simp
  · simp; omega

/-- The state in Cond. -/
def rdS (kd : Int) (A : DV) (s : List UInt8) (ex : Fr) : St := ⟨ex ++ [(1, .ptr 0 0), (3, .d (.str s))], [(0, [.d (.int .i64 kd), .d A])], 1⟩

set_option maxHeartbeats 4000000 in
theorem rd_row {kd : Int} {A : DV} {rows : List (List Atom)} (hA : IsSl2 Atom.cells rows A) {i : Nat} (hi : i < rows.length) (h12 : rows[i].length ≤ 12) (ha : ∀ a ∈ rows[i], I64a a) (hok : ∀ a ∈ rows[i], okAtomB a = true) {s : List UInt8} (hs : s.length ≤ 100000) {Q : Exit → St → Prop}
    (hQ : Q (.exit 2) (rdS kd A (s ++ rowP (decide (i = 0)) rows[i]) [(4, .d (.int .i64 i))])) :
    BWP Tryd.prog (mbound []) 83 (.loop ac20L0) (rdS kd A s [(5, .d (.int .i64 (0 : Nat))), (4, .d (.int .i64 i))]) Q := by
  have hbig := hA.big
  obtain ⟨ts, d, rest0, hAe, hd1, hjc, hD⟩ := hA.at i hi
  have hi' : (i : Int) < rows.length := by omega
  generalize rows[i] = l at *
  have e0 : s = s ++ rowP (decide (i = 0)) (l.take 0) := by simp [rowP]
  rw [e0]
  refine bwp_count (fun k => rdS kd A (s ++ rowP (decide (i = 0)) (l.take k)) [(5, .d (.int .i64 k)), (4, .d (.int .i64 i))]) l.length ?_
  intro k hk
  have hbl : (rowP (decide (i = 0)) (l.take k)).length ≤ 843 := rowP_len ⟨by simp; omega, fun a h => ha a (List.mem_of_mem_take h)⟩
  have hemp : (l.take k = []) ↔ k = 0 ∨ l = [] := by rw [List.take_eq_nil_iff]
  generalize hX : s ++ rowP (decide (i = 0)) (l.take k) = X
  have hXl : X.length ≤ 101000 := by rw [← hX, List.length_append]; omega
  unfold ac20L0 rdS
  simp only [List.cons_append, List.nil_append]
  refine bwp_seq fun K1 hK1 => ?_
  by_cases hlt : k < l.length
  · have hlt' : (k : Int) < l.length := by omega
    obtain ⟨cs, rest, hDe, hdrop, hcs⟩ := hD.at atom_len (by omega) k hlt
    obtain ⟨a1, a2, a3⟩ := ha l[k] (List.getElem_mem hlt)
    have hoka := hok l[k] (List.getElem_mem hlt)
    have hln : l ≠ [] := fun h => by rw [h] at hlt; simp at hlt
    have hnx : s ++ rowP (decide (i = 0)) (l.take (k + 1)) = X ++ (if k = 0 then (if i = 0 then [32] else [32, 124, 32]) else [32, 38, 32]) ++ atomT l[k] := by
      rw [List.take_succ_eq_append_getElem hlt, rowP_snoc, ← hX]
      have : (l.take k = []) = (k = 0) := by rw [propext hemp]; simp [hln]
      simp only [this, decide_eq_true_eq, List.append_assoc]
    generalize l[k] = a at hdrop a1 a2 a3 hoka hnx
    have hw : IntKind.i64.wrap ((k : Int) + 1) = ((k + 1 : Nat) : Int) := by rw [wrap_i64 (by omega) (by omega)]; rfl
    have l1 := itoa_len a1
    have l2 := regT_len a2
    have l3 := itoa_len a3
    have l4 : (locT a.loc).length ≤ 4 := utf8_len _
    refine bwp_seq fun K hK => bwp_region rfl ?_
    simp -implicitDefEqProofs only [go_sem, ↓reduceIte, Nat.reduceEqDiff, Nat.reduceAdd, Nat.reduceLeDiff, Nat.reduceMul, Nat.reduceSub, Int.reduceLE, Int.reduceLT, Int.reduceEq, Int.reduceToNat, Int.reducePow, Int.reduceNeg, hAe, hi', Int.natCast_nonneg, Int.toNat_natCast, hd1, hjc, hD.len, hlt']
    refine hK _ ?_; clear hK
    refine bwp_cond true (by simp [ev, fget, hlt']) (fun _ => ?_) (fun h => nomatch h)
    refine bwp_skip ?_
    refine hK1 _ ?_; clear hK1
    refine bwp_seq fun K1 hK1 => ?_
    refine bwp_block ?_
    refine bwp_seq fun K hK => bwp_region rfl ?_
    simp -implicitDefEqProofs only [go_sem, ↓reduceIte, Nat.reduceEqDiff, Nat.reduceAdd, Nat.reduceLeDiff, Nat.reduceMul, Nat.reduceSub, Int.reduceLE, Int.reduceLT, Int.reduceEq, Int.reduceToNat, Int.reducePow, Int.reduceNeg, hAe, hi', hlt', Int.natCast_nonneg, Int.toNat_natCast, hd1, hjc, hDe, hcs, hdrop, Atom.cells]
    refine hK _ ?_; clear hK
    refine bwp_seq fun K2 hK2 => ?_
    have fin2 : ∀ (S : St) (Y : List UInt8), Y.length ≤ 102000 → (k = 0 → i = 0 → Y = X) → (k = 0 → i ≠ 0 → Y = X ++ [32, 124]) → (k ≠ 0 → Y = X ++ [32, 38]) →
        Leads (mbound []) 83 S ⟨[(6, .ptr 1 0), (3, .d (.str Y)), (5, .d (.int .i64 k)), (4, .d (.int .i64 i)), (1, .ptr 0 0)], [(0, [.d (.int .i64 kd), .d A]), (1, (Atom.cells a).map .d)], 2⟩ → K2 S := by
      intro S Y hYl y1 y2 y3 hS
      have hY : s ++ rowP (decide (i = 0)) (l.take (k + 1)) = Y ++ [32] ++ atomT a := by
        rw [hnx]
        by_cases hk0 : k = 0
        · by_cases hi0 : i = 0
          · rw [y1 hk0 hi0]; simp [hk0, hi0]
          · rw [y2 hk0 hi0]; simp [hk0, hi0]
        · rw [y3 hk0]; simp [hk0]
      refine hK2 _ ?_; clear hK2
      refine bwp_leads hS ?_
      have hw : IntKind.i64.wrap ((k : Int) + 1) = ((k + 1 : Nat) : Int) := by rw [wrap_i64 (by omega) (by omega)]; rfl
      have hoka' := hoka
      unfold okAtomB at hoka'
      by_cases ht : a.thread = -1
      · rw [if_pos ht] at hoka'
        simp only [Bool.and_eq_true] at hoka'
        have c1 := refLoc_pure hoka'.2
        have c2 := refText_pure a3
        have hge : ¬ (0 : Int) ≤ a.thread := by omega
        refine bwp_seq fun K hK => bwp_region rfl ?_
        simp -implicitDefEqProofs only [go_sem, ↓reduceIte, Nat.reduceEqDiff, Nat.reduceAdd, Nat.reduceLeDiff, Nat.reduceMul, Nat.reduceSub, Int.reduceLE, Int.reduceLT, Int.reduceEq, Int.reduceToNat, Int.reducePow, Int.reduceNeg, Atom.cells, List.map_cons, List.map_nil, hge]
        refine hK _ ?_; clear hK
        refine bwp_cond false (by simp [ev, fget, hge]) (fun h => nomatch h) (fun _ => ?_)
        refine bwp_region_draw rfl rfl ?_
        simp -implicitDefEqProofs only [go_sem, ↓reduceIte, Nat.reduceEqDiff, Nat.reduceAdd, Nat.reduceLeDiff, Nat.reduceMul, Nat.reduceSub, Int.reduceLE, Int.reduceLT, Int.reduceEq, Int.reduceToNat, Int.reducePow, Int.reduceNeg]
        repeat' (first
          | (refine gateK_split (fun hb => ?_) (fun hb => ?_) <;> simp -implicitDefEqProofs only [go_sem, ↓reduceIte, Nat.reduceEqDiff, Nat.reduceAdd, Nat.reduceLeDiff, Nat.reduceMul, Nat.reduceSub, Int.reduceLE, Int.reduceLT, Int.reduceEq, Int.reduceToNat, Int.reducePow, Int.reduceNeg, hb])
          | (refine dGateK_split (fun hb => ?_) (fun hb => ?_) <;> simp -implicitDefEqProofs only [go_sem, ↓reduceIte, Nat.reduceEqDiff, Nat.reduceAdd, Nat.reduceLeDiff, Nat.reduceMul, Nat.reduceSub, Int.reduceLE, Int.reduceLT, Int.reduceEq, Int.reduceToNat, Int.reducePow, Int.reduceNeg, hb])
          | (refine callK_pure (c1) rfl rfl ?_; simp -implicitDefEqProofs only [go_sem, ↓reduceIte, Nat.reduceEqDiff, Nat.reduceAdd, Nat.reduceLeDiff, Nat.reduceMul, Nat.reduceSub, Int.reduceLE, Int.reduceLT, Int.reduceEq, Int.reduceToNat, Int.reducePow, Int.reduceNeg])
          | (refine dCallK_pure (c1) rfl rfl ?_; simp -implicitDefEqProofs only [go_sem, ↓reduceIte, Nat.reduceEqDiff, Nat.reduceAdd, Nat.reduceLeDiff, Nat.reduceMul, Nat.reduceSub, Int.reduceLE, Int.reduceLT, Int.reduceEq, Int.reduceToNat, Int.reducePow, Int.reduceNeg])
          | (refine callK_pure (c2) rfl rfl ?_; simp -implicitDefEqProofs only [go_sem, ↓reduceIte, Nat.reduceEqDiff, Nat.reduceAdd, Nat.reduceLeDiff, Nat.reduceMul, Nat.reduceSub, Int.reduceLE, Int.reduceLT, Int.reduceEq, Int.reduceToNat, Int.reducePow, Int.reduceNeg])
          | (refine dCallK_pure (c2) rfl rfl ?_; simp -implicitDefEqProofs only [go_sem, ↓reduceIte, Nat.reduceEqDiff, Nat.reduceAdd, Nat.reduceLeDiff, Nat.reduceMul, Nat.reduceSub, Int.reduceLE, Int.reduceLT, Int.reduceEq, Int.reduceToNat, Int.reducePow, Int.reduceNeg])
          | (rw [if_pos (by (try simp only [List.length_append, List.length_cons, List.length_nil]); omega)]; simp -implicitDefEqProofs only [go_sem, ↓reduceIte, Nat.reduceEqDiff, Nat.reduceAdd, Nat.reduceLeDiff, Nat.reduceMul, Nat.reduceSub, Int.reduceLE, Int.reduceLT, Int.reduceEq, Int.reduceToNat, Int.reducePow, Int.reduceNeg]))
        refine ⟨rfl, hK1 _ ?_⟩; clear hK1
        refine bwp_region rfl ?_
        simp -implicitDefEqProofs only [go_sem, ↓reduceIte, Nat.reduceEqDiff, Nat.reduceAdd, Nat.reduceLeDiff, Nat.reduceMul, Nat.reduceSub, Int.reduceLE, Int.reduceLT, Int.reduceEq, Int.reduceToNat, Int.reducePow, Int.reduceNeg, hw]
        rw [hY]
        exact ⟨hlt, (Leads.ent [(0, 0)] ⟨by simp [entT, fget, AV.ren, renL, pget, atomT, ht, List.append_assoc], by simp [entM, pinv, mget, mset, renL, AV.ren, pget, renL_append, -List.map_map, atomT, ht, List.append_assoc], rfl, rfl⟩)⟩
      · rw [if_neg ht] at hoka'
        simp only [Bool.and_eq_true, decide_eq_true_eq] at hoka'
        have c1 := refText_pure a1
        have c2 := refText_pure a3
        have c3 := refReg_pure a2
        have hge : (0 : Int) ≤ a.thread := by omega
        refine bwp_seq fun K hK => bwp_region rfl ?_
        simp -implicitDefEqProofs only [go_sem, ↓reduceIte, Nat.reduceEqDiff, Nat.reduceAdd, Nat.reduceLeDiff, Nat.reduceMul, Nat.reduceSub, Int.reduceLE, Int.reduceLT, Int.reduceEq, Int.reduceToNat, Int.reducePow, Int.reduceNeg, Atom.cells, List.map_cons, List.map_nil, hge]
        refine hK _ ?_; clear hK
        refine bwp_cond true (by simp [ev, fget, hge]) (fun _ => ?_) (fun h => nomatch h)
        refine bwp_region_draw rfl rfl ?_
        simp -implicitDefEqProofs only [go_sem, ↓reduceIte, Nat.reduceEqDiff, Nat.reduceAdd, Nat.reduceLeDiff, Nat.reduceMul, Nat.reduceSub, Int.reduceLE, Int.reduceLT, Int.reduceEq, Int.reduceToNat, Int.reducePow, Int.reduceNeg]
        repeat' (first
          | (refine gateK_split (fun hb => ?_) (fun hb => ?_) <;> simp -implicitDefEqProofs only [go_sem, ↓reduceIte, Nat.reduceEqDiff, Nat.reduceAdd, Nat.reduceLeDiff, Nat.reduceMul, Nat.reduceSub, Int.reduceLE, Int.reduceLT, Int.reduceEq, Int.reduceToNat, Int.reducePow, Int.reduceNeg, hb])
          | (refine dGateK_split (fun hb => ?_) (fun hb => ?_) <;> simp -implicitDefEqProofs only [go_sem, ↓reduceIte, Nat.reduceEqDiff, Nat.reduceAdd, Nat.reduceLeDiff, Nat.reduceMul, Nat.reduceSub, Int.reduceLE, Int.reduceLT, Int.reduceEq, Int.reduceToNat, Int.reducePow, Int.reduceNeg, hb])
          | (refine callK_pure (c1) rfl rfl ?_; simp -implicitDefEqProofs only [go_sem, ↓reduceIte, Nat.reduceEqDiff, Nat.reduceAdd, Nat.reduceLeDiff, Nat.reduceMul, Nat.reduceSub, Int.reduceLE, Int.reduceLT, Int.reduceEq, Int.reduceToNat, Int.reducePow, Int.reduceNeg])
          | (refine dCallK_pure (c1) rfl rfl ?_; simp -implicitDefEqProofs only [go_sem, ↓reduceIte, Nat.reduceEqDiff, Nat.reduceAdd, Nat.reduceLeDiff, Nat.reduceMul, Nat.reduceSub, Int.reduceLE, Int.reduceLT, Int.reduceEq, Int.reduceToNat, Int.reducePow, Int.reduceNeg])
          | (refine callK_pure (c2) rfl rfl ?_; simp -implicitDefEqProofs only [go_sem, ↓reduceIte, Nat.reduceEqDiff, Nat.reduceAdd, Nat.reduceLeDiff, Nat.reduceMul, Nat.reduceSub, Int.reduceLE, Int.reduceLT, Int.reduceEq, Int.reduceToNat, Int.reducePow, Int.reduceNeg])
          | (refine dCallK_pure (c2) rfl rfl ?_; simp -implicitDefEqProofs only [go_sem, ↓reduceIte, Nat.reduceEqDiff, Nat.reduceAdd, Nat.reduceLeDiff, Nat.reduceMul, Nat.reduceSub, Int.reduceLE, Int.reduceLT, Int.reduceEq, Int.reduceToNat, Int.reducePow, Int.reduceNeg])
          | (refine callK_pure (c3) rfl rfl ?_; simp -implicitDefEqProofs only [go_sem, ↓reduceIte, Nat.reduceEqDiff, Nat.reduceAdd, Nat.reduceLeDiff, Nat.reduceMul, Nat.reduceSub, Int.reduceLE, Int.reduceLT, Int.reduceEq, Int.reduceToNat, Int.reducePow, Int.reduceNeg])
          | (refine dCallK_pure (c3) rfl rfl ?_; simp -implicitDefEqProofs only [go_sem, ↓reduceIte, Nat.reduceEqDiff, Nat.reduceAdd, Nat.reduceLeDiff, Nat.reduceMul, Nat.reduceSub, Int.reduceLE, Int.reduceLT, Int.reduceEq, Int.reduceToNat, Int.reducePow, Int.reduceNeg])
          | (rw [if_pos (by (try simp only [List.length_append, List.length_cons, List.length_nil]); omega)]; simp -implicitDefEqProofs only [go_sem, ↓reduceIte, Nat.reduceEqDiff, Nat.reduceAdd, Nat.reduceLeDiff, Nat.reduceMul, Nat.reduceSub, Int.reduceLE, Int.reduceLT, Int.reduceEq, Int.reduceToNat, Int.reducePow, Int.reduceNeg]))
        refine ⟨rfl, hK1 _ ?_⟩; clear hK1
        refine bwp_region rfl ?_
        simp -implicitDefEqProofs only [go_sem, ↓reduceIte, Nat.reduceEqDiff, Nat.reduceAdd, Nat.reduceLeDiff, Nat.reduceMul, Nat.reduceSub, Int.reduceLE, Int.reduceLT, Int.reduceEq, Int.reduceToNat, Int.reducePow, Int.reduceNeg, hw]
        rw [hY]
        exact ⟨hlt, (Leads.ent [(0, 0)] ⟨by simp [entT, fget, AV.ren, renL, pget, atomT, ht, List.append_assoc], by simp [entM, pinv, mget, mset, renL, AV.ren, pget, renL_append, -List.map_map, atomT, ht, List.append_assoc], rfl, rfl⟩)⟩
    by_cases hk0 : k = 0
    · have g1 : ¬ (0 : Int) < (k : Int) := by omega
      refine bwp_seq fun K hK => bwp_region rfl ?_
      simp -implicitDefEqProofs only [go_sem, ↓reduceIte, Nat.reduceEqDiff, Nat.reduceAdd, Nat.reduceLeDiff, Nat.reduceMul, Nat.reduceSub, Int.reduceLE, Int.reduceLT, Int.reduceEq, Int.reduceToNat, Int.reducePow, Int.reduceNeg, g1]
      refine hK _ ?_; clear hK
      refine bwp_cond false (by simp [ev, fget, g1]) (fun h => nomatch h) (fun _ => ?_)
      by_cases hi0 : i = 0
      · have g2 : ¬ (0 : Int) < (i : Int) := by omega
        refine bwp_seq fun K hK => bwp_region rfl ?_
        simp -implicitDefEqProofs only [go_sem, ↓reduceIte, Nat.reduceEqDiff, Nat.reduceAdd, Nat.reduceLeDiff, Nat.reduceMul, Nat.reduceSub, Int.reduceLE, Int.reduceLT, Int.reduceEq, Int.reduceToNat, Int.reducePow, Int.reduceNeg, g2]
        refine hK _ ?_; clear hK
        refine bwp_cond false (by simp [ev, fget, g2]) (fun h => nomatch h) (fun _ => ?_)
        refine bwp_skip ?_
        refine fin2 _ X (by omega) (fun _ _ => rfl) (fun _ h => absurd hi0 h) (fun h => absurd hk0 h) ?_
        exact Leads.ent [(0, 0), (1, 1)] ⟨by simp [entT, fget, AV.ren, renL, pget], by simp [entM, pinv, mget, mset, renL, AV.ren, pget, Atom.cells, hAe], rfl, rfl⟩
      · have g2 : (0 : Int) < (i : Int) := by omega
        refine bwp_seq fun K hK => bwp_region rfl ?_
        simp -implicitDefEqProofs only [go_sem, ↓reduceIte, Nat.reduceEqDiff, Nat.reduceAdd, Nat.reduceLeDiff, Nat.reduceMul, Nat.reduceSub, Int.reduceLE, Int.reduceLT, Int.reduceEq, Int.reduceToNat, Int.reducePow, Int.reduceNeg, g2]
        refine hK _ ?_; clear hK
        refine bwp_cond true (by simp [ev, fget, g2]) (fun _ => ?_) (fun h => nomatch h)
        refine bwp_region rfl ?_
        simp -implicitDefEqProofs only [go_sem, ↓reduceIte, Nat.reduceEqDiff, Nat.reduceAdd, Nat.reduceLeDiff, Nat.reduceMul, Nat.reduceSub, Int.reduceLE, Int.reduceLT, Int.reduceEq, Int.reduceToNat, Int.reducePow, Int.reduceNeg]
        repeat' (first
          | (refine gateK_split (fun hb => ?_) (fun hb => ?_) <;> simp -implicitDefEqProofs only [go_sem, ↓reduceIte, Nat.reduceEqDiff, Nat.reduceAdd, Nat.reduceLeDiff, Nat.reduceMul, Nat.reduceSub, Int.reduceLE, Int.reduceLT, Int.reduceEq, Int.reduceToNat, Int.reducePow, Int.reduceNeg, hb])
          | (refine dGateK_split (fun hb => ?_) (fun hb => ?_) <;> simp -implicitDefEqProofs only [go_sem, ↓reduceIte, Nat.reduceEqDiff, Nat.reduceAdd, Nat.reduceLeDiff, Nat.reduceMul, Nat.reduceSub, Int.reduceLE, Int.reduceLT, Int.reduceEq, Int.reduceToNat, Int.reducePow, Int.reduceNeg, hb])
          | (rw [if_pos (by (try simp only [List.length_append, List.length_cons, List.length_nil]); omega)]; simp -implicitDefEqProofs only [go_sem, ↓reduceIte, Nat.reduceEqDiff, Nat.reduceAdd, Nat.reduceLeDiff, Nat.reduceMul, Nat.reduceSub, Int.reduceLE, Int.reduceLT, Int.reduceEq, Int.reduceToNat, Int.reducePow, Int.reduceNeg]))
        refine fin2 _ (X ++ [32, 124]) (by simp; omega) (fun _ h => absurd h hi0) (fun _ _ => rfl) (fun h => absurd hk0 h) ?_
        exact Leads.ent [(0, 0), (1, 1)] ⟨by simp [entT, fget, AV.ren, renL, pget], by simp [entM, pinv, mget, mset, renL, AV.ren, pget, Atom.cells, hAe], rfl, rfl⟩
    · have g1 : (0 : Int) < (k : Int) := by omega
      refine bwp_seq fun K hK => bwp_region rfl ?_
      simp -implicitDefEqProofs only [go_sem, ↓reduceIte, Nat.reduceEqDiff, Nat.reduceAdd, Nat.reduceLeDiff, Nat.reduceMul, Nat.reduceSub, Int.reduceLE, Int.reduceLT, Int.reduceEq, Int.reduceToNat, Int.reducePow, Int.reduceNeg, g1]
      refine hK _ ?_; clear hK
      refine bwp_cond true (by simp [ev, fget, g1]) (fun _ => ?_) (fun h => nomatch h)
      refine bwp_region rfl ?_
      simp -implicitDefEqProofs only [go_sem, ↓reduceIte, Nat.reduceEqDiff, Nat.reduceAdd, Nat.reduceLeDiff, Nat.reduceMul, Nat.reduceSub, Int.reduceLE, Int.reduceLT, Int.reduceEq, Int.reduceToNat, Int.reducePow, Int.reduceNeg]
      repeat' (first
        | (refine gateK_split (fun hb => ?_) (fun hb => ?_) <;> simp -implicitDefEqProofs only [go_sem, ↓reduceIte, Nat.reduceEqDiff, Nat.reduceAdd, Nat.reduceLeDiff, Nat.reduceMul, Nat.reduceSub, Int.reduceLE, Int.reduceLT, Int.reduceEq, Int.reduceToNat, Int.reducePow, Int.reduceNeg, hb])
        | (refine dGateK_split (fun hb => ?_) (fun hb => ?_) <;> simp -implicitDefEqProofs only [go_sem, ↓reduceIte, Nat.reduceEqDiff, Nat.reduceAdd, Nat.reduceLeDiff, Nat.reduceMul, Nat.reduceSub, Int.reduceLE, Int.reduceLT, Int.reduceEq, Int.reduceToNat, Int.reducePow, Int.reduceNeg, hb])
        | (rw [if_pos (by (try simp only [List.length_append, List.length_cons, List.length_nil]); omega)]; simp -implicitDefEqProofs only [go_sem, ↓reduceIte, Nat.reduceEqDiff, Nat.reduceAdd, Nat.reduceLeDiff, Nat.reduceMul, Nat.reduceSub, Int.reduceLE, Int.reduceLT, Int.reduceEq, Int.reduceToNat, Int.reducePow, Int.reduceNeg]))
      refine fin2 _ (X ++ [32, 38]) (by simp; omega) (fun h => absurd h hk0) (fun h => absurd h hk0) (fun _ => rfl) ?_
      exact Leads.ent [(0, 0), (1, 1)] ⟨by simp [entT, fget, AV.ren, renL, pget], by simp [entM, pinv, mget, mset, renL, AV.ren, pget, Atom.cells, hAe], rfl, rfl⟩
  · have hlt' : ¬ (k : Int) < l.length := by omega
    have hin : k = l.length := by omega
    subst hin
    refine bwp_seq fun K hK => bwp_region rfl ?_
    simp -implicitDefEqProofs only [go_sem, ↓reduceIte, Nat.reduceEqDiff, Nat.reduceAdd, Nat.reduceLeDiff, Nat.reduceMul, Nat.reduceSub, Int.reduceLE, Int.reduceLT, Int.reduceEq, Int.reduceToNat, Int.reducePow, Int.reduceNeg, hAe, hi', Int.natCast_nonneg, Int.toNat_natCast, hd1, hjc, hD.len, hlt']
    refine hK _ ?_; clear hK
    refine bwp_cond false (by simp [ev, fget, hlt']) (fun h => nomatch h) (fun _ => ?_)
    rw [List.take_length] at hX
    refine bwp_leads (S' := rdS kd A (s ++ rowP (decide (i = 0)) l) [(4, .d (.int .i64 i))]) (Leads.ent [(0, 0)] ⟨by simp [entT, fget, AV.ren, renL, pget, rdS, hX, hAe], by simp [entM, pinv, mget, mset, renL, AV.ren, pget, renL_append, -List.map_map, rdS, hX, hAe], rfl, rfl⟩) ?_
    exact bwp_exit hQ

set_option maxHeartbeats 4000000 in
theorem rd_rows {kd : Int} {A : DV} {rows : List (List Atom)} (hA : IsSl2 Atom.cells rows A) (hf : FewC rows) (hok : ∀ l ∈ rows, l ≠ [] ∧ ∀ a ∈ l, okAtomB a = true) {s : List UInt8} (hs : s.length ≤ 1000) {Q : Exit → St → Prop}
    (hQ : Q (.exit 0) (rdS kd A (s ++ rowsP rows) [])) :
    BWP Tryd.prog (mbound []) 83 (.loop ac20L1) (rdS kd A s [(4, .d (.int .i64 (0 : Nat)))]) Q := by
  have hbig := hA.big
  have e0 : s = s ++ rowsP (rows.take 0) := by simp [rowsP]
  rw [e0]
  refine bwp_count (fun i => rdS kd A (s ++ rowsP (rows.take i)) [(4, .d (.int .i64 i))]) rows.length ?_
  intro i hi
  have hbl : (rowsP (rows.take i)).length ≤ 10117 := rowsP_len ⟨by have := hf.1; simp; omega, fun l h => hf.2 l (List.mem_of_mem_take h)⟩
  generalize hX : s ++ rowsP (rows.take i) = X
  have hXl : X.length ≤ 100000 := by rw [← hX, List.length_append]; omega
  unfold ac20L1 rdS
  simp only [List.cons_append, List.nil_append]
  refine bwp_seq fun K1 hK1 => ?_
  by_cases hlt : i < rows.length
  · have hlt' : (i : Int) < rows.length := by omega
    have hm := List.getElem_mem hlt
    have hw : IntKind.i64.wrap ((i : Int) + 1) = ((i + 1 : Nat) : Int) := by rw [wrap_i64 (by omega) (by omega)]; rfl
    have hnx : s ++ rowsP (rows.take (i + 1)) = X ++ rowP (decide (i = 0)) rows[i] := by
      rw [List.take_succ_eq_append_getElem hlt, rowsP_snoc _ _ (hok _ hm).1, ← hX, List.append_assoc]
      have hr : rows ≠ [] := fun h => by rw [h] at hlt; simp at hlt
      have : (rows.take i = []) = (i = 0) := by apply propext; rw [List.take_eq_nil_iff]; simp [hr]
      simp only [this]
    refine bwp_seq fun K hK => bwp_region rfl ?_
    simp -implicitDefEqProofs only [go_sem, ↓reduceIte, Nat.reduceEqDiff, Nat.reduceAdd, Nat.reduceLeDiff, Nat.reduceMul, Nat.reduceSub, Int.reduceLE, Int.reduceLT, Int.reduceEq, Int.reduceToNat, Int.reducePow, Int.reduceNeg, hA.len, hlt']
    refine hK _ ?_; clear hK
    refine bwp_cond true (by simp [ev, fget, hlt']) (fun _ => ?_) (fun h => nomatch h)
    refine bwp_skip ?_
    refine hK1 _ ?_; clear hK1
    refine bwp_seq fun K1 hK1 => ?_
    refine bwp_block ?_
    refine bwp_seq fun K hK => bwp_region rfl ?_
    simp -implicitDefEqProofs only [go_sem, ↓reduceIte, Nat.reduceEqDiff, Nat.reduceAdd, Nat.reduceLeDiff, Nat.reduceMul, Nat.reduceSub, Int.reduceLE, Int.reduceLT, Int.reduceEq, Int.reduceToNat, Int.reducePow, Int.reduceNeg]
    refine hK _ ?_; clear hK
    refine bwp_block ?_
    refine bwp_leads (S' := rdS kd A X [(5, .d (.int .i64 (0 : Nat))), (4, .d (.int .i64 i))]) (Leads.ent [(0, 0)] ⟨by simp [entT, fget, AV.ren, renL, pget, rdS], by simp [entM, pinv, mget, mset, renL, AV.ren, pget, renL_append, -List.map_map, rdS], rfl, rfl⟩) ?_
    refine rd_row hA hlt (hf.2 _ hm).1 (hf.2 _ hm).2 (hok _ hm).2 hXl ?_
    unfold rdS
    simp only [List.cons_append, List.nil_append]
    simp -implicitDefEqProofs only [go_sem, ↓reduceIte, Nat.reduceEqDiff, Nat.reduceAdd, Nat.reduceLeDiff, Nat.reduceMul, Nat.reduceSub, Int.reduceLE, Int.reduceLT, Int.reduceEq, Int.reduceToNat, Int.reducePow, Int.reduceNeg]
    refine hK1 _ ?_; clear hK1
    refine bwp_region rfl ?_
    simp -implicitDefEqProofs only [go_sem, ↓reduceIte, Nat.reduceEqDiff, Nat.reduceAdd, Nat.reduceLeDiff, Nat.reduceMul, Nat.reduceSub, Int.reduceLE, Int.reduceLT, Int.reduceEq, Int.reduceToNat, Int.reducePow, Int.reduceNeg, hw]
    rw [hnx]
    exact ⟨hlt, (Leads.ent [(0, 0)] ⟨by simp [entT, fget, AV.ren, renL, pget], by simp [entM, pinv, mget, mset, renL, AV.ren, pget, renL_append, -List.map_map], rfl, rfl⟩)⟩
  · have hlt' : ¬ (i : Int) < rows.length := by omega
    have hin : i = rows.length := by omega
    subst hin
    refine bwp_seq fun K hK => bwp_region rfl ?_
    simp -implicitDefEqProofs only [go_sem, ↓reduceIte, Nat.reduceEqDiff, Nat.reduceAdd, Nat.reduceLeDiff, Nat.reduceMul, Nat.reduceSub, Int.reduceLE, Int.reduceLT, Int.reduceEq, Int.reduceToNat, Int.reducePow, Int.reduceNeg, hA.len, hlt']
    refine hK _ ?_; clear hK
    refine bwp_cond false (by simp [ev, fget, hlt']) (fun h => nomatch h) (fun _ => ?_)
    rw [List.take_length] at hX
    refine bwp_leads (S' := rdS kd A (s ++ rowsP rows) []) (Leads.ent [(0, 0)] ⟨by simp [entT, fget, AV.ren, renL, pget, rdS, hX], by simp [entM, pinv, mget, mset, renL, AV.ren, pget, renL_append, -List.map_map, rdS, hX], rfl, rfl⟩) ?_
    exact bwp_exit hQ

set_option maxHeartbeats 4000000 in
theorem refCondT_pure {kd : Int} {A : DV} {rows : List (List Atom)} (hA : IsSl2 Atom.cells rows A) (hf : FewC rows) : Pure Tryd.prog 20 [.agg [.d (.int .i64 kd), .d A]] (.d (.str (condT kd rows))) := by
  have hok := refCond_pure hA kd
  refine acalls_of Tryd.func20 ac20_ok Tryd.ntmps20 Tryd.results20 rfl ?_
  unfold ac20
  refine bwp_seq fun K hK => bwp_region rfl ?_
  simp -implicitDefEqProofs only [go_sem, ↓reduceIte, Nat.reduceEqDiff, Nat.reduceAdd, Nat.reduceLeDiff, Nat.reduceMul, Nat.reduceSub, Int.reduceLE, Int.reduceLT, Int.reduceEq, Int.reduceToNat, Int.reducePow, Int.reduceNeg]
  refine hK _ ?_; clear hK
  refine bwp_seq fun K1 hK1 => ?_
  refine bwp_seq fun K hK => bwp_region rfl ?_
  simp -implicitDefEqProofs only [go_sem, ↓reduceIte, Nat.reduceEqDiff, Nat.reduceAdd, Nat.reduceLeDiff, Nat.reduceMul, Nat.reduceSub, Int.reduceLE, Int.reduceLT, Int.reduceEq, Int.reduceToNat, Int.reducePow, Int.reduceNeg]
  refine callK_pure hok rfl rfl ?_
  cases hb : okCondB kd rows with
  | false =>
    simp -implicitDefEqProofs only [go_sem, ↓reduceIte, Nat.reduceEqDiff, Nat.reduceAdd, Nat.reduceLeDiff, Nat.reduceMul, Nat.reduceSub, Int.reduceLE, Int.reduceLT, Int.reduceEq, Int.reduceToNat, Int.reducePow, Int.reduceNeg]
    refine hK _ ?_; clear hK
    refine bwp_cond true (by simp [ev, fget]) (fun _ => ?_) (fun h => nomatch h)
    refine bwp_seq fun K hK => bwp_region rfl ?_
    simp -implicitDefEqProofs only [go_sem, ↓reduceIte, Nat.reduceEqDiff, Nat.reduceAdd, Nat.reduceLeDiff, Nat.reduceMul, Nat.reduceSub, Int.reduceLE, Int.reduceLT, Int.reduceEq, Int.reduceToNat, Int.reducePow, Int.reduceNeg]
    refine hK _ ?_; clear hK
    refine bwp_ret ?_
    simp only [go_sem]
    refine aend_ret _ rfl rfl ⟨?_, rfl⟩
    simp [fget, condT, hb]
  | true =>
    by_cases h0 : kd = 0
    · simp -implicitDefEqProofs only [go_sem, ↓reduceIte, Nat.reduceEqDiff, Nat.reduceAdd, Nat.reduceLeDiff, Nat.reduceMul, Nat.reduceSub, Int.reduceLE, Int.reduceLT, Int.reduceEq, Int.reduceToNat, Int.reducePow, Int.reduceNeg, h0]
      refine hK _ ?_; clear hK
      refine bwp_cond true (by simp [ev, fget]) (fun _ => ?_) (fun h => nomatch h)
      refine bwp_seq fun K hK => bwp_region rfl ?_
      simp -implicitDefEqProofs only [go_sem, ↓reduceIte, Nat.reduceEqDiff, Nat.reduceAdd, Nat.reduceLeDiff, Nat.reduceMul, Nat.reduceSub, Int.reduceLE, Int.reduceLT, Int.reduceEq, Int.reduceToNat, Int.reducePow, Int.reduceNeg]
      refine hK _ ?_; clear hK
      refine bwp_ret ?_
      simp only [go_sem]
      refine aend_ret _ rfl rfl ⟨?_, rfl⟩
      simp [fget, condT, h0]
    · obtain ⟨hk, hne, hall⟩ := rows_ok h0 hb
      simp -implicitDefEqProofs only [go_sem, ↓reduceIte, Nat.reduceEqDiff, Nat.reduceAdd, Nat.reduceLeDiff, Nat.reduceMul, Nat.reduceSub, Int.reduceLE, Int.reduceLT, Int.reduceEq, Int.reduceToNat, Int.reducePow, Int.reduceNeg, h0]
      refine hK _ ?_; clear hK
      refine bwp_cond false (by simp [ev, fget, h0]) (fun h => nomatch h) (fun _ => ?_)
      refine bwp_skip ?_
      refine hK1 _ ?_; clear hK1
      refine bwp_seq fun K hK => bwp_region rfl ?_
      simp -implicitDefEqProofs only [go_sem, ↓reduceIte, Nat.reduceEqDiff, Nat.reduceAdd, Nat.reduceLeDiff, Nat.reduceMul, Nat.reduceSub, Int.reduceLE, Int.reduceLT, Int.reduceEq, Int.reduceToNat, Int.reducePow, Int.reduceNeg]
      refine hK _ ?_; clear hK
      refine bwp_seq fun K2 hK2 => ?_
      have hct : condT kd rows = kindW kd ++ rowsP rows ++ [32, 59] := by
        unfold condT rowsP
        rw [if_neg (by simp [h0, hb]), wordT_eq, if_neg hne]
        simp
      have hrl := rowsP_len hf
      have hkl : (kindW kd).length ≤ 6 := by unfold kindW; split <;> simp
      have fin : ∀ S : St, Leads (mbound []) 83 S (rdS kd A (kindW kd) []) → K2 S := by
        intro S hS
        refine hK2 _ ?_; clear hK2
        refine bwp_leads hS ?_
        unfold rdS
        simp only [List.nil_append]
        refine bwp_seq fun K3 hK3 => ?_
        refine bwp_seq fun K hK => bwp_region rfl ?_
        simp -implicitDefEqProofs only [go_sem, ↓reduceIte, Nat.reduceEqDiff, Nat.reduceAdd, Nat.reduceLeDiff, Nat.reduceMul, Nat.reduceSub, Int.reduceLE, Int.reduceLT, Int.reduceEq, Int.reduceToNat, Int.reducePow, Int.reduceNeg]
        refine hK _ ?_; clear hK
        refine bwp_block ?_
        refine bwp_leads (S' := rdS kd A (kindW kd) [(4, .d (.int .i64 (0 : Nat)))]) (Leads.ent [(0, 0)] ⟨by simp [entT, fget, AV.ren, renL, pget, rdS], by simp [entM, pinv, mget, mset, renL, AV.ren, pget, renL_append, -List.map_map, rdS], rfl, rfl⟩) ?_
        refine rd_rows hA hf hall (by omega) ?_
        unfold rdS
        simp only [List.nil_append]
        simp -implicitDefEqProofs only [go_sem, ↓reduceIte, Nat.reduceEqDiff, Nat.reduceAdd, Nat.reduceLeDiff, Nat.reduceMul, Nat.reduceSub, Int.reduceLE, Int.reduceLT, Int.reduceEq, Int.reduceToNat, Int.reducePow, Int.reduceNeg]
        refine hK3 _ ?_; clear hK3
        refine bwp_seq fun K hK => bwp_region rfl ?_
        simp -implicitDefEqProofs only [go_sem, ↓reduceIte, Nat.reduceEqDiff, Nat.reduceAdd, Nat.reduceLeDiff, Nat.reduceMul, Nat.reduceSub, Int.reduceLE, Int.reduceLT, Int.reduceEq, Int.reduceToNat, Int.reducePow, Int.reduceNeg]
        repeat' (first
          | (refine gateK_split (fun hb => ?_) (fun hb => ?_) <;> simp -implicitDefEqProofs only [go_sem, ↓reduceIte, Nat.reduceEqDiff, Nat.reduceAdd, Nat.reduceLeDiff, Nat.reduceMul, Nat.reduceSub, Int.reduceLE, Int.reduceLT, Int.reduceEq, Int.reduceToNat, Int.reducePow, Int.reduceNeg, hb])
          | (refine dGateK_split (fun hb => ?_) (fun hb => ?_) <;> simp -implicitDefEqProofs only [go_sem, ↓reduceIte, Nat.reduceEqDiff, Nat.reduceAdd, Nat.reduceLeDiff, Nat.reduceMul, Nat.reduceSub, Int.reduceLE, Int.reduceLT, Int.reduceEq, Int.reduceToNat, Int.reducePow, Int.reduceNeg, hb])
          | (rw [if_pos (by (try simp only [List.length_append, List.length_cons, List.length_nil]); omega)]; simp -implicitDefEqProofs only [go_sem, ↓reduceIte, Nat.reduceEqDiff, Nat.reduceAdd, Nat.reduceLeDiff, Nat.reduceMul, Nat.reduceSub, Int.reduceLE, Int.reduceLT, Int.reduceEq, Int.reduceToNat, Int.reducePow, Int.reduceNeg]))
        refine hK _ ?_; clear hK
        refine bwp_ret ?_
        simp only [go_sem]
        refine aend_ret _ rfl rfl ⟨?_, rfl⟩
        simp [fget, hct]
      by_cases h2 : kd = 2
      · refine bwp_seq fun K hK => bwp_region rfl ?_
        simp -implicitDefEqProofs only [go_sem, ↓reduceIte, Nat.reduceEqDiff, Nat.reduceAdd, Nat.reduceLeDiff, Nat.reduceMul, Nat.reduceSub, Int.reduceLE, Int.reduceLT, Int.reduceEq, Int.reduceToNat, Int.reducePow, Int.reduceNeg, h2]
        refine hK _ ?_; clear hK
        refine bwp_cond true (by simp [ev, fget, h2]) (fun _ => ?_) (fun h => nomatch h)
        refine bwp_region rfl ?_
        simp -implicitDefEqProofs only [go_sem, ↓reduceIte, Nat.reduceEqDiff, Nat.reduceAdd, Nat.reduceLeDiff, Nat.reduceMul, Nat.reduceSub, Int.reduceLE, Int.reduceLT, Int.reduceEq, Int.reduceToNat, Int.reducePow, Int.reduceNeg]
        exact fin _ (Leads.ent [(0, 0)] ⟨by simp [entT, fget, AV.ren, renL, pget, rdS, kindW, h2], by simp [entM, pinv, mget, mset, mdel, renL, AV.ren, pget, renL_append, -List.map_map, rdS, kindW, h2], rfl, rfl⟩)
      · refine bwp_seq fun K hK => bwp_region rfl ?_
        simp -implicitDefEqProofs only [go_sem, ↓reduceIte, Nat.reduceEqDiff, Nat.reduceAdd, Nat.reduceLeDiff, Nat.reduceMul, Nat.reduceSub, Int.reduceLE, Int.reduceLT, Int.reduceEq, Int.reduceToNat, Int.reducePow, Int.reduceNeg, h2]
        refine hK _ ?_; clear hK
        refine bwp_cond false (by simp [ev, fget, h2]) (fun h => nomatch h) (fun _ => ?_)
        refine bwp_skip ?_
        exact fin _ (Leads.ent [(0, 0)] ⟨by simp [entT, fget, AV.ren, renL, pget, rdS, kindW, h2], by simp [entM, pinv, mget, mset, mdel, renL, AV.ren, pget, renL_append, -List.map_map, rdS, kindW, h2], rfl, rfl⟩)

end Go.Proofs.YtgfkgngpganllaaDoor
