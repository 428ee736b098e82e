/- The document's text of a test. -/
import Derived.Test.YtgfkgngpganllaaDoorV2
import Derived.Test.YtgfkgngpganllaaDoorR4
namespace Go.Proofs.YtgfkgngpganllaaDoor
open Go Go.Jq
set_option maxRecDepth 100000
set_option linter.unusedSimpArgs false

theorem initsL_len' {l : List Init} (h : l.length ≤ 41) (hv : ∀ x ∈ l, I64 x.value) : (l.flatMap initL).length ≤ 1230 := by
  have h1 := flat_len initL 30 l (fun x hx => initL_len (hv x hx))
  have h2 : l.length * 30 ≤ 41 * 30 := Nat.mul_le_mul_right _ h
  omega

/-- The state in Print. -/
def rpS (cs : List DV) (s : List UInt8) (ex : Fr) : St := ⟨ex ++ [(1, .ptr 0 0), (3, .d (.str s))], [(0, cs.map .d)], 1⟩

set_option maxHeartbeats 2000000 in
theorem rp_inits {nm : List UInt8} {I T A : DV} {kd : Int} {l : List Init} (hI : IsSl Init.cells l I) (hv : ∀ x ∈ l, I64 x.value) (hok : ∀ x ∈ l, isLocB x.loc = true) (h41 : l.length ≤ 41) {s : List UInt8} (hs : s.length ≤ 1000000) {Q : Exit → St → Prop}
    (hQ : Q (.exit 0) (rpS [.str nm, I, T, .int .i64 kd, A] (s ++ l.flatMap initL) [])) :
    BWP Tryd.prog (mbound []) 93 (.loop ac16L0) (rpS [.str nm, I, T, .int .i64 kd, A] s [(4, .d (.int .i64 (0 : Nat)))]) Q := by
  have e0 : s = s ++ (l.take 0).flatMap initL := by simp
  rw [e0]
  refine bwp_count (fun i => rpS [.str nm, I, T, .int .i64 kd, A] (s ++ (l.take i).flatMap initL) [(4, .d (.int .i64 i))]) l.length ?_
  intro i hi
  have hbl : ((l.take i).flatMap initL).length ≤ 1230 := initsL_len' (by simp; omega) (fun x hx => hv x (List.mem_of_mem_take hx))
  generalize hX : s ++ (l.take i).flatMap initL = X
  have hXl : X.length ≤ 1010000 := by rw [← hX]; simp only [List.length_append]; omega
  unfold ac16L0 rpS
  simp only [List.cons_append, List.nil_append, List.map_cons, List.map_nil]
  refine bwp_seq fun K1 hK1 => ?_
  by_cases hlt : i < l.length
  · have hlt' : (i : Int) < l.length := by omega
    obtain ⟨cs', rest, hIe, hdrop, hcs⟩ := hI.at init_len (by omega) i hlt
    have hva := hv l[i] (List.getElem_mem hlt)
    have hlo := hok l[i] (List.getElem_mem hlt)
    have hnx : s ++ (l.take (i + 1)).flatMap initL = X ++ initL l[i] := by rw [flat_take initL hlt, ← hX, List.append_assoc]
    generalize l[i] = x at hdrop hva hlo hnx
    have l1 := itoa_len hva
    have l4 : (locT x.loc).length ≤ 4 := utf8_len _
    have c1 := refLoc_pure hlo
    have c2 := refText_pure hva
    refine bwp_seq fun K hK => bwp_region rfl ?_
    simp -implicitDefEqProofs only [go_sem, ↓reduceIte, Nat.reduceEqDiff, Nat.reduceAdd, Nat.reduceLeDiff, Nat.reduceMul, Nat.reduceSub, Int.reduceLE, Int.reduceLT, Int.reduceEq, Int.reduceToNat, Int.reducePow, Int.reduceNeg, hI.len, hlt']
    refine hK _ ?_; clear hK
    refine bwp_cond true (by simp [ev, fget, hlt']) (fun _ => ?_) (fun h => nomatch h)
    refine bwp_skip ?_
    refine hK1 _ ?_; clear hK1
    refine bwp_seq fun K1 hK1 => ?_
    refine bwp_block ?_
    refine bwp_region_draw rfl rfl ?_
    simp -implicitDefEqProofs only [go_sem, ↓reduceIte, Nat.reduceEqDiff, Nat.reduceAdd, Nat.reduceLeDiff, Nat.reduceMul, Nat.reduceSub, Int.reduceLE, Int.reduceLT, Int.reduceEq, Int.reduceToNat, Int.reducePow, Int.reduceNeg, hIe, hlt', Int.natCast_nonneg, Int.toNat_natCast, hcs, hdrop, Init.cells]
    repeat' (first
      | (refine gateK_split (fun hb => ?_) (fun hb => ?_) <;> simp -implicitDefEqProofs only [go_sem, ↓reduceIte, Nat.reduceEqDiff, Nat.reduceAdd, Nat.reduceLeDiff, Nat.reduceMul, Nat.reduceSub, Int.reduceLE, Int.reduceLT, Int.reduceEq, Int.reduceToNat, Int.reducePow, Int.reduceNeg, hb, hIe, hlt', Int.natCast_nonneg, Int.toNat_natCast, hcs, hdrop, Init.cells])
      | (refine dGateK_split (fun hb => ?_) (fun hb => ?_) <;> simp -implicitDefEqProofs only [go_sem, ↓reduceIte, Nat.reduceEqDiff, Nat.reduceAdd, Nat.reduceLeDiff, Nat.reduceMul, Nat.reduceSub, Int.reduceLE, Int.reduceLT, Int.reduceEq, Int.reduceToNat, Int.reducePow, Int.reduceNeg, hb, hIe, hlt', Int.natCast_nonneg, Int.toNat_natCast, hcs, hdrop, Init.cells])
      | (refine callK_pure (c1) rfl rfl ?_; simp -implicitDefEqProofs only [go_sem, ↓reduceIte, Nat.reduceEqDiff, Nat.reduceAdd, Nat.reduceLeDiff, Nat.reduceMul, Nat.reduceSub, Int.reduceLE, Int.reduceLT, Int.reduceEq, Int.reduceToNat, Int.reducePow, Int.reduceNeg, hIe, hlt', Int.natCast_nonneg, Int.toNat_natCast, hcs, hdrop, Init.cells])
      | (refine dCallK_pure (c1) rfl rfl ?_; simp -implicitDefEqProofs only [go_sem, ↓reduceIte, Nat.reduceEqDiff, Nat.reduceAdd, Nat.reduceLeDiff, Nat.reduceMul, Nat.reduceSub, Int.reduceLE, Int.reduceLT, Int.reduceEq, Int.reduceToNat, Int.reducePow, Int.reduceNeg, hIe, hlt', Int.natCast_nonneg, Int.toNat_natCast, hcs, hdrop, Init.cells])
      | (refine callK_pure (c2) rfl rfl ?_; simp -implicitDefEqProofs only [go_sem, ↓reduceIte, Nat.reduceEqDiff, Nat.reduceAdd, Nat.reduceLeDiff, Nat.reduceMul, Nat.reduceSub, Int.reduceLE, Int.reduceLT, Int.reduceEq, Int.reduceToNat, Int.reducePow, Int.reduceNeg, hIe, hlt', Int.natCast_nonneg, Int.toNat_natCast, hcs, hdrop, Init.cells])
      | (refine dCallK_pure (c2) rfl rfl ?_; simp -implicitDefEqProofs only [go_sem, ↓reduceIte, Nat.reduceEqDiff, Nat.reduceAdd, Nat.reduceLeDiff, Nat.reduceMul, Nat.reduceSub, Int.reduceLE, Int.reduceLT, Int.reduceEq, Int.reduceToNat, Int.reducePow, Int.reduceNeg, hIe, hlt', Int.natCast_nonneg, Int.toNat_natCast, hcs, hdrop, Init.cells])
      | (rw [if_pos (by (try simp only [List.length_append, List.length_cons, List.length_nil]); omega)]; simp -implicitDefEqProofs only [go_sem, ↓reduceIte, Nat.reduceEqDiff, Nat.reduceAdd, Nat.reduceLeDiff, Nat.reduceMul, Nat.reduceSub, Int.reduceLE, Int.reduceLT, Int.reduceEq, Int.reduceToNat, Int.reducePow, Int.reduceNeg, hIe, hlt', Int.natCast_nonneg, Int.toNat_natCast, hcs, hdrop, Init.cells]))
    refine ⟨rfl, hK1 _ ?_⟩; clear hK1
    have hw : IntKind.i64.wrap ((i : Int) + 1) = ((i + 1 : Nat) : Int) := by rw [wrap_i64 (by omega) (by omega)]; rfl
    refine bwp_region rfl ?_
    simp -implicitDefEqProofs only [go_sem, ↓reduceIte, Nat.reduceEqDiff, Nat.reduceAdd, Nat.reduceLeDiff, Nat.reduceMul, Nat.reduceSub, Int.reduceLE, Int.reduceLT, Int.reduceEq, Int.reduceToNat, Int.reducePow, Int.reduceNeg, hw]
    rw [hnx]
    exact ⟨hlt, (Leads.ent [(0, 0)] ⟨by simp [entT, fget, AV.ren, renL, pget, initL, List.append_assoc, hIe], by simp [entM, pinv, mget, mset, renL, AV.ren, pget, renL_append, -List.map_map, initL, List.append_assoc, hIe], rfl, rfl⟩)⟩
  · have hlt' : ¬ (i : Int) < l.length := by omega
    have hin : i = l.length := by omega
    subst hin
    refine bwp_seq fun K hK => bwp_region rfl ?_
    simp -implicitDefEqProofs only [go_sem, ↓reduceIte, Nat.reduceEqDiff, Nat.reduceAdd, Nat.reduceLeDiff, Nat.reduceMul, Nat.reduceSub, Int.reduceLE, Int.reduceLT, Int.reduceEq, Int.reduceToNat, Int.reducePow, Int.reduceNeg, hI.len, hlt']
    refine hK _ ?_; clear hK
    refine bwp_cond false (by simp [ev, fget, hlt']) (fun h => nomatch h) (fun _ => ?_)
    rw [List.take_length] at hX
    refine bwp_leads (S' := rpS [.str nm, I, T, .int .i64 kd, A] (s ++ l.flatMap initL) []) (Leads.ent [(0, 0)] ⟨by simp [entT, fget, AV.ren, renL, pget, rpS, hX], by simp [entM, pinv, mget, mset, renL, AV.ren, pget, renL_append, -List.map_map, rpS, hX], rfl, rfl⟩) ?_
    exact bwp_exit hQ

set_option maxHeartbeats 2000000 in
theorem rp_thread {nm : List UInt8} {I T A : DV} {kd : Int} {ls : List (List Ins)} (hT : IsSl2 Ins.cells ls T) {i : Nat} (hi : i < ls.length) (hv : ∀ x ∈ ls[i], I64i x) (h30 : ls[i].length ≤ 30) {s : List UInt8} (hs : s.length ≤ 1010000) {Q : Exit → St → Prop}
    (hQ : Q (.exit 4) (rpS [.str nm, I, T, .int .i64 kd, A] (s ++ ls[i].flatMap insL) [(6, .d (.int .i64 ls[i].length)), (5, .d (.int .i64 i))])) :
    BWP Tryd.prog (mbound []) 93 (.loop ac16L1) (rpS [.str nm, I, T, .int .i64 kd, A] s [(6, .d (.int .i64 (0 : Nat))), (5, .d (.int .i64 i))]) Q := by
  have hTl := hT.big
  obtain ⟨cs1, d, rest1, hTe, hd1, hjc, hD⟩ := hT.at i hi
  have hi' : (i : Int) < ls.length := by omega
  generalize hl : ls[i] = l at *
  have e0 : s = s ++ (l.take 0).flatMap insL := by simp
  rw [e0]
  refine bwp_count (fun k => rpS [.str nm, I, T, .int .i64 kd, A] (s ++ (l.take k).flatMap insL) [(6, .d (.int .i64 k)), (5, .d (.int .i64 i))]) l.length ?_
  intro k hk
  have hbl : ((l.take k).flatMap insL).length ≤ 30 * 155 := by
    have := flat_len insL 155 (l.take k) (fun x hx => insL_len (hv x (List.mem_of_mem_take hx)))
    have h2 : (l.take k).length * 155 ≤ 30 * 155 := Nat.mul_le_mul_right _ (by simp; omega)
    omega
  generalize hX : s ++ (l.take k).flatMap insL = X
  have hXl : X.length ≤ 1020000 := by rw [← hX]; simp only [List.length_append]; omega
  unfold ac16L1 rpS
  simp only [List.cons_append, List.nil_append, List.map_cons, List.map_nil]
  refine bwp_seq fun K1 hK1 => ?_
  by_cases hlt : k < l.length
  · have hlt' : (k : Int) < l.length := by omega
    obtain ⟨cs', rest, hXe, hdrop, hcs⟩ := hD.at ins_len (by omega) k hlt
    have hva := hv l[k] (List.getElem_mem hlt)
    have hnx : s ++ (l.take (k + 1)).flatMap insL = X ++ insL l[k] := by rw [flat_take insL hlt, ← hX, List.append_assoc]
    generalize l[k] = x at hcs hdrop hva hnx
    have hil := insT_len hva
    have hip := refInsT_pure hva
    unfold Ins.cells at hip
    simp only [List.map_cons, List.map_nil] at hip
    refine bwp_seq fun K hK => bwp_region rfl ?_
    simp -implicitDefEqProofs only [go_sem, ↓reduceIte, Nat.reduceEqDiff, Nat.reduceAdd, Nat.reduceLeDiff, Nat.reduceMul, Nat.reduceSub, Int.reduceLE, Int.reduceLT, Int.reduceEq, Int.reduceToNat, Int.reducePow, Int.reduceNeg, hTe, hi', Int.natCast_nonneg, Int.toNat_natCast, hd1, hjc, hD.len, hlt']
    refine hK _ ?_; clear hK
    refine bwp_cond true (by simp [ev, fget, hlt']) (fun _ => ?_) (fun h => nomatch h)
    refine bwp_skip ?_
    refine hK1 _ ?_; clear hK1
    refine bwp_seq fun K1 hK1 => ?_
    refine bwp_block ?_
    refine bwp_region rfl ?_
    simp -implicitDefEqProofs only [go_sem, ↓reduceIte, Nat.reduceEqDiff, Nat.reduceAdd, Nat.reduceLeDiff, Nat.reduceMul, Nat.reduceSub, Int.reduceLE, Int.reduceLT, Int.reduceEq, Int.reduceToNat, Int.reducePow, Int.reduceNeg, hTe, hi', hlt', Int.natCast_nonneg, Int.toNat_natCast, hd1, hjc, hXe, hcs, hdrop, Ins.cells]
    refine callK_pure hip rfl rfl ?_
    simp -implicitDefEqProofs only [go_sem, ↓reduceIte, Nat.reduceEqDiff, Nat.reduceAdd, Nat.reduceLeDiff, Nat.reduceMul, Nat.reduceSub, Int.reduceLE, Int.reduceLT, Int.reduceEq, Int.reduceToNat, Int.reducePow, Int.reduceNeg]
    repeat' (first
      | (refine gateK_split (fun hb => ?_) (fun hb => ?_) <;> simp -implicitDefEqProofs only [go_sem, ↓reduceIte, Nat.reduceEqDiff, Nat.reduceAdd, Nat.reduceLeDiff, Nat.reduceMul, Nat.reduceSub, Int.reduceLE, Int.reduceLT, Int.reduceEq, Int.reduceToNat, Int.reducePow, Int.reduceNeg, hb])
      | (refine dGateK_split (fun hb => ?_) (fun hb => ?_) <;> simp -implicitDefEqProofs only [go_sem, ↓reduceIte, Nat.reduceEqDiff, Nat.reduceAdd, Nat.reduceLeDiff, Nat.reduceMul, Nat.reduceSub, Int.reduceLE, Int.reduceLT, Int.reduceEq, Int.reduceToNat, Int.reducePow, Int.reduceNeg, hb])
      | (rw [if_pos (by (try simp only [List.length_append, List.length_cons, List.length_nil]); omega)]; simp -implicitDefEqProofs only [go_sem, ↓reduceIte, Nat.reduceEqDiff, Nat.reduceAdd, Nat.reduceLeDiff, Nat.reduceMul, Nat.reduceSub, Int.reduceLE, Int.reduceLT, Int.reduceEq, Int.reduceToNat, Int.reducePow, Int.reduceNeg]))
    refine hK1 _ ?_; clear hK1
    have hw : IntKind.i64.wrap ((k : Int) + 1) = ((k + 1 : Nat) : Int) := by rw [wrap_i64 (by omega) (by omega)]; rfl
    refine bwp_region rfl ?_
    simp -implicitDefEqProofs only [go_sem, ↓reduceIte, Nat.reduceEqDiff, Nat.reduceAdd, Nat.reduceLeDiff, Nat.reduceMul, Nat.reduceSub, Int.reduceLE, Int.reduceLT, Int.reduceEq, Int.reduceToNat, Int.reducePow, Int.reduceNeg, hw]
    rw [hnx]
    exact ⟨hlt, (Leads.ent [(0, 0)] ⟨by simp [entT, fget, AV.ren, renL, pget, insL, List.append_assoc, hTe], by simp [entM, pinv, mget, mset, renL, AV.ren, pget, renL_append, -List.map_map, insL, List.append_assoc, hTe], rfl, rfl⟩)⟩
  · have hlt' : ¬ (k : Int) < l.length := by omega
    have hin : k = l.length := by omega
    subst hin
    refine bwp_seq fun K hK => bwp_region rfl ?_
    simp -implicitDefEqProofs only [go_sem, ↓reduceIte, Nat.reduceEqDiff, Nat.reduceAdd, Nat.reduceLeDiff, Nat.reduceMul, Nat.reduceSub, Int.reduceLE, Int.reduceLT, Int.reduceEq, Int.reduceToNat, Int.reducePow, Int.reduceNeg, hTe, hi', Int.natCast_nonneg, Int.toNat_natCast, hd1, hjc, hD.len, hlt']
    refine hK _ ?_; clear hK
    refine bwp_cond false (by simp [ev, fget, hlt']) (fun h => nomatch h) (fun _ => ?_)
    rw [List.take_length] at hX
    refine bwp_leads (S' := rpS [.str nm, I, T, .int .i64 kd, A] (s ++ l.flatMap insL) [(6, .d (.int .i64 l.length)), (5, .d (.int .i64 i))]) (Leads.ent [(0, 0)] ⟨by simp [entT, fget, AV.ren, renL, pget, rpS, hX, hTe], by simp [entM, pinv, mget, mset, renL, AV.ren, pget, renL_append, -List.map_map, rpS, hX, hTe], rfl, rfl⟩) ?_
    exact bwp_exit hQ

set_option maxHeartbeats 2000000 in
theorem rp_threads {nm : List UInt8} {I T A : DV} {kd : Int} {ls : List (List Ins)} (hT : IsSl2 Ins.cells ls T) (hv : ∀ l ∈ ls, l.length ≤ 30 ∧ ∀ x ∈ l, I64i x) (h7 : ls.length ≤ 7) {s : List UInt8} (hs : s.length ≤ 900000) {Q : Exit → St → Prop}
    (hQ : Q (.exit 2) (rpS [.str nm, I, T, .int .i64 kd, A] (s ++ ls.flatMap threadL) [(5, .d (.int .i64 ls.length))])) :
    BWP Tryd.prog (mbound []) 93 (.loop ac16L2) (rpS [.str nm, I, T, .int .i64 kd, A] s [(5, .d (.int .i64 (0 : Nat)))]) Q := by
  have e0 : s = s ++ (ls.take 0).flatMap threadL := by simp
  rw [e0]
  refine bwp_count (fun k => rpS [.str nm, I, T, .int .i64 kd, A] (s ++ (ls.take k).flatMap threadL) [(5, .d (.int .i64 k))]) ls.length ?_
  intro k hk
  have hbl : ((ls.take k).flatMap threadL).length ≤ 7 * 4661 := by
    have := flat_len threadL 4661 (ls.take k) (fun l hl => threadL_len (hv l (List.mem_of_mem_take hl)).1 (hv l (List.mem_of_mem_take hl)).2)
    have h2 : (ls.take k).length * 4661 ≤ 7 * 4661 := Nat.mul_le_mul_right _ (by simp; omega)
    omega
  generalize hX : s ++ (ls.take k).flatMap threadL = X
  have hXl : X.length ≤ 1000000 := by rw [← hX]; simp only [List.length_append]; omega
  unfold ac16L2 rpS
  simp only [List.cons_append, List.nil_append, List.map_cons, List.map_nil]
  refine bwp_seq fun K1 hK1 => ?_
  by_cases hlt : k < ls.length
  · have hlt' : (k : Int) < ls.length := by omega
    have hva := hv ls[k] (List.getElem_mem hlt)
    have hnx : s ++ (ls.take (k + 1)).flatMap threadL = X ++ threadL ls[k] := by rw [flat_take threadL hlt, ← hX, List.append_assoc]
    have b1 : X.length + 9 ≤ 9223372036854775807 := by omega
    refine bwp_seq fun K hK => bwp_region rfl ?_
    simp -implicitDefEqProofs only [go_sem, ↓reduceIte, Nat.reduceEqDiff, Nat.reduceAdd, Nat.reduceLeDiff, Nat.reduceMul, Nat.reduceSub, Int.reduceLE, Int.reduceLT, Int.reduceEq, Int.reduceToNat, Int.reducePow, Int.reduceNeg, hT.len, hlt']
    refine hK _ ?_; clear hK
    refine bwp_cond true (by simp [ev, fget, hlt']) (fun _ => ?_) (fun h => nomatch h)
    refine bwp_skip ?_
    refine hK1 _ ?_; clear hK1
    refine bwp_seq fun K1 hK1 => ?_
    refine bwp_block ?_
    refine bwp_seq fun K hK => bwp_region rfl ?_
    simp -implicitDefEqProofs only [go_sem, ↓reduceIte, Nat.reduceEqDiff, Nat.reduceAdd, Nat.reduceLeDiff, Nat.reduceMul, Nat.reduceSub, Int.reduceLE, Int.reduceLT, Int.reduceEq, Int.reduceToNat, Int.reducePow, Int.reduceNeg, List.length_cons, List.length_nil, Nat.zero_add, b1]
    refine hK _ ?_; clear hK
    refine bwp_seq fun K2 hK2 => ?_
    refine bwp_seq fun K hK => bwp_region rfl ?_
    simp -implicitDefEqProofs only [go_sem, ↓reduceIte, Nat.reduceEqDiff, Nat.reduceAdd, Nat.reduceLeDiff, Nat.reduceMul, Nat.reduceSub, Int.reduceLE, Int.reduceLT, Int.reduceEq, Int.reduceToNat, Int.reducePow, Int.reduceNeg]
    refine hK _ ?_; clear hK
    refine bwp_block ?_
    have hX2 : (X ++ [116, 104, 114, 101, 97, 100, 32, 123, 10]).length ≤ 1010000 := by simp only [List.length_append, List.length_cons, List.length_nil]; omega
    refine bwp_leads (S' := rpS [.str nm, I, T, .int .i64 kd, A] (X ++ [116, 104, 114, 101, 97, 100, 32, 123, 10]) [(6, .d (.int .i64 (0 : Nat))), (5, .d (.int .i64 k))]) (Leads.ent [(0, 0)] ⟨by simp [entT, fget, AV.ren, renL, pget, rpS], by simp [entM, pinv, mget, mset, renL, AV.ren, pget, renL_append, -List.map_map, rpS], rfl, rfl⟩) ?_
    refine rp_thread hT hlt hva.2 hva.1 hX2 ?_
    have h1 := flat_len insL 155 ls[k] (fun x hx => insL_len (hva.2 x hx))
    have h2 : ls[k].length * 155 ≤ 30 * 155 := Nat.mul_le_mul_right _ hva.1
    generalize hY : (X ++ [116, 104, 114, 101, 97, 100, 32, 123, 10]) ++ ls[k].flatMap insL = Y
    have hYl : Y.length ≤ 1020000 := by rw [← hY, List.length_append]; omega
    unfold rpS
    simp only [List.cons_append, List.nil_append, List.map_cons, List.map_nil]
    simp -implicitDefEqProofs only [go_sem, ↓reduceIte, Nat.reduceEqDiff, Nat.reduceAdd, Nat.reduceLeDiff, Nat.reduceMul, Nat.reduceSub, Int.reduceLE, Int.reduceLT, Int.reduceEq, Int.reduceToNat, Int.reducePow, Int.reduceNeg]
    refine hK2 _ ?_; clear hK2
    have b2 : Y.length + 2 ≤ 9223372036854775807 := by omega
    refine bwp_region rfl ?_
    simp -implicitDefEqProofs only [go_sem, ↓reduceIte, Nat.reduceEqDiff, Nat.reduceAdd, Nat.reduceLeDiff, Nat.reduceMul, Nat.reduceSub, Int.reduceLE, Int.reduceLT, Int.reduceEq, Int.reduceToNat, Int.reducePow, Int.reduceNeg, List.length_cons, List.length_nil, Nat.zero_add, b2]
    refine hK1 _ ?_; clear hK1
    have hw : IntKind.i64.wrap ((k : Int) + 1) = ((k + 1 : Nat) : Int) := by rw [wrap_i64 (by omega) (by omega)]; rfl
    refine bwp_region rfl ?_
    simp -implicitDefEqProofs only [go_sem, ↓reduceIte, Nat.reduceEqDiff, Nat.reduceAdd, Nat.reduceLeDiff, Nat.reduceMul, Nat.reduceSub, Int.reduceLE, Int.reduceLT, Int.reduceEq, Int.reduceToNat, Int.reducePow, Int.reduceNeg, hw]
    have hnx2 : s ++ (ls.take (k + 1)).flatMap threadL = Y ++ [125, 10] := by rw [hnx, ← hY]; simp [threadL]
    rw [hnx2]
    exact ⟨hlt, (Leads.ent [(0, 0)] ⟨by simp [entT, fget, AV.ren, renL, pget, List.append_assoc], by simp [entM, pinv, mget, mset, renL, AV.ren, pget, renL_append, -List.map_map, List.append_assoc], rfl, rfl⟩)⟩
  · have hlt' : ¬ (k : Int) < ls.length := by omega
    have hin : k = ls.length := by omega
    subst hin
    refine bwp_seq fun K hK => bwp_region rfl ?_
    simp -implicitDefEqProofs only [go_sem, ↓reduceIte, Nat.reduceEqDiff, Nat.reduceAdd, Nat.reduceLeDiff, Nat.reduceMul, Nat.reduceSub, Int.reduceLE, Int.reduceLT, Int.reduceEq, Int.reduceToNat, Int.reducePow, Int.reduceNeg, hT.len, hlt']
    refine hK _ ?_; clear hK
    refine bwp_cond false (by simp [ev, fget, hlt']) (fun h => nomatch h) (fun _ => ?_)
    rw [List.take_length] at hX
    refine bwp_leads (S' := rpS [.str nm, I, T, .int .i64 kd, A] (s ++ ls.flatMap threadL) [(5, .d (.int .i64 ls.length))]) (Leads.ent [(0, 0)] ⟨by simp [entT, fget, AV.ren, renL, pget, rpS, hX], by simp [entM, pinv, mget, mset, renL, AV.ren, pget, renL_append, -List.map_map, rpS, hX], rfl, rfl⟩) ?_
    exact bwp_exit hQ

set_option maxHeartbeats 4000000 in
theorem refPrint_pure {t : Test} {cs : List DV} (hT : IsTest t cs) (hf : FewT t) : Pure Tryd.prog 16 [.agg (cs.map .d)] (.d (.str (testT t))) := by
  have hn := hf.name
  have hok := refTest_pure hT (by omega)
  obtain ⟨I, T, A, rfl, hI, hTh, hA⟩ := hT
  simp only [List.map_cons, List.map_nil] at hok ⊢
  refine acalls_of Tryd.func16 ac16_ok Tryd.ntmps16 Tryd.results16 rfl ?_
  unfold ac16
  refine bwp_seq fun K hK => bwp_region rfl ?_
  simp -implicitDefEqProofs only [go_sem, ↓reduceIte, Nat.reduceEqDiff, Nat.reduceAdd, Nat.reduceLeDiff, Nat.reduceMul, Nat.reduceSub, Int.reduceLE, Int.reduceLT, Int.reduceEq, Int.reduceToNat, Int.reducePow, Int.reduceNeg]
  refine hK _ ?_; clear hK
  refine bwp_seq fun K1 hK1 => ?_
  refine bwp_seq fun K hK => bwp_region rfl ?_
  simp -implicitDefEqProofs only [go_sem, ↓reduceIte, Nat.reduceEqDiff, Nat.reduceAdd, Nat.reduceLeDiff, Nat.reduceMul, Nat.reduceSub, Int.reduceLE, Int.reduceLT, Int.reduceEq, Int.reduceToNat, Int.reducePow, Int.reduceNeg]
  refine callK_pure hok rfl rfl ?_
  cases hokb : okB t with
  | false =>
    simp -implicitDefEqProofs only [go_sem, ↓reduceIte, Nat.reduceEqDiff, Nat.reduceAdd, Nat.reduceLeDiff, Nat.reduceMul, Nat.reduceSub, Int.reduceLE, Int.reduceLT, Int.reduceEq, Int.reduceToNat, Int.reducePow, Int.reduceNeg]
    refine hK _ ?_; clear hK
    refine bwp_cond true (by simp [ev, fget]) (fun _ => ?_) (fun h => nomatch h)
    refine bwp_seq fun K hK => bwp_region rfl ?_
    simp -implicitDefEqProofs only [go_sem, ↓reduceIte, Nat.reduceEqDiff, Nat.reduceAdd, Nat.reduceLeDiff, Nat.reduceMul, Nat.reduceSub, Int.reduceLE, Int.reduceLT, Int.reduceEq, Int.reduceToNat, Int.reducePow, Int.reduceNeg]
    refine hK _ ?_; clear hK
    refine bwp_ret ?_
    simp only [go_sem]
    refine aend_ret _ rfl rfl ⟨?_, rfl⟩
    simp [fget, testT, hokb]
  | true =>
    have hob := hokb
    simp only [okB, Bool.and_eq_true] at hob
    have hin : ∀ x ∈ t.inits, isLocB x.loc = true := fun x hx => by
      have := hob.1.1.2
      simp only [badInitB, Bool.not_eq_true', List.any_eq_false, Bool.not_eq_false] at this
      exact this x hx
    simp -implicitDefEqProofs only [go_sem, ↓reduceIte, Nat.reduceEqDiff, Nat.reduceAdd, Nat.reduceLeDiff, Nat.reduceMul, Nat.reduceSub, Int.reduceLE, Int.reduceLT, Int.reduceEq, Int.reduceToNat, Int.reducePow, Int.reduceNeg]
    refine hK _ ?_; clear hK
    refine bwp_cond false (by simp [ev, fget]) (fun h => nomatch h) (fun _ => ?_)
    refine bwp_skip ?_
    refine hK1 _ ?_; clear hK1
    refine bwp_seq fun K hK => bwp_region rfl ?_
    simp -implicitDefEqProofs only [go_sem, ↓reduceIte, Nat.reduceEqDiff, Nat.reduceAdd, Nat.reduceLeDiff, Nat.reduceMul, Nat.reduceSub, Int.reduceLE, Int.reduceLT, Int.reduceEq, Int.reduceToNat, Int.reducePow, Int.reduceNeg]
    repeat' (first
      | (refine gateK_split (fun hb => ?_) (fun hb => ?_) <;> simp -implicitDefEqProofs only [go_sem, ↓reduceIte, Nat.reduceEqDiff, Nat.reduceAdd, Nat.reduceLeDiff, Nat.reduceMul, Nat.reduceSub, Int.reduceLE, Int.reduceLT, Int.reduceEq, Int.reduceToNat, Int.reducePow, Int.reduceNeg, hb])
      | (refine dGateK_split (fun hb => ?_) (fun hb => ?_) <;> simp -implicitDefEqProofs only [go_sem, ↓reduceIte, Nat.reduceEqDiff, Nat.reduceAdd, Nat.reduceLeDiff, Nat.reduceMul, Nat.reduceSub, Int.reduceLE, Int.reduceLT, Int.reduceEq, Int.reduceToNat, Int.reducePow, Int.reduceNeg, hb])
      | (rw [if_pos (by (try simp only [List.length_append, List.length_cons, List.length_nil]); omega)]; simp -implicitDefEqProofs only [go_sem, ↓reduceIte, Nat.reduceEqDiff, Nat.reduceAdd, Nat.reduceLeDiff, Nat.reduceMul, Nat.reduceSub, Int.reduceLE, Int.reduceLT, Int.reduceEq, Int.reduceToNat, Int.reducePow, Int.reduceNeg]))
    refine hK _ ?_; clear hK
    have hh : (headL t).length ≤ 1000 := by simp only [headL, List.length_append, List.length_cons, List.length_nil]; omega
    refine bwp_leads (S' := rpS [.str t.name, I, T, .int .i64 t.kind, A] (headL t) []) (Leads.ent [(0, 0)] ⟨by simp [entT, fget, AV.ren, renL, pget, rpS, headL], by simp [entM, pinv, mget, mset, renL, AV.ren, pget, renL_append, -List.map_map, rpS, headL], rfl, rfl⟩) ?_
    have hil := initsL_len' hf.inits hf.values
    refine bwp_seq fun K2 hK2 => ?_
    have fin2 : ∀ S : St, Leads (mbound []) 93 S (rpS [.str t.name, I, T, .int .i64 t.kind, A] (headL t ++ initsL t.inits) []) → K2 S := by
      intro S hS
      refine hK2 _ ?_; clear hK2
      refine bwp_leads hS ?_
      generalize hX : headL t ++ initsL t.inits = X
      have hXl : X.length ≤ 900000 := by
        rw [← hX, List.length_append]
        unfold initsL
        split
        · simp; omega
        · simp only [List.length_append, List.length_cons, List.length_nil]; omega
      unfold rpS
      simp only [List.nil_append, List.map_cons, List.map_nil]
      refine bwp_seq fun K3 hK3 => ?_
      refine bwp_seq fun K hK => bwp_region rfl ?_
      simp -implicitDefEqProofs only [go_sem, ↓reduceIte, Nat.reduceEqDiff, Nat.reduceAdd, Nat.reduceLeDiff, Nat.reduceMul, Nat.reduceSub, Int.reduceLE, Int.reduceLT, Int.reduceEq, Int.reduceToNat, Int.reducePow, Int.reduceNeg]
      refine hK _ ?_; clear hK
      refine bwp_block ?_
      refine bwp_leads (S' := rpS [.str t.name, I, T, .int .i64 t.kind, A] X [(5, .d (.int .i64 (0 : Nat)))]) (Leads.ent [(0, 0)] ⟨by simp [entT, fget, AV.ren, renL, pget, rpS], by simp [entM, pinv, mget, mset, renL, AV.ren, pget, renL_append, -List.map_map, rpS], rfl, rfl⟩) ?_
      refine rp_threads hTh hf.ins hf.threads hXl ?_
      have h1 := flat_len threadL 4661 t.threads (fun l hl => threadL_len (hf.ins l hl).1 (hf.ins l hl).2)
      have h2 : t.threads.length * 4661 ≤ 7 * 4661 := Nat.mul_le_mul_right _ hf.threads
      generalize hY : X ++ t.threads.flatMap threadL = Y
      have hYl : Y.length ≤ 1000000 := by rw [← hY, List.length_append]; omega
      unfold rpS
      simp only [List.cons_append, List.nil_append, List.map_cons, List.map_nil]
      simp -implicitDefEqProofs only [go_sem, ↓reduceIte, Nat.reduceEqDiff, Nat.reduceAdd, Nat.reduceLeDiff, Nat.reduceMul, Nat.reduceSub, Int.reduceLE, Int.reduceLT, Int.reduceEq, Int.reduceToNat, Int.reducePow, Int.reduceNeg]
      refine hK3 _ ?_; clear hK3
      have hcl := condT_len (kind := t.kind) hf.rows
      refine bwp_seq fun K4 hK4 => ?_
      have fin4 : ∀ (S : St) (Z : List UInt8), Z.length ≤ 1020000 → Z = Y ++ condL t → Leads (mbound []) 93 S (rpS [.str t.name, I, T, .int .i64 t.kind, A] Z []) → K4 S := by
        intro S Z hZl hZ hS
        refine hK4 _ ?_; clear hK4
        refine bwp_leads hS ?_
        unfold rpS
        simp only [List.nil_append]
        refine bwp_seq fun K hK => bwp_region rfl ?_
        simp -implicitDefEqProofs only [go_sem, ↓reduceIte, Nat.reduceEqDiff, Nat.reduceAdd, Nat.reduceLeDiff, Nat.reduceMul, Nat.reduceSub, Int.reduceLE, Int.reduceLT, Int.reduceEq, Int.reduceToNat, Int.reducePow, Int.reduceNeg]
        repeat' (first
          | (refine gateK_split (fun hb => ?_) (fun hb => ?_) <;> simp -implicitDefEqProofs only [go_sem, ↓reduceIte, Nat.reduceEqDiff, Nat.reduceAdd, Nat.reduceLeDiff, Nat.reduceMul, Nat.reduceSub, Int.reduceLE, Int.reduceLT, Int.reduceEq, Int.reduceToNat, Int.reducePow, Int.reduceNeg, hb])
          | (refine dGateK_split (fun hb => ?_) (fun hb => ?_) <;> simp -implicitDefEqProofs only [go_sem, ↓reduceIte, Nat.reduceEqDiff, Nat.reduceAdd, Nat.reduceLeDiff, Nat.reduceMul, Nat.reduceSub, Int.reduceLE, Int.reduceLT, Int.reduceEq, Int.reduceToNat, Int.reducePow, Int.reduceNeg, hb])
          | (rw [if_pos (by (try simp only [List.length_append, List.length_cons, List.length_nil]); omega)]; simp -implicitDefEqProofs only [go_sem, ↓reduceIte, Nat.reduceEqDiff, Nat.reduceAdd, Nat.reduceLeDiff, Nat.reduceMul, Nat.reduceSub, Int.reduceLE, Int.reduceLT, Int.reduceEq, Int.reduceToNat, Int.reducePow, Int.reduceNeg]))
        refine hK _ ?_; clear hK
        refine bwp_ret ?_
        simp only [go_sem]
        refine aend_ret _ rfl rfl ⟨?_, rfl⟩
        simp [fget, testT, hokb, hZ, ← hY, ← hX]
      by_cases hk : t.kind = 0
      · have hce : condL t = [] := by
          have : condT t.kind t.rows = [] := by unfold condT; rw [if_pos (.inl hk)]
          unfold condL
          rw [if_pos this]
        refine bwp_seq fun K hK => bwp_region rfl ?_
        simp -implicitDefEqProofs only [go_sem, ↓reduceIte, Nat.reduceEqDiff, Nat.reduceAdd, Nat.reduceLeDiff, Nat.reduceMul, Nat.reduceSub, Int.reduceLE, Int.reduceLT, Int.reduceEq, Int.reduceToNat, Int.reducePow, Int.reduceNeg, hk]
        refine hK _ ?_; clear hK
        refine bwp_cond false (by simp [ev, fget, hk]) (fun h => nomatch h) (fun _ => ?_)
        refine bwp_skip ?_
        refine fin4 _ Y (by omega) (by rw [hce]; simp) ?_
        exact Leads.ent [(0, 0)] ⟨by simp [entT, fget, AV.ren, renL, pget, rpS], by simp [entM, pinv, mget, mset, renL, AV.ren, pget, rpS, hk], rfl, rfl⟩
      · have hce : condL t = condT t.kind t.rows ++ [10] := by
          unfold condL
          rw [if_neg (condT_ne hk hob.2)]
        have hcp := refCondT_pure (kd := t.kind) hA hf.rows
        refine bwp_seq fun K hK => bwp_region rfl ?_
        simp -implicitDefEqProofs only [go_sem, ↓reduceIte, Nat.reduceEqDiff, Nat.reduceAdd, Nat.reduceLeDiff, Nat.reduceMul, Nat.reduceSub, Int.reduceLE, Int.reduceLT, Int.reduceEq, Int.reduceToNat, Int.reducePow, Int.reduceNeg, hk]
        refine hK _ ?_; clear hK
        refine bwp_cond true (by simp [ev, fget, hk]) (fun _ => ?_) (fun h => nomatch h)
        refine bwp_region rfl ?_
        simp -implicitDefEqProofs only [go_sem, ↓reduceIte, Nat.reduceEqDiff, Nat.reduceAdd, Nat.reduceLeDiff, Nat.reduceMul, Nat.reduceSub, Int.reduceLE, Int.reduceLT, Int.reduceEq, Int.reduceToNat, Int.reducePow, Int.reduceNeg]
        refine callK_pure hcp rfl rfl ?_
        simp -implicitDefEqProofs only [go_sem, ↓reduceIte, Nat.reduceEqDiff, Nat.reduceAdd, Nat.reduceLeDiff, Nat.reduceMul, Nat.reduceSub, Int.reduceLE, Int.reduceLT, Int.reduceEq, Int.reduceToNat, Int.reducePow, Int.reduceNeg]
        repeat' (first
          | (refine gateK_split (fun hb => ?_) (fun hb => ?_) <;> simp -implicitDefEqProofs only [go_sem, ↓reduceIte, Nat.reduceEqDiff, Nat.reduceAdd, Nat.reduceLeDiff, Nat.reduceMul, Nat.reduceSub, Int.reduceLE, Int.reduceLT, Int.reduceEq, Int.reduceToNat, Int.reducePow, Int.reduceNeg, hb])
          | (refine dGateK_split (fun hb => ?_) (fun hb => ?_) <;> simp -implicitDefEqProofs only [go_sem, ↓reduceIte, Nat.reduceEqDiff, Nat.reduceAdd, Nat.reduceLeDiff, Nat.reduceMul, Nat.reduceSub, Int.reduceLE, Int.reduceLT, Int.reduceEq, Int.reduceToNat, Int.reducePow, Int.reduceNeg, hb])
          | (rw [if_pos (by (try simp only [List.length_append, List.length_cons, List.length_nil]); omega)]; simp -implicitDefEqProofs only [go_sem, ↓reduceIte, Nat.reduceEqDiff, Nat.reduceAdd, Nat.reduceLeDiff, Nat.reduceMul, Nat.reduceSub, Int.reduceLE, Int.reduceLT, Int.reduceEq, Int.reduceToNat, Int.reducePow, Int.reduceNeg]))
        refine fin4 _ (Y ++ condT t.kind t.rows ++ [10]) (by simp only [List.length_append, List.length_cons, List.length_nil]; omega) (by rw [hce]; simp) ?_
        exact Leads.ent [(0, 0)] ⟨by simp [entT, fget, AV.ren, renL, pget, rpS], by simp [entM, pinv, mget, mset, renL, AV.ren, pget, rpS], rfl, rfl⟩
    unfold rpS
    simp only [List.nil_append, List.map_cons, List.map_nil]
    by_cases hi : t.inits = []
    · have hl : t.inits.length = 0 := by simp [hi]
      refine bwp_seq fun K hK => bwp_region rfl ?_
      simp -implicitDefEqProofs only [go_sem, ↓reduceIte, Nat.reduceEqDiff, Nat.reduceAdd, Nat.reduceLeDiff, Nat.reduceMul, Nat.reduceSub, Int.reduceLE, Int.reduceLT, Int.reduceEq, Int.reduceToNat, Int.reducePow, Int.reduceNeg, hI.len, hl]
      refine hK _ ?_; clear hK
      refine bwp_cond false (by simp [ev, fget, hl]) (fun h => nomatch h) (fun _ => ?_)
      refine bwp_skip ?_
      exact fin2 _ (Leads.ent [(0, 0)] ⟨by simp [entT, fget, AV.ren, renL, pget, rpS, initsL, hi], by simp [entM, pinv, mget, mset, mdel, renL, AV.ren, pget, renL_append, -List.map_map, rpS, initsL, hi], rfl, rfl⟩)
    · have hl : (0 : Int) < t.inits.length := by
        have := List.length_pos_iff.2 hi
        omega
      refine bwp_seq fun K hK => bwp_region rfl ?_
      simp -implicitDefEqProofs only [go_sem, ↓reduceIte, Nat.reduceEqDiff, Nat.reduceAdd, Nat.reduceLeDiff, Nat.reduceMul, Nat.reduceSub, Int.reduceLE, Int.reduceLT, Int.reduceEq, Int.reduceToNat, Int.reducePow, Int.reduceNeg, hI.len, hl]
      refine hK _ ?_; clear hK
      refine bwp_cond true (by simp [ev, fget, hl]) (fun _ => ?_) (fun h => nomatch h)
      refine bwp_seq fun K hK => bwp_region rfl ?_
      simp -implicitDefEqProofs only [go_sem, ↓reduceIte, Nat.reduceEqDiff, Nat.reduceAdd, Nat.reduceLeDiff, Nat.reduceMul, Nat.reduceSub, Int.reduceLE, Int.reduceLT, Int.reduceEq, Int.reduceToNat, Int.reducePow, Int.reduceNeg]
      repeat' (first
        | (refine gateK_split (fun hb => ?_) (fun hb => ?_) <;> simp -implicitDefEqProofs only [go_sem, ↓reduceIte, Nat.reduceEqDiff, Nat.reduceAdd, Nat.reduceLeDiff, Nat.reduceMul, Nat.reduceSub, Int.reduceLE, Int.reduceLT, Int.reduceEq, Int.reduceToNat, Int.reducePow, Int.reduceNeg, hb])
        | (refine dGateK_split (fun hb => ?_) (fun hb => ?_) <;> simp -implicitDefEqProofs only [go_sem, ↓reduceIte, Nat.reduceEqDiff, Nat.reduceAdd, Nat.reduceLeDiff, Nat.reduceMul, Nat.reduceSub, Int.reduceLE, Int.reduceLT, Int.reduceEq, Int.reduceToNat, Int.reducePow, Int.reduceNeg, hb])
        | (rw [if_pos (by (try simp only [List.length_append, List.length_cons, List.length_nil]); omega)]; simp -implicitDefEqProofs only [go_sem, ↓reduceIte, Nat.reduceEqDiff, Nat.reduceAdd, Nat.reduceLeDiff, Nat.reduceMul, Nat.reduceSub, Int.reduceLE, Int.reduceLT, Int.reduceEq, Int.reduceToNat, Int.reducePow, Int.reduceNeg]))
      refine hK _ ?_; clear hK
      refine bwp_seq fun K3 hK3 => ?_
      refine bwp_seq fun K hK => bwp_region rfl ?_
      simp -implicitDefEqProofs only [go_sem, ↓reduceIte, Nat.reduceEqDiff, Nat.reduceAdd, Nat.reduceLeDiff, Nat.reduceMul, Nat.reduceSub, Int.reduceLE, Int.reduceLT, Int.reduceEq, Int.reduceToNat, Int.reducePow, Int.reduceNeg]
      refine hK _ ?_; clear hK
      refine bwp_block ?_
      refine bwp_leads (S' := rpS [.str t.name, I, T, .int .i64 t.kind, A] (headL t ++ [105, 110, 105, 116, 32, 123, 10]) [(4, .d (.int .i64 (0 : Nat)))]) (Leads.ent [(0, 0)] ⟨by simp [entT, fget, AV.ren, renL, pget, rpS], by simp [entM, pinv, mget, mset, renL, AV.ren, pget, renL_append, -List.map_map, rpS], rfl, rfl⟩) ?_
      refine rp_inits hI hf.values hin hf.inits (by simp only [List.length_append, List.length_cons, List.length_nil]; omega) ?_
      generalize hY : headL t ++ [105, 110, 105, 116, 32, 123, 10] ++ t.inits.flatMap initL = Y
      have hYl : Y.length ≤ 10000 := by rw [← hY]; simp only [List.length_append, List.length_cons, List.length_nil]; omega
      unfold rpS
      simp only [List.cons_append, List.nil_append, List.map_cons, List.map_nil]
      simp -implicitDefEqProofs only [go_sem, ↓reduceIte, Nat.reduceEqDiff, Nat.reduceAdd, Nat.reduceLeDiff, Nat.reduceMul, Nat.reduceSub, Int.reduceLE, Int.reduceLT, Int.reduceEq, Int.reduceToNat, Int.reducePow, Int.reduceNeg]
      refine hK3 _ ?_; clear hK3
      refine bwp_region rfl ?_
      simp -implicitDefEqProofs only [go_sem, ↓reduceIte, Nat.reduceEqDiff, Nat.reduceAdd, Nat.reduceLeDiff, Nat.reduceMul, Nat.reduceSub, Int.reduceLE, Int.reduceLT, Int.reduceEq, Int.reduceToNat, Int.reducePow, Int.reduceNeg]
      repeat' (first
        | (refine gateK_split (fun hb => ?_) (fun hb => ?_) <;> simp -implicitDefEqProofs only [go_sem, ↓reduceIte, Nat.reduceEqDiff, Nat.reduceAdd, Nat.reduceLeDiff, Nat.reduceMul, Nat.reduceSub, Int.reduceLE, Int.reduceLT, Int.reduceEq, Int.reduceToNat, Int.reducePow, Int.reduceNeg, hb])
        | (refine dGateK_split (fun hb => ?_) (fun hb => ?_) <;> simp -implicitDefEqProofs only [go_sem, ↓reduceIte, Nat.reduceEqDiff, Nat.reduceAdd, Nat.reduceLeDiff, Nat.reduceMul, Nat.reduceSub, Int.reduceLE, Int.reduceLT, Int.reduceEq, Int.reduceToNat, Int.reducePow, Int.reduceNeg, hb])
        | (rw [if_pos (by (try simp only [List.length_append, List.length_cons, List.length_nil]); omega)]; simp -implicitDefEqProofs only [go_sem, ↓reduceIte, Nat.reduceEqDiff, Nat.reduceAdd, Nat.reduceLeDiff, Nat.reduceMul, Nat.reduceSub, Int.reduceLE, Int.reduceLT, Int.reduceEq, Int.reduceToNat, Int.reducePow, Int.reduceNeg]))
      have he : headL t ++ initsL t.inits = Y ++ [125, 10] := by rw [← hY]; simp [initsL, hi]
      rw [he] at fin2
      exact fin2 _ (Leads.ent [(0, 0)] ⟨by simp [entT, fget, AV.ren, renL, pget, rpS], by simp [entM, pinv, mget, mset, mdel, renL, AV.ren, pget, renL_append, -List.map_map, rpS], rfl, rfl⟩)

end Go.Proofs.YtgfkgngpganllaaDoor
