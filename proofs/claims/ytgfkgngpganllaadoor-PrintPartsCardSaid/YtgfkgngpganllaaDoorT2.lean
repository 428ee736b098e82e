/- PrintParts comes to true, whatever it is given. -/
import Derived.Test.YtgfkgngpganllaaDoorT1
import Derived.Test.YtgfkgngpganllaaDoorQ3
namespace Go.Proofs.YtgfkgngpganllaaDoor
open Go Go.Jq
set_option maxRecDepth 100000
set_option linter.unusedSimpArgs false

/-- The state in PrintParts. -/
def ppS (cs : List DV) (s : List UInt8) (ex : Fr) : St := ⟨ex ++ [(3, .ptr 0 0), (4, .d (.str s))], [(0, cs.map .d)], 1⟩

set_option maxHeartbeats 2000000 in
theorem pp_thread {nm : List UInt8} {I T A : DV} {kd : Int} {ls : List (List Ins)} (hT : IsSl2 Ins.cells ls T) {i : Nat} (hi : i < ls.length) (hv : ∀ x ∈ ls[i], I64i x) (h30 : ls[i].length ≤ 30) {s : List UInt8} (hs : s.length ≤ 1010000) {Q : Exit → St → Prop}
    (hQ : Q (.exit 2) (ppS [.str nm, I, T, .int .i64 kd, A] (s ++ ls[i].flatMap insL) [(6, .d (.int .i64 ls[i].length)), (5, .d (.int .i64 i))])) :
    BWP Tryd.prog (mbound []) 74 (.loop ac5L0) (ppS [.str nm, I, T, .int .i64 kd, A] s [(6, .d (.int .i64 (0 : Nat))), (5, .d (.int .i64 i))]) Q := by
  have hTl := hT.big
  obtain ⟨cs1, d, rest1, hTe, hd1, hjc, hD⟩ := hT.at i hi
  have hi' : (i : Int) < ls.length := by omega
  generalize hl : ls[i] = l at *
  have e0 : s = s ++ (l.take 0).flatMap insL := by simp
  rw [e0]
  refine bwp_count (fun k => ppS [.str nm, I, T, .int .i64 kd, A] (s ++ (l.take k).flatMap insL) [(6, .d (.int .i64 k)), (5, .d (.int .i64 i))]) l.length ?_
  intro k hk
  have hbl : ((l.take k).flatMap insL).length ≤ 30 * 155 := by
    have := flat_len insL 155 (l.take k) (fun x hx => insL_len (hv x (List.mem_of_mem_take hx)))
    have h2 : (l.take k).length * 155 ≤ 30 * 155 := Nat.mul_le_mul_right _ (by simp; omega)
    omega
  generalize hX : s ++ (l.take k).flatMap insL = X
  have hXl : X.length ≤ 1020000 := by rw [← hX]; simp only [List.length_append]; omega
  unfold ac5L0 ppS
  simp only [List.cons_append, List.nil_append, List.map_cons, List.map_nil]
  by_cases hlt : k < l.length
  · have hlt' : (k : Int) < l.length := by omega
    obtain ⟨cs', rest, hXe, hdrop, hcs⟩ := hD.at ins_len (by omega) k hlt
    have hva := hv l[k] (List.getElem_mem hlt)
    have hnx : s ++ (l.take (k + 1)).flatMap insL = X ++ insL l[k] := by rw [flat_take insL hlt, ← hX, List.append_assoc]
    generalize l[k] = x at hcs hdrop hva hnx
    have hil := insT_len hva
    have hip := ins_pure hva
    unfold Ins.cells at hip
    simp only [List.map_cons, List.map_nil] at hip
    have b1 : X.length + (insT x).length ≤ 9223372036854775807 := by omega
    have b2 : X.length + (insT x).length + 1 ≤ 9223372036854775807 := by omega
    refine bwp_seq fun K1 hK1 => ?_
    refine bwp_seq fun K hK => bwp_region rfl ?_
    simp -implicitDefEqProofs only [go_sem, ↓reduceIte, Nat.reduceEqDiff, Nat.reduceAdd, Nat.reduceLeDiff, Nat.reduceMul, Nat.reduceSub, Int.reduceLE, Int.reduceLT, Int.reduceEq, Int.reduceToNat, Int.reducePow, Int.reduceNeg, hTe, hi', Int.natCast_nonneg, Int.toNat_natCast, hd1, hjc, hD.len, hlt']
    refine hK _ ?_; clear hK
    refine bwp_cond true (by simp [ev, fget, hlt']) (fun _ => ?_) (fun h => nomatch h)
    refine bwp_skip ?_
    refine hK1 _ ?_; clear hK1
    refine bwp_seq fun K1 hK1 => ?_
    refine bwp_block ?_
    refine bwp_region rfl ?_
    simp -implicitDefEqProofs only [go_sem, ↓reduceIte, Nat.reduceEqDiff, Nat.reduceAdd, Nat.reduceLeDiff, Nat.reduceMul, Nat.reduceSub, Int.reduceLE, Int.reduceLT, Int.reduceEq, Int.reduceToNat, Int.reducePow, Int.reduceNeg, hTe, hi', hlt', Int.natCast_nonneg, Int.toNat_natCast, hd1, hjc, hXe, hcs, hdrop, Ins.cells]
    refine callK_pure hip rfl rfl ?_
    simp -implicitDefEqProofs only [go_sem, ↓reduceIte, Nat.reduceEqDiff, Nat.reduceAdd, Nat.reduceLeDiff, Nat.reduceMul, Nat.reduceSub, Int.reduceLE, Int.reduceLT, Int.reduceEq, Int.reduceToNat, Int.reducePow, Int.reduceNeg, List.length_append, List.length_cons, List.length_nil, Nat.zero_add, b1, b2]
    refine hK1 _ ?_; clear hK1
    have hw : IntKind.i64.wrap ((k : Int) + 1) = ((k + 1 : Nat) : Int) := by rw [wrap_i64 (by omega) (by omega)]; rfl
    refine bwp_region rfl ?_
    simp -implicitDefEqProofs only [go_sem, ↓reduceIte, Nat.reduceEqDiff, Nat.reduceAdd, Nat.reduceLeDiff, Nat.reduceMul, Nat.reduceSub, Int.reduceLE, Int.reduceLT, Int.reduceEq, Int.reduceToNat, Int.reducePow, Int.reduceNeg, hw]
    rw [hnx]
    exact ⟨hlt, (Leads.ent [(0, 0)] ⟨by simp [entT, fget, AV.ren, renL, pget, insL, List.append_assoc, hTe], by simp [entM, pinv, mget, mset, renL, AV.ren, pget, renL_append, -List.map_map, insL, List.append_assoc, hTe], rfl, rfl⟩)⟩
  · have hlt' : ¬ (k : Int) < l.length := by omega
    have hin : k = l.length := by omega
    subst hin
    refine bwp_seq fun K1 hK1 => ?_
    refine bwp_seq fun K hK => bwp_region rfl ?_
    simp -implicitDefEqProofs only [go_sem, ↓reduceIte, Nat.reduceEqDiff, Nat.reduceAdd, Nat.reduceLeDiff, Nat.reduceMul, Nat.reduceSub, Int.reduceLE, Int.reduceLT, Int.reduceEq, Int.reduceToNat, Int.reducePow, Int.reduceNeg, hTe, hi', Int.natCast_nonneg, Int.toNat_natCast, hd1, hjc, hD.len, hlt']
    refine hK _ ?_; clear hK
    refine bwp_cond false (by simp [ev, fget, hlt']) (fun h => nomatch h) (fun _ => ?_)
    rw [List.take_length] at hX
    refine bwp_leads (S' := ppS [.str nm, I, T, .int .i64 kd, A] (s ++ l.flatMap insL) [(6, .d (.int .i64 l.length)), (5, .d (.int .i64 i))]) (Leads.ent [(0, 0)] ⟨by simp [entT, fget, AV.ren, renL, pget, ppS, hX, hTe], by simp [entM, pinv, mget, mset, renL, AV.ren, pget, renL_append, -List.map_map, ppS, hX, hTe], rfl, rfl⟩) ?_
    exact bwp_exit hQ

set_option maxHeartbeats 2000000 in
theorem pp_threads {nm : List UInt8} {I T A : DV} {kd : Int} {ls : List (List Ins)} (hT : IsSl2 Ins.cells ls T) (hv : ∀ l ∈ ls, l.length ≤ 30 ∧ ∀ x ∈ l, I64i x) (h7 : ls.length ≤ 7) {s : List UInt8} (hs : s.length ≤ 900000) {Q : Exit → St → Prop}
    (hQ : Q (.exit 0) (ppS [.str nm, I, T, .int .i64 kd, A] (s ++ ls.flatMap threadL) [(5, .d (.int .i64 ls.length))])) :
    BWP Tryd.prog (mbound []) 74 (.loop ac5L1) (ppS [.str nm, I, T, .int .i64 kd, A] s [(5, .d (.int .i64 (0 : Nat)))]) Q := by
  have e0 : s = s ++ (ls.take 0).flatMap threadL := by simp
  rw [e0]
  refine bwp_count (fun k => ppS [.str nm, I, T, .int .i64 kd, A] (s ++ (ls.take k).flatMap threadL) [(5, .d (.int .i64 k))]) ls.length ?_
  intro k hk
  have hbl : ((ls.take k).flatMap threadL).length ≤ 7 * 4661 := by
    have := flat_len threadL 4661 (ls.take k) (fun l hl => threadL_len (hv l (List.mem_of_mem_take hl)).1 (hv l (List.mem_of_mem_take hl)).2)
    have h2 : (ls.take k).length * 4661 ≤ 7 * 4661 := Nat.mul_le_mul_right _ (by simp; omega)
    omega
  generalize hX : s ++ (ls.take k).flatMap threadL = X
  have hXl : X.length ≤ 1000000 := by rw [← hX]; simp only [List.length_append]; omega
  unfold ac5L1 ppS
  simp only [List.cons_append, List.nil_append, List.map_cons, List.map_nil]
  by_cases hlt : k < ls.length
  · have hlt' : (k : Int) < ls.length := by omega
    have hva := hv ls[k] (List.getElem_mem hlt)
    have hnx : s ++ (ls.take (k + 1)).flatMap threadL = X ++ threadL ls[k] := by rw [flat_take threadL hlt, ← hX, List.append_assoc]
    have b1 : X.length + 9 ≤ 9223372036854775807 := by omega
    refine bwp_seq fun K1 hK1 => ?_
    refine bwp_seq fun K hK => bwp_region rfl ?_
    simp -implicitDefEqProofs only [go_sem, ↓reduceIte, Nat.reduceEqDiff, Nat.reduceAdd, Nat.reduceLeDiff, Nat.reduceMul, Nat.reduceSub, Int.reduceLE, Int.reduceLT, Int.reduceEq, Int.reduceToNat, Int.reducePow, Int.reduceNeg, hT.len, hlt']
    refine hK _ ?_; clear hK
    refine bwp_cond true (by simp [ev, fget, hlt']) (fun _ => ?_) (fun h => nomatch h)
    refine bwp_skip ?_
    refine hK1 _ ?_; clear hK1
    refine bwp_seq fun K1 hK1 => ?_
    refine bwp_block ?_
    refine bwp_seq fun K hK => bwp_region rfl ?_
    simp -implicitDefEqProofs only [go_sem, ↓reduceIte, Nat.reduceEqDiff, Nat.reduceAdd, Nat.reduceLeDiff, Nat.reduceMul, Nat.reduceSub, Int.reduceLE, Int.reduceLT, Int.reduceEq, Int.reduceToNat, Int.reducePow, Int.reduceNeg, List.length_cons, List.length_nil, Nat.zero_add, b1]
    refine hK _ ?_; clear hK
    refine bwp_seq fun K2 hK2 => ?_
    refine bwp_seq fun K hK => bwp_region rfl ?_
    simp -implicitDefEqProofs only [go_sem, ↓reduceIte, Nat.reduceEqDiff, Nat.reduceAdd, Nat.reduceLeDiff, Nat.reduceMul, Nat.reduceSub, Int.reduceLE, Int.reduceLT, Int.reduceEq, Int.reduceToNat, Int.reducePow, Int.reduceNeg]
    refine hK _ ?_; clear hK
    refine bwp_block ?_
    have hX2 : (X ++ [116, 104, 114, 101, 97, 100, 32, 123, 10]).length ≤ 1010000 := by simp only [List.length_append, List.length_cons, List.length_nil]; omega
    refine bwp_leads (S' := ppS [.str nm, I, T, .int .i64 kd, A] (X ++ [116, 104, 114, 101, 97, 100, 32, 123, 10]) [(6, .d (.int .i64 (0 : Nat))), (5, .d (.int .i64 k))]) (Leads.ent [(0, 0)] ⟨by simp [entT, fget, AV.ren, renL, pget, ppS], by simp [entM, pinv, mget, mset, renL, AV.ren, pget, renL_append, -List.map_map, ppS], rfl, rfl⟩) ?_
    refine pp_thread hT hlt hva.2 hva.1 hX2 ?_
    have h1 := flat_len insL 155 ls[k] (fun x hx => insL_len (hva.2 x hx))
    have h2 : ls[k].length * 155 ≤ 30 * 155 := Nat.mul_le_mul_right _ hva.1
    generalize hY : (X ++ [116, 104, 114, 101, 97, 100, 32, 123, 10]) ++ ls[k].flatMap insL = Y
    have hYl : Y.length ≤ 1020000 := by rw [← hY, List.length_append]; omega
    unfold ppS
    simp only [List.cons_append, List.nil_append, List.map_cons, List.map_nil]
    simp -implicitDefEqProofs only [go_sem, ↓reduceIte, Nat.reduceEqDiff, Nat.reduceAdd, Nat.reduceLeDiff, Nat.reduceMul, Nat.reduceSub, Int.reduceLE, Int.reduceLT, Int.reduceEq, Int.reduceToNat, Int.reducePow, Int.reduceNeg]
    refine hK2 _ ?_; clear hK2
    have b2 : Y.length + 2 ≤ 9223372036854775807 := by omega
    refine bwp_region rfl ?_
    simp -implicitDefEqProofs only [go_sem, ↓reduceIte, Nat.reduceEqDiff, Nat.reduceAdd, Nat.reduceLeDiff, Nat.reduceMul, Nat.reduceSub, Int.reduceLE, Int.reduceLT, Int.reduceEq, Int.reduceToNat, Int.reducePow, Int.reduceNeg, List.length_cons, List.length_nil, Nat.zero_add, b2]
    refine hK1 _ ?_; clear hK1
    have hw : IntKind.i64.wrap ((k : Int) + 1) = ((k + 1 : Nat) : Int) := by rw [wrap_i64 (by omega) (by omega)]; rfl
    refine bwp_region rfl ?_
    simp -implicitDefEqProofs only [go_sem, ↓reduceIte, Nat.reduceEqDiff, Nat.reduceAdd, Nat.reduceLeDiff, Nat.reduceMul, Nat.reduceSub, Int.reduceLE, Int.reduceLT, Int.reduceEq, Int.reduceToNat, Int.reducePow, Int.reduceNeg, hw]
    have hnx2 : s ++ (ls.take (k + 1)).flatMap threadL = Y ++ [125, 10] := by rw [hnx, ← hY]; simp [threadL]
    rw [hnx2]
    exact ⟨hlt, (Leads.ent [(0, 0)] ⟨by simp [entT, fget, AV.ren, renL, pget, List.append_assoc], by simp [entM, pinv, mget, mset, renL, AV.ren, pget, renL_append, -List.map_map, List.append_assoc], rfl, rfl⟩)⟩
  · have hlt' : ¬ (k : Int) < ls.length := by omega
    have hin : k = ls.length := by omega
    subst hin
    refine bwp_seq fun K1 hK1 => ?_
    refine bwp_seq fun K hK => bwp_region rfl ?_
    simp -implicitDefEqProofs only [go_sem, ↓reduceIte, Nat.reduceEqDiff, Nat.reduceAdd, Nat.reduceLeDiff, Nat.reduceMul, Nat.reduceSub, Int.reduceLE, Int.reduceLT, Int.reduceEq, Int.reduceToNat, Int.reducePow, Int.reduceNeg, hT.len, hlt']
    refine hK _ ?_; clear hK
    refine bwp_cond false (by simp [ev, fget, hlt']) (fun h => nomatch h) (fun _ => ?_)
    rw [List.take_length] at hX
    refine bwp_leads (S' := ppS [.str nm, I, T, .int .i64 kd, A] (s ++ ls.flatMap threadL) [(5, .d (.int .i64 ls.length))]) (Leads.ent [(0, 0)] ⟨by simp [entT, fget, AV.ren, renL, pget, ppS, hX], by simp [entM, pinv, mget, mset, renL, AV.ren, pget, renL_append, -List.map_map, ppS, hX], rfl, rfl⟩) ?_
    exact bwp_exit hQ

/-- The parts' text, as the law makes it. -/
def ppInit (l : List Init) : List UInt8 := match l with
  | [] => []
  | x :: _ => [105, 110, 105, 116, 32, 123, 10, 120, 32, 61, 32] ++ Lib.itoa x.value ++ [32, 59, 10, 125, 10]

theorem ppInit_eq {l : List Init} (h1 : l.length ≤ 1) (h2 : ∀ x ∈ l, x.loc = 120) : initsL l = ppInit l := by
  match l, h1 with
  | [], _ => rfl
  | [x], _ =>
    have hx := h2 x (by simp)
    have hl : locT 120 = [120] := locT_ok rfl
    simp [initsL, ppInit, initL, hx, hl]

set_option maxHeartbeats 4000000 in
theorem printParts_pure {ls : List Int} {X : DV} (hX : IsInts ls X) : Pure Tryd.prog 5 [.d X] (.d (.bool true)) := by
  have hG := small_goodTest ls 12
  have hok := hG.ok
  have hfew := small_few ls 12
  have hcond : okCondB (small ls 12).kind (small ls 12).rows = true := hG.cond
  have hnm : (small ls 12).name = [116] := rfl
  refine acalls_of Tryd.func5 ac5_ok Tryd.ntmps5 Tryd.results5 rfl ?_
  unfold ac5
  refine bwp_seq fun K hK => bwp_region rfl ?_
  simp -implicitDefEqProofs only [go_sem, ↓reduceIte, Nat.reduceEqDiff, Nat.reduceAdd, Nat.reduceLeDiff, Nat.reduceMul, Nat.reduceSub, Int.reduceLE, Int.reduceLT, Int.reduceEq, Int.reduceToNat, Int.reducePow, Int.reduceNeg]
  refine hK _ ?_; clear hK
  refine bwp_seq fun K hK => bwp_region rfl ?_
  simp -implicitDefEqProofs only [go_sem, ↓reduceIte, Nat.reduceEqDiff, Nat.reduceAdd, Nat.reduceLeDiff, Nat.reduceMul, Nat.reduceSub, Int.reduceLE, Int.reduceLT, Int.reduceEq, Int.reduceToNat, Int.reducePow, Int.reduceNeg]
  refine callK_pureQ (small_calls hX (most := 12) (by omega)) rfl (fun v ⟨cs, h, _⟩ => by subst h; exact inL_data cs) ?_
  rintro v ⟨cs, rfl, hT⟩
  have htp := test_pure hT hfew
  obtain ⟨I, T, A, rfl, hI, hTh, hA⟩ := hT
  have hlaw : testT (small ls 12) = [116, 101, 115, 116, 32, 116, 32, 123, 10] ++ ppInit (small ls 12).inits ++ (small ls 12).threads.flatMap threadL ++ (if (small ls 12).kind = 0 then [] else condT (small ls 12).kind (small ls 12).rows ++ [10]) ++ [125, 10] := by
    have e1 : headL (small ls 12) = [116, 101, 115, 116, 32, 116, 32, 123, 10] := by simp [headL, hnm]
    have e2 : condL (small ls 12) = if (small ls 12).kind = 0 then [] else condT (small ls 12).kind (small ls 12).rows ++ [10] := by
      unfold condL
      by_cases hk : (small ls 12).kind = 0
      · have : condT (small ls 12).kind (small ls 12).rows = [] := by unfold condT; rw [if_pos (.inl hk)]
        rw [if_pos this, if_pos hk]
      · rw [if_neg (condT_ne hk hcond), if_neg hk]
    unfold testT
    rw [if_pos hok, e1, e2, ppInit_eq hG.once hG.inits]
  have hcp := cond_pure (kind := (small ls 12).kind) hA hfew.rows
  have hcl := condT_len (kind := (small ls 12).kind) hfew.rows
  have hI1 := hG.once
  have hval := hfew.values
  have hf1 := hfew.ins
  have hf2 := hfew.threads
  generalize testT (small ls 12) = txt at hlaw htp
  generalize (small ls 12).inits = inits at *
  generalize (small ls 12).threads = threads at *
  generalize (small ls 12).kind = kind at *
  generalize (small ls 12).rows = rows at *
  rw [hnm] at htp ⊢
  simp -implicitDefEqProofs only [go_sem, ↓reduceIte, Nat.reduceEqDiff, Nat.reduceAdd, Nat.reduceLeDiff, Nat.reduceMul, Nat.reduceSub, Int.reduceLE, Int.reduceLT, Int.reduceEq, Int.reduceToNat, Int.reducePow, Int.reduceNeg]
  refine hK _ ?_; clear hK
  refine bwp_seq fun K hK => bwp_region rfl ?_
  simp -implicitDefEqProofs only [go_sem, ↓reduceIte, Nat.reduceEqDiff, Nat.reduceAdd, Nat.reduceLeDiff, Nat.reduceMul, Nat.reduceSub, Int.reduceLE, Int.reduceLT, Int.reduceEq, Int.reduceToNat, Int.reducePow, Int.reduceNeg]
  refine hK _ ?_; clear hK
  refine bwp_leads (S' := ppS [.str [116], I, T, .int .i64 kind, A] [116, 101, 115, 116, 32, 116, 32, 123, 10] []) (Leads.ent [(0, 0)] ⟨by simp [entT, fget, AV.ren, renL, pget, ppS], by simp [entM, pinv, mget, mset, renL, AV.ren, pget, renL_append, -List.map_map, ppS], rfl, rfl⟩) ?_
  refine bwp_seq fun K1 hK1 => ?_
  have fin1 : ∀ S : St, Leads (mbound []) 74 S (ppS [.str [116], I, T, .int .i64 kind, A] ([116, 101, 115, 116, 32, 116, 32, 123, 10] ++ ppInit inits) []) → K1 S := by
    intro S hS
    refine hK1 _ ?_; clear hK1
    refine bwp_leads hS ?_
    generalize hX1 : [116, 101, 115, 116, 32, 116, 32, 123, 10] ++ ppInit inits = X1 at hlaw
    have hX1l : X1.length ≤ 900000 := by
      rw [← hX1]
      unfold ppInit
      split
      · simp
      · rename_i x r
        have := itoa_len (hval x (by simp))
        simp only [List.length_append, List.length_cons, List.length_nil]; omega
    unfold ppS
    simp only [List.nil_append, List.map_cons, List.map_nil]
    refine bwp_seq fun K2 hK2 => ?_
    refine bwp_seq fun K hK => bwp_region rfl ?_
    simp -implicitDefEqProofs only [go_sem, ↓reduceIte, Nat.reduceEqDiff, Nat.reduceAdd, Nat.reduceLeDiff, Nat.reduceMul, Nat.reduceSub, Int.reduceLE, Int.reduceLT, Int.reduceEq, Int.reduceToNat, Int.reducePow, Int.reduceNeg]
    refine hK _ ?_; clear hK
    refine bwp_block ?_
    refine bwp_leads (S' := ppS [.str [116], I, T, .int .i64 kind, A] X1 [(5, .d (.int .i64 (0 : Nat)))]) (Leads.ent [(0, 0)] ⟨by simp [entT, fget, AV.ren, renL, pget, ppS], by simp [entM, pinv, mget, mset, renL, AV.ren, pget, renL_append, -List.map_map, ppS], rfl, rfl⟩) ?_
    refine pp_threads hTh hf1 hf2 hX1l ?_
    have h1 := flat_len threadL 4661 threads (fun l hl => threadL_len (hf1 l hl).1 (hf1 l hl).2)
    have h2 : threads.length * 4661 ≤ 7 * 4661 := Nat.mul_le_mul_right _ hf2
    generalize hY : X1 ++ threads.flatMap threadL = Y at hlaw
    have hYl : Y.length ≤ 1000000 := by rw [← hY, List.length_append]; omega
    unfold ppS
    simp only [List.cons_append, List.nil_append, List.map_cons, List.map_nil]
    simp -implicitDefEqProofs only [go_sem, ↓reduceIte, Nat.reduceEqDiff, Nat.reduceAdd, Nat.reduceLeDiff, Nat.reduceMul, Nat.reduceSub, Int.reduceLE, Int.reduceLT, Int.reduceEq, Int.reduceToNat, Int.reducePow, Int.reduceNeg]
    refine hK2 _ ?_; clear hK2
    refine bwp_seq fun K3 hK3 => ?_
    have fin3 : ∀ (S : St) (s : List UInt8), s.length ≤ 1100000 → s ++ [125, 10] = txt → Leads (mbound []) 74 S (ppS [.str [116], I, T, .int .i64 kind, A] s []) → K3 S := by
      intro S s hs he hS
      refine hK3 _ ?_; clear hK3
      refine bwp_leads hS ?_
      unfold ppS
      simp only [List.nil_append, List.map_cons, List.map_nil]
      have b1 : s.length + 2 ≤ 9223372036854775807 := by omega
      simp only [List.map_cons, List.map_nil] at htp
      refine bwp_seq fun K hK => bwp_region rfl ?_
      simp -implicitDefEqProofs only [go_sem, ↓reduceIte, Nat.reduceEqDiff, Nat.reduceAdd, Nat.reduceLeDiff, Nat.reduceMul, Nat.reduceSub, Int.reduceLE, Int.reduceLT, Int.reduceEq, Int.reduceToNat, Int.reducePow, Int.reduceNeg]
      refine callK_pure htp rfl rfl ?_
      simp -implicitDefEqProofs only [go_sem, ↓reduceIte, Nat.reduceEqDiff, Nat.reduceAdd, Nat.reduceLeDiff, Nat.reduceMul, Nat.reduceSub, Int.reduceLE, Int.reduceLT, Int.reduceEq, Int.reduceToNat, Int.reducePow, Int.reduceNeg, List.length_cons, List.length_nil, Nat.zero_add, b1, he]
      refine callK_pure awake_pure rfl rfl ?_
      simp -implicitDefEqProofs only [go_sem, ↓reduceIte, Nat.reduceEqDiff, Nat.reduceAdd, Nat.reduceLeDiff, Nat.reduceMul, Nat.reduceSub, Int.reduceLE, Int.reduceLT, Int.reduceEq, Int.reduceToNat, Int.reducePow, Int.reduceNeg]
      refine hK _ ?_; clear hK
      refine bwp_ret ?_
      simp only [go_sem]
      refine aend_ret _ rfl rfl ⟨?_, rfl⟩
      simp [fget]
    by_cases hk : kind = 0
    · refine bwp_seq fun K hK => bwp_region rfl ?_
      simp -implicitDefEqProofs only [go_sem, ↓reduceIte, Nat.reduceEqDiff, Nat.reduceAdd, Nat.reduceLeDiff, Nat.reduceMul, Nat.reduceSub, Int.reduceLE, Int.reduceLT, Int.reduceEq, Int.reduceToNat, Int.reducePow, Int.reduceNeg, hk]
      refine hK _ ?_; clear hK
      refine bwp_cond false (by simp [ev, fget, hk]) (fun h => nomatch h) (fun _ => ?_)
      refine bwp_skip ?_
      refine fin3 _ Y (by omega) (by rw [hlaw, if_pos hk]; simp) ?_
      exact Leads.ent [(0, 0)] ⟨by simp [entT, fget, AV.ren, renL, pget, ppS], by simp [entM, pinv, mget, mset, renL, AV.ren, pget, ppS, hk], rfl, rfl⟩
    · have b2 : Y.length + (condT kind rows).length ≤ 9223372036854775807 := by omega
      have b3 : Y.length + (condT kind rows).length + 1 ≤ 9223372036854775807 := by omega
      refine bwp_seq fun K hK => bwp_region rfl ?_
      simp -implicitDefEqProofs only [go_sem, ↓reduceIte, Nat.reduceEqDiff, Nat.reduceAdd, Nat.reduceLeDiff, Nat.reduceMul, Nat.reduceSub, Int.reduceLE, Int.reduceLT, Int.reduceEq, Int.reduceToNat, Int.reducePow, Int.reduceNeg, hk]
      refine hK _ ?_; clear hK
      refine bwp_cond true (by simp [ev, fget, hk]) (fun _ => ?_) (fun h => nomatch h)
      refine bwp_region rfl ?_
      simp -implicitDefEqProofs only [go_sem, ↓reduceIte, Nat.reduceEqDiff, Nat.reduceAdd, Nat.reduceLeDiff, Nat.reduceMul, Nat.reduceSub, Int.reduceLE, Int.reduceLT, Int.reduceEq, Int.reduceToNat, Int.reducePow, Int.reduceNeg]
      refine callK_pure hcp rfl rfl ?_
      simp -implicitDefEqProofs only [go_sem, ↓reduceIte, Nat.reduceEqDiff, Nat.reduceAdd, Nat.reduceLeDiff, Nat.reduceMul, Nat.reduceSub, Int.reduceLE, Int.reduceLT, Int.reduceEq, Int.reduceToNat, Int.reducePow, Int.reduceNeg, List.length_append, List.length_cons, List.length_nil, Nat.zero_add, b2, b3]
      refine fin3 _ (Y ++ condT kind rows ++ [10]) (by simp only [List.length_append, List.length_cons, List.length_nil]; omega) (by rw [hlaw, if_neg hk]; simp) ?_
      exact Leads.ent [(0, 0)] ⟨by simp [entT, fget, AV.ren, renL, pget, ppS], by simp [entM, pinv, mget, mset, renL, AV.ren, pget, ppS], rfl, rfl⟩
  unfold ppS
  simp only [List.nil_append, List.map_cons, List.map_nil]
  match inits, hI1, hI, hval with
  | [], _, hI, _ =>
    refine bwp_seq fun K hK => bwp_region rfl ?_
    simp -implicitDefEqProofs only [go_sem, ↓reduceIte, Nat.reduceEqDiff, Nat.reduceAdd, Nat.reduceLeDiff, Nat.reduceMul, Nat.reduceSub, Int.reduceLE, Int.reduceLT, Int.reduceEq, Int.reduceToNat, Int.reducePow, Int.reduceNeg, hI.len, List.length_nil]
    refine hK _ ?_; clear hK
    refine bwp_cond false (by simp [ev, fget]) (fun h => nomatch h) (fun _ => ?_)
    refine bwp_skip ?_
    exact fin1 _ (Leads.ent [(0, 0)] ⟨by simp [entT, fget, AV.ren, renL, pget, ppS, ppInit], by simp [entM, pinv, mget, mset, mdel, renL, AV.ren, pget, renL_append, -List.map_map, ppS, ppInit], rfl, rfl⟩)
  | [x], _, hI, hval =>
    obtain ⟨cs', rest, hIe, hdrop, hcs⟩ := hI.at init_len (by omega) 0 (by simp)
    have hx := hval x (by simp)
    have hil := itoa_len hx
    have hcs0 : 0 < cs'.length := by omega
    simp only [List.length_cons, List.length_nil, Nat.zero_add, Nat.zero_mul, List.drop_zero, List.getElem_cons_zero] at hIe hdrop
    subst hdrop
    refine bwp_seq fun K hK => bwp_region rfl ?_
    simp -implicitDefEqProofs only [go_sem, ↓reduceIte, Nat.reduceEqDiff, Nat.reduceAdd, Nat.reduceLeDiff, Nat.reduceMul, Nat.reduceSub, Int.reduceLE, Int.reduceLT, Int.reduceEq, Int.reduceToNat, Int.reducePow, Int.reduceNeg, hI.len, List.length_cons, List.length_nil, Nat.zero_add]
    refine hK _ ?_; clear hK
    refine bwp_cond true (by simp [ev, fget]) (fun _ => ?_) (fun h => nomatch h)
    refine bwp_region rfl ?_
    have b3 : 20 + (Lib.itoa x.value).length ≤ 9223372036854775807 := by omega
    have b4 : 20 + (Lib.itoa x.value).length + 5 ≤ 9223372036854775807 := by omega
    have hpos : 0 < rest.length + 1 + 1 := by omega
    simp -implicitDefEqProofs only [go_sem, ↓reduceIte, Nat.reduceEqDiff, Nat.reduceAdd, Nat.reduceLeDiff, Nat.reduceMul, Nat.reduceSub, Int.reduceLE, Int.reduceLT, Int.reduceEq, Int.reduceToNat, Int.reducePow, Int.reduceNeg, hIe, Init.cells, List.cons_append, List.nil_append, List.length_cons, List.drop_zero, List.length_append, List.length_nil, Nat.zero_add, hpos]
    refine callK_pure (refText_pure hx) rfl rfl ?_
    have b6 : (Lib.itoa x.value).length ≤ 9223372036854775787 := by omega
    have b7 : (Lib.itoa x.value).length ≤ 9223372036854775782 := by omega
    simp -implicitDefEqProofs only [go_sem, ↓reduceIte, Nat.reduceEqDiff, Nat.reduceAdd, Nat.reduceLeDiff, Nat.reduceMul, Nat.reduceSub, Int.reduceLE, Int.reduceLT, Int.reduceEq, Int.reduceToNat, Int.reducePow, Int.reduceNeg, List.cons_append, List.nil_append, List.length_cons, List.length_append, List.length_nil, Nat.zero_add, b3, b4, b6, b7]
    exact fin1 _ (Leads.ent [(0, 0)] ⟨by simp [entT, fget, AV.ren, renL, pget, ppS, ppInit, hIe, Init.cells], by simp [entM, pinv, mget, mset, mdel, renL, AV.ren, pget, renL_append, -List.map_map, ppS, ppInit, hIe, Init.cells], rfl, rfl⟩)

end Go.Proofs.YtgfkgngpganllaaDoor
