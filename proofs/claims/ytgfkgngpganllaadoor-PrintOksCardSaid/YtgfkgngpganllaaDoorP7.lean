/- A test's text. -/
import Derived.Test.YtgfkgngpganllaaDoorP6
namespace Go.Proofs.YtgfkgngpganllaaDoor
open Go Go.Jq
set_option maxRecDepth 100000
set_option linter.unusedSimpArgs false

theorem threadL_len {l : List Ins} (h : l.length ≤ 30) (hv : ∀ x ∈ l, I64i x) : (threadL l).length ≤ 4661 := by
  have h1 := flat_len insL 155 l (fun x hx => insL_len (hv x hx))
  have h2 : l.length * 155 ≤ 30 * 155 := Nat.mul_le_mul_right _ h
  simp only [threadL, List.length_append, List.length_cons, List.length_nil]
  omega

set_option maxHeartbeats 2000000 in
theorem ts_threads {cs : List DV} {ls : List (List Ins)} {T : DV} (hT : IsSl2 Ins.cells ls T) (hv : ∀ l ∈ ls, l.length ≤ 30 ∧ ∀ x ∈ l, I64i x) (h7 : ls.length ≤ 7) {s : List UInt8} (hs : s.length ≤ 900000) {Q : Exit → St → Prop}
    (hQ : Q (.exit 2) (tsS cs (s ++ ls.flatMap threadL) [(52, .d (.int .i64 ls.length)), (50, .d T), (51, .d (.int .i64 ls.length))])) :
    BWP Tryd.prog (mbound []) 83 (.loop ac11L2) (tsS cs s [(52, .d (.int .i64 (0 : Nat))), (50, .d T), (51, .d (.int .i64 ls.length))]) Q := by
  have e0 : s = s ++ (ls.take 0).flatMap threadL := by simp
  rw [e0]
  refine bwp_count (fun k => tsS cs (s ++ (ls.take k).flatMap threadL) [(52, .d (.int .i64 k)), (50, .d T), (51, .d (.int .i64 ls.length))]) ls.length ?_
  intro k hk
  have hbl : ((ls.take k).flatMap threadL).length ≤ 7 * 4661 := by
    have := flat_len threadL 4661 (ls.take k) (fun l hl => threadL_len (hv l (List.mem_of_mem_take hl)).1 (hv l (List.mem_of_mem_take hl)).2)
    have h2 : (ls.take k).length * 4661 ≤ 7 * 4661 := Nat.mul_le_mul_right _ (by simp; omega)
    omega
  generalize hX : s ++ (ls.take k).flatMap threadL = X
  have hXl : X.length ≤ 1000000 := by rw [← hX]; simp only [List.length_append]; omega
  unfold ac11L2 tsS
  simp only [List.cons_append, List.nil_append]
  by_cases hlt : k < ls.length
  · have hlt' : (k : Int) < ls.length := by omega
    obtain ⟨cs', d, rest, hTe, hd, hjc, hD⟩ := hT.at k hlt
    have hva := hv ls[k] (List.getElem_mem hlt)
    have hnx : s ++ (ls.take (k + 1)).flatMap threadL = X ++ threadL ls[k] := by rw [flat_take threadL hlt, ← hX, List.append_assoc]
    generalize ls[k] = l at hD hva hnx
    refine bwp_seq fun K hK => bwp_region rfl ?_
    simp -implicitDefEqProofs only [go_sem, ↓reduceIte, Nat.reduceEqDiff, Nat.reduceAdd, Nat.reduceLeDiff, Nat.reduceMul, Nat.reduceSub, Int.reduceLE, Int.reduceLT, Int.reduceEq, Int.reduceToNat, Int.reducePow, Int.reduceNeg, hlt']
    refine hK _ ?_; clear hK
    refine bwp_seq fun K1 hK1 => ?_
    refine bwp_cond true (by simp [ev, fget]) (fun _ => ?_) (fun h => nomatch h)
    refine bwp_skip ?_
    refine hK1 _ ?_; clear hK1
    refine bwp_seq fun K1 hK1 => ?_
    refine bwp_block ?_
    refine bwp_seq fun K hK => bwp_region rfl ?_
    simp -implicitDefEqProofs only [go_sem, ↓reduceIte, Nat.reduceEqDiff, Nat.reduceAdd, Nat.reduceLeDiff, Nat.reduceMul, Nat.reduceSub, Int.reduceLE, Int.reduceLT, Int.reduceEq, Int.reduceToNat, Int.reducePow, Int.reduceNeg, hTe, hlt', Int.natCast_nonneg, Int.toNat_natCast, hd, hjc]
    refine hK _ ?_; clear hK
    refine bwp_seq fun K hK => bwp_region rfl ?_
    simp -implicitDefEqProofs only [go_sem, ↓reduceIte, Nat.reduceEqDiff, Nat.reduceAdd, Nat.reduceLeDiff, Nat.reduceMul, Nat.reduceSub, Int.reduceLE, Int.reduceLT, Int.reduceEq, Int.reduceToNat, Int.reducePow, Int.reduceNeg]
    refine ⟨rfl, ?_⟩
    refine line_used_callK (s := X) (i := 1) (j := 2) (by simp only [List.length_cons, List.length_nil]; omega) rfl rfl (by decide) ?_
    simp -implicitDefEqProofs only [go_sem, ↓reduceIte, Nat.reduceEqDiff, Nat.reduceAdd, Nat.reduceLeDiff, Nat.reduceMul, Nat.reduceSub, Int.reduceLE, Int.reduceLT, Int.reduceEq, Int.reduceToNat, Int.reducePow, Int.reduceNeg]
    refine hK _ ?_; clear hK
    refine bwp_seq fun K2 hK2 => ?_
    refine bwp_seq fun K hK => bwp_region rfl ?_
    simp -implicitDefEqProofs only [go_sem, ↓reduceIte, Nat.reduceEqDiff, Nat.reduceAdd, Nat.reduceLeDiff, Nat.reduceMul, Nat.reduceSub, Int.reduceLE, Int.reduceLT, Int.reduceEq, Int.reduceToNat, Int.reducePow, Int.reduceNeg, hD.len]
    refine hK _ ?_; clear hK
    refine bwp_block ?_
    have hX2 : (X ++ ([116, 104, 114, 101, 97, 100, 32, 123] ++ [10])).length ≤ 1010000 := by simp only [List.length_append, List.length_cons, List.length_nil]; omega
    refine bwp_leads (S' := tsS cs (X ++ ([116, 104, 114, 101, 97, 100, 32, 123] ++ [10])) [(60, .d (.int .i64 (0 : Nat))), (58, .d d), (59, .d (.int .i64 l.length)), (52, .d (.int .i64 k)), (50, .d T), (51, .d (.int .i64 ls.length))]) (Leads.ent [(0, 0), (1, 1), (5, 2)] ⟨by simp [entT, fget, AV.ren, renL, pget, tsS, bytesAV, renB, hTe], by simp [entM, pinv, mget, mset, renL, AV.ren, pget, renL_append, -List.map_map, tsS, bytesAV, renB, hTe], rfl, rfl⟩) ?_
    refine ts_thread hD hva.2 hva.1 hX2 ?_
    have h1 := flat_len insL 155 l (fun x hx => insL_len (hva.2 x hx))
    have h2 : l.length * 155 ≤ 30 * 155 := Nat.mul_le_mul_right _ hva.1
    generalize hY : (X ++ ([116, 104, 114, 101, 97, 100, 32, 123] ++ [10])) ++ l.flatMap insL = Y
    have hYl : Y.length ≤ 1020000 := by rw [← hY, List.length_append]; omega
    unfold tsS
    simp only [List.cons_append, List.nil_append]
    simp -implicitDefEqProofs only [go_sem, ↓reduceIte, Nat.reduceEqDiff, Nat.reduceAdd, Nat.reduceLeDiff, Nat.reduceMul, Nat.reduceSub, Int.reduceLE, Int.reduceLT, Int.reduceEq, Int.reduceToNat, Int.reducePow, Int.reduceNeg]
    refine hK2 _ ?_; clear hK2
    refine bwp_region rfl ?_
    simp -implicitDefEqProofs only [go_sem, ↓reduceIte, Nat.reduceEqDiff, Nat.reduceAdd, Nat.reduceLeDiff, Nat.reduceMul, Nat.reduceSub, Int.reduceLE, Int.reduceLT, Int.reduceEq, Int.reduceToNat, Int.reducePow, Int.reduceNeg]
    refine ⟨rfl, ?_⟩
    refine line_used_callK (s := Y) (i := 1) (j := 2) (by simp only [List.length_cons, List.length_nil]; omega) rfl rfl (by decide) ?_
    simp -implicitDefEqProofs only [go_sem, ↓reduceIte, Nat.reduceEqDiff, Nat.reduceAdd, Nat.reduceLeDiff, Nat.reduceMul, Nat.reduceSub, Int.reduceLE, Int.reduceLT, Int.reduceEq, Int.reduceToNat, Int.reducePow, Int.reduceNeg]
    refine hK1 _ ?_; clear hK1
    have hw : IntKind.i64.wrap ((k : Int) + 1) = ((k + 1 : Nat) : Int) := by rw [wrap_i64 (by omega) (by omega)]; rfl
    refine bwp_region rfl ?_
    simp -implicitDefEqProofs only [go_sem, ↓reduceIte, Nat.reduceEqDiff, Nat.reduceAdd, Nat.reduceLeDiff, Nat.reduceMul, Nat.reduceSub, Int.reduceLE, Int.reduceLT, Int.reduceEq, Int.reduceToNat, Int.reducePow, Int.reduceNeg, hw]
    have hnx2 : s ++ (ls.take (k + 1)).flatMap threadL = Y ++ ([125] ++ [10]) := by rw [hnx, ← hY]; simp [threadL]
    rw [hnx2]
    exact ⟨hlt, (Leads.ent [(0, 0), (1, 1), (5, 2)] ⟨by simp [entT, fget, AV.ren, renL, pget, bytesAV, renB, List.append_assoc], by simp [entM, pinv, mget, mset, renL, AV.ren, pget, renL_append, -List.map_map, bytesAV, renB, List.append_assoc], rfl, rfl⟩)⟩
  · have hlt' : ¬ (k : Int) < ls.length := by omega
    have hin : k = ls.length := by omega
    subst hin
    refine bwp_seq fun K hK => bwp_region rfl ?_
    simp -implicitDefEqProofs only [go_sem, ↓reduceIte, Nat.reduceEqDiff, Nat.reduceAdd, Nat.reduceLeDiff, Nat.reduceMul, Nat.reduceSub, Int.reduceLE, Int.reduceLT, Int.reduceEq, Int.reduceToNat, Int.reducePow, Int.reduceNeg, hlt']
    refine hK _ ?_; clear hK
    refine bwp_seq fun K1 hK1 => ?_
    refine bwp_cond false (by simp [ev, fget]) (fun h => nomatch h) (fun _ => ?_)
    rw [List.take_length] at hX
    refine bwp_leads (S' := tsS cs (s ++ ls.flatMap threadL) [(52, .d (.int .i64 ls.length)), (50, .d T), (51, .d (.int .i64 ls.length))]) (Leads.ent [(0, 0), (1, 1), (2, 2)] ⟨by simp [entT, fget, AV.ren, renL, pget, tsS, bytesAV, renB, hX], by simp [entM, pinv, mget, mset, renL, AV.ren, pget, renL_append, -List.map_map, tsS, bytesAV, renB, hX], rfl, rfl⟩) ?_
    exact bwp_exit hQ

/-- A test's numbers are such that its text is short. -/
structure FewT (t : Test) : Prop where
  name : t.name.length ≤ 61
  inits : t.inits.length ≤ 41
  values : ∀ x ∈ t.inits, I64 x.value
  threads : t.threads.length ≤ 7
  ins : ∀ l ∈ t.threads, l.length ≤ 30 ∧ ∀ x ∈ l, I64i x
  rows : FewC t.rows

def headL (t : Test) : List UInt8 := [116, 101, 115, 116, 32] ++ t.name ++ [32, 123] ++ [10]
def initsL (l : List Init) : List UInt8 := if l = [] then [] else [105, 110, 105, 116, 32, 123, 10] ++ l.flatMap initL ++ [125, 10]
def condL (t : Test) : List UInt8 := if condT t.kind t.rows = [] then [] else condT t.kind t.rows ++ [10]
def testT (t : Test) : List UInt8 := if okB t then headL t ++ initsL t.inits ++ t.threads.flatMap threadL ++ condL t ++ [125, 10] else []

end Go.Proofs.YtgfkgngpganllaaDoor
