/- A test's text: its loops. -/
import Derived.Test.YtgfkgngpganllaaDoorB3
import Derived.Test.YtgfkgngpganllaaDoorP5
namespace Go.Proofs.YtgfkgngpganllaaDoor
open Go Go.Jq
set_option maxRecDepth 100000
set_option linter.unusedSimpArgs false

def initL (x : Init) : List UInt8 := locT x.loc ++ [32, 61, 32] ++ Lib.itoa x.value ++ [32, 59] ++ [10]
def insL (x : Ins) : List UInt8 := insT x ++ [10]
def threadL (l : List Ins) : List UInt8 := [116, 104, 114, 101, 97, 100, 32, 123, 10] ++ l.flatMap insL ++ [125, 10]

theorem flat_len {α : Type} (f : α → List UInt8) (k : Nat) : ∀ (l : List α), (∀ x ∈ l, (f x).length ≤ k) → (l.flatMap f).length ≤ l.length * k
  | [], _ => by simp
  | x :: l, h => by
    have h1 := h x (by simp)
    have h2 := flat_len f k l (fun y hy => h y (List.mem_cons_of_mem _ hy))
    simp only [List.flatMap_cons, List.length_append, List.length_cons, Nat.succ_mul]
    omega

theorem flat_take {α : Type} (f : α → List UInt8) {l : List α} {i : Nat} (h : i < l.length) : (l.take (i + 1)).flatMap f = (l.take i).flatMap f ++ f l[i] := by
  rw [List.take_succ_eq_append_getElem h, List.flatMap_append]
  simp

theorem initL_len {x : Init} (h : I64 x.value) : (initL x).length ≤ 30 := by
  have h1 := itoa_len h
  have h4 : (locT x.loc).length ≤ 4 := utf8_len _
  simp only [initL, List.length_append, List.length_cons, List.length_nil]
  omega

theorem insL_len {x : Ins} (h : I64i x) : (insL x).length ≤ 155 := by
  have h1 := insT_len h
  simp only [insL, List.length_append, List.length_cons, List.length_nil]
  omega

theorem renB (π : Nat → Option Nat) (s : List UInt8) : renL π (s.map fun b => AV.d (DV.int IntKind.u8 b.toNat)) = s.map fun b => AV.d (DV.int IntKind.u8 b.toNat) := ren_bytes π s

/-- The state in Test: the test's cells, the text so far. -/
def tsS (cs : List DV) (s : List UInt8) (ex : Fr) : St :=
  ⟨ex ++ [(1, .ptr 0 0), (3, .ptr 1 0), (4, .fn 33 [.ptr 1 0])], [(0, cs.map .d), (1, [.ptr 1 0, .slT 2 5 s.length]), (2, bytesAV s)], 3⟩

set_option maxHeartbeats 2000000 in
theorem ts_inits {cs : List DV} {l : List Init} {D : DV} (hD : IsSl Init.cells l D) (hv : ∀ x ∈ l, I64 x.value) (h41 : l.length ≤ 41) {s : List UInt8} (hs : s.length ≤ 1000000) {Q : Exit → St → Prop}
    (hQ : Q (.exit 0) (tsS cs (s ++ l.flatMap initL) [(31, .d (.int .i64 l.length)), (29, .d D), (30, .d (.int .i64 l.length))])) :
    BWP Tryd.prog (mbound []) 83 (.loop ac11L0) (tsS cs s [(31, .d (.int .i64 (0 : Nat))), (29, .d D), (30, .d (.int .i64 l.length))]) Q := by
  have e0 : s = s ++ (l.take 0).flatMap initL := by simp
  rw [e0]
  refine bwp_count (fun i => tsS cs (s ++ (l.take i).flatMap initL) [(31, .d (.int .i64 i)), (29, .d D), (30, .d (.int .i64 l.length))]) l.length ?_
  intro i hi
  have hbl : ((l.take i).flatMap initL).length ≤ 41 * 30 := by
    have := flat_len initL 30 (l.take i) (fun x hx => initL_len (hv x (List.mem_of_mem_take hx)))
    have h2 : (l.take i).length * 30 ≤ 41 * 30 := Nat.mul_le_mul_right _ (by simp; omega)
    omega
  generalize hX : s ++ (l.take i).flatMap initL = X
  have hXl : X.length ≤ 1010000 := by rw [← hX]; simp only [List.length_append]; omega
  unfold ac11L0 tsS
  simp only [List.cons_append, List.nil_append]
  by_cases hlt : i < l.length
  · have hlt' : (i : Int) < l.length := by omega
    obtain ⟨cs', rest, hXe, hdrop, hcs⟩ := hD.at init_len (by omega) i hlt
    have hva := hv l[i] (List.getElem_mem hlt)
    have hnx : s ++ (l.take (i + 1)).flatMap initL = X ++ initL l[i] := by rw [flat_take initL hlt, ← hX, List.append_assoc]
    generalize l[i] = x at hcs hdrop hva hnx
    have l1 := itoa_len hva
    have l4 : (locT x.loc).length ≤ 4 := utf8_len _
    refine bwp_seq fun K hK => bwp_region rfl ?_
    simp -implicitDefEqProofs only [go_sem, ↓reduceIte, Nat.reduceEqDiff, Nat.reduceAdd, Nat.reduceLeDiff, Nat.reduceMul, Nat.reduceSub, Int.reduceLE, Int.reduceLT, Int.reduceEq, Int.reduceToNat, Int.reducePow, Int.reduceNeg, hlt']
    refine hK _ ?_; clear hK
    refine bwp_seq fun K1 hK1 => ?_
    refine bwp_cond true (by simp [ev, fget]) (fun _ => ?_) (fun h => nomatch h)
    refine bwp_skip ?_
    refine hK1 _ ?_; clear hK1
    refine bwp_seq fun K1 hK1 => ?_
    refine bwp_block ?_
    refine bwp_seq fun K hK => bwp_region rfl ?_
    simp -implicitDefEqProofs only [go_sem, ↓reduceIte, Nat.reduceEqDiff, Nat.reduceAdd, Nat.reduceLeDiff, Nat.reduceMul, Nat.reduceSub, Int.reduceLE, Int.reduceLT, Int.reduceEq, Int.reduceToNat, Int.reducePow, Int.reduceNeg, hXe, hlt', Int.natCast_nonneg, Int.toNat_natCast, hcs, hdrop, Init.cells]
    refine hK _ ?_; clear hK
    refine bwp_region_draw rfl rfl ?_
    have b1 : (locT x.loc).length + 3 ≤ 9223372036854775807 := by omega
    have b2 : (locT x.loc).length + 3 + (Lib.itoa x.value).length ≤ 9223372036854775807 := by omega
    have b3 : (locT x.loc).length + 3 + (Lib.itoa x.value).length + 2 ≤ 9223372036854775807 := by omega
    simp -implicitDefEqProofs only [go_sem, ↓reduceIte, Nat.reduceEqDiff, Nat.reduceAdd, Nat.reduceLeDiff, Nat.reduceMul, Nat.reduceSub, Int.reduceLE, Int.reduceLT, Int.reduceEq, Int.reduceToNat, Int.reducePow, Int.reduceNeg]
    repeat' (first
      | (refine gateK_split (fun hb => ?_) (fun hb => ?_) <;> simp -implicitDefEqProofs only [go_sem, ↓reduceIte, Nat.reduceEqDiff, Nat.reduceAdd, Nat.reduceLeDiff, Nat.reduceMul, Nat.reduceSub, Int.reduceLE, Int.reduceLT, Int.reduceEq, Int.reduceToNat, Int.reducePow, Int.reduceNeg, hb, List.length_append, List.length_cons, List.length_nil, Nat.zero_add, b1, b2, b3])
      | (refine dGateK_split (fun hb => ?_) (fun hb => ?_) <;> simp -implicitDefEqProofs only [go_sem, ↓reduceIte, Nat.reduceEqDiff, Nat.reduceAdd, Nat.reduceLeDiff, Nat.reduceMul, Nat.reduceSub, Int.reduceLE, Int.reduceLT, Int.reduceEq, Int.reduceToNat, Int.reducePow, Int.reduceNeg, hb, List.length_append, List.length_cons, List.length_nil, Nat.zero_add, b1, b2, b3])
      | (refine callK_pure (loc_pure x.loc) rfl rfl ?_; simp -implicitDefEqProofs only [go_sem, ↓reduceIte, Nat.reduceEqDiff, Nat.reduceAdd, Nat.reduceLeDiff, Nat.reduceMul, Nat.reduceSub, Int.reduceLE, Int.reduceLT, Int.reduceEq, Int.reduceToNat, Int.reducePow, Int.reduceNeg, List.length_append, List.length_cons, List.length_nil, Nat.zero_add, b1, b2, b3])
      | (refine dCallK_pure (loc_pure x.loc) rfl rfl ?_; simp -implicitDefEqProofs only [go_sem, ↓reduceIte, Nat.reduceEqDiff, Nat.reduceAdd, Nat.reduceLeDiff, Nat.reduceMul, Nat.reduceSub, Int.reduceLE, Int.reduceLT, Int.reduceEq, Int.reduceToNat, Int.reducePow, Int.reduceNeg, List.length_append, List.length_cons, List.length_nil, Nat.zero_add, b1, b2, b3])
      | (refine callK_pure (text_pure hva) rfl rfl ?_; simp -implicitDefEqProofs only [go_sem, ↓reduceIte, Nat.reduceEqDiff, Nat.reduceAdd, Nat.reduceLeDiff, Nat.reduceMul, Nat.reduceSub, Int.reduceLE, Int.reduceLT, Int.reduceEq, Int.reduceToNat, Int.reducePow, Int.reduceNeg, List.length_append, List.length_cons, List.length_nil, Nat.zero_add, b1, b2, b3])
      | (refine dCallK_pure (text_pure hva) rfl rfl ?_; simp -implicitDefEqProofs only [go_sem, ↓reduceIte, Nat.reduceEqDiff, Nat.reduceAdd, Nat.reduceLeDiff, Nat.reduceMul, Nat.reduceSub, Int.reduceLE, Int.reduceLT, Int.reduceEq, Int.reduceToNat, Int.reducePow, Int.reduceNeg, List.length_append, List.length_cons, List.length_nil, Nat.zero_add, b1, b2, b3]))
    refine ⟨rfl, ?_⟩
    refine line_used_dCallK (s := X) (i := 1) (j := 2) (by simp only [List.length_append, List.length_cons, List.length_nil]; omega) rfl rfl (by decide) ?_
    simp -implicitDefEqProofs only [go_sem, ↓reduceIte, Nat.reduceEqDiff, Nat.reduceAdd, Nat.reduceLeDiff, Nat.reduceMul, Nat.reduceSub, Int.reduceLE, Int.reduceLT, Int.reduceEq, Int.reduceToNat, Int.reducePow, Int.reduceNeg]
    refine ⟨rfl, hK1 _ ?_⟩; clear hK1
    have hw : IntKind.i64.wrap ((i : Int) + 1) = ((i + 1 : Nat) : Int) := by rw [wrap_i64 (by omega) (by omega)]; rfl
    refine bwp_region rfl ?_
    simp -implicitDefEqProofs only [go_sem, ↓reduceIte, Nat.reduceEqDiff, Nat.reduceAdd, Nat.reduceLeDiff, Nat.reduceMul, Nat.reduceSub, Int.reduceLE, Int.reduceLT, Int.reduceEq, Int.reduceToNat, Int.reducePow, Int.reduceNeg, hw]
    rw [hnx]
    exact ⟨hlt, (Leads.ent [(0, 0), (1, 1), (14, 2)] ⟨by simp [entT, fget, AV.ren, renL, pget, hXe, initL, bytesAV, renB, List.append_assoc], by simp [entM, pinv, mget, mset, renL, AV.ren, pget, renL_append, -List.map_map, hXe, initL, bytesAV, renB, List.append_assoc], rfl, rfl⟩)⟩
  · have hlt' : ¬ (i : Int) < l.length := by omega
    have hin : i = l.length := by omega
    subst hin
    refine bwp_seq fun K hK => bwp_region rfl ?_
    simp -implicitDefEqProofs only [go_sem, ↓reduceIte, Nat.reduceEqDiff, Nat.reduceAdd, Nat.reduceLeDiff, Nat.reduceMul, Nat.reduceSub, Int.reduceLE, Int.reduceLT, Int.reduceEq, Int.reduceToNat, Int.reducePow, Int.reduceNeg, hlt']
    refine hK _ ?_; clear hK
    refine bwp_seq fun K1 hK1 => ?_
    refine bwp_cond false (by simp [ev, fget]) (fun h => nomatch h) (fun _ => ?_)
    rw [List.take_length] at hX
    refine bwp_leads (S' := tsS cs (s ++ l.flatMap initL) [(31, .d (.int .i64 l.length)), (29, .d D), (30, .d (.int .i64 l.length))]) (Leads.ent [(0, 0), (1, 1), (2, 2)] ⟨by simp [entT, fget, AV.ren, renL, pget, tsS, bytesAV, renB, hX], by simp [entM, pinv, mget, mset, renL, AV.ren, pget, renL_append, -List.map_map, tsS, bytesAV, renB, hX], rfl, rfl⟩) ?_
    exact bwp_exit hQ

set_option maxHeartbeats 2000000 in
theorem ts_thread {cs : List DV} {l : List Ins} {D T : DV} {n i : Int} (hD : IsSl Ins.cells l D) (hv : ∀ x ∈ l, I64i x) (h30 : l.length ≤ 30) {s : List UInt8} (hs : s.length ≤ 1010000) {Q : Exit → St → Prop}
    (hQ : Q (.exit 4) (tsS cs (s ++ l.flatMap insL) [(60, .d (.int .i64 l.length)), (58, .d D), (59, .d (.int .i64 l.length)), (52, .d (.int .i64 i)), (50, .d T), (51, .d (.int .i64 n))])) :
    BWP Tryd.prog (mbound []) 83 (.loop ac11L1) (tsS cs s [(60, .d (.int .i64 (0 : Nat))), (58, .d D), (59, .d (.int .i64 l.length)), (52, .d (.int .i64 i)), (50, .d T), (51, .d (.int .i64 n))]) Q := by
  have e0 : s = s ++ (l.take 0).flatMap insL := by simp
  rw [e0]
  refine bwp_count (fun k => tsS cs (s ++ (l.take k).flatMap insL) [(60, .d (.int .i64 k)), (58, .d D), (59, .d (.int .i64 l.length)), (52, .d (.int .i64 i)), (50, .d T), (51, .d (.int .i64 n))]) l.length ?_
  intro k hk
  have hbl : ((l.take k).flatMap insL).length ≤ 30 * 155 := by
    have := flat_len insL 155 (l.take k) (fun x hx => insL_len (hv x (List.mem_of_mem_take hx)))
    have h2 : (l.take k).length * 155 ≤ 30 * 155 := Nat.mul_le_mul_right _ (by simp; omega)
    omega
  generalize hX : s ++ (l.take k).flatMap insL = X
  have hXl : X.length ≤ 1020000 := by rw [← hX]; simp only [List.length_append]; omega
  unfold ac11L1 tsS
  simp only [List.cons_append, List.nil_append]
  by_cases hlt : k < l.length
  · have hlt' : (k : Int) < l.length := by omega
    obtain ⟨cs', rest, hXe, hdrop, hcs⟩ := hD.at ins_len (by omega) k hlt
    have hva := hv l[k] (List.getElem_mem hlt)
    have hnx : s ++ (l.take (k + 1)).flatMap insL = X ++ insL l[k] := by rw [flat_take insL hlt, ← hX, List.append_assoc]
    generalize l[k] = x at hcs hdrop hva hnx
    have hil := insT_len hva
    have hip := ins_pure hva
    unfold Ins.cells at hip
    simp only [List.map_cons, List.map_nil] at hip
    refine bwp_seq fun K hK => bwp_region rfl ?_
    simp -implicitDefEqProofs only [go_sem, ↓reduceIte, Nat.reduceEqDiff, Nat.reduceAdd, Nat.reduceLeDiff, Nat.reduceMul, Nat.reduceSub, Int.reduceLE, Int.reduceLT, Int.reduceEq, Int.reduceToNat, Int.reducePow, Int.reduceNeg, hlt']
    refine hK _ ?_; clear hK
    refine bwp_seq fun K1 hK1 => ?_
    refine bwp_cond true (by simp [ev, fget]) (fun _ => ?_) (fun h => nomatch h)
    refine bwp_skip ?_
    refine hK1 _ ?_; clear hK1
    refine bwp_seq fun K1 hK1 => ?_
    refine bwp_block ?_
    refine bwp_seq fun K hK => bwp_region rfl ?_
    simp -implicitDefEqProofs only [go_sem, ↓reduceIte, Nat.reduceEqDiff, Nat.reduceAdd, Nat.reduceLeDiff, Nat.reduceMul, Nat.reduceSub, Int.reduceLE, Int.reduceLT, Int.reduceEq, Int.reduceToNat, Int.reducePow, Int.reduceNeg, hXe, hlt', Int.natCast_nonneg, Int.toNat_natCast, hcs, hdrop, Ins.cells]
    refine hK _ ?_; clear hK
    refine bwp_region rfl ?_
    simp -implicitDefEqProofs only [go_sem, ↓reduceIte, Nat.reduceEqDiff, Nat.reduceAdd, Nat.reduceLeDiff, Nat.reduceMul, Nat.reduceSub, Int.reduceLE, Int.reduceLT, Int.reduceEq, Int.reduceToNat, Int.reducePow, Int.reduceNeg]
    refine callK_pure hip rfl rfl ?_
    simp -implicitDefEqProofs only [go_sem, ↓reduceIte, Nat.reduceEqDiff, Nat.reduceAdd, Nat.reduceLeDiff, Nat.reduceMul, Nat.reduceSub, Int.reduceLE, Int.reduceLT, Int.reduceEq, Int.reduceToNat, Int.reducePow, Int.reduceNeg]
    refine ⟨rfl, ?_⟩
    refine line_used_callK (s := X) (i := 1) (j := 2) (by omega) rfl rfl (by decide) ?_
    simp -implicitDefEqProofs only [go_sem, ↓reduceIte, Nat.reduceEqDiff, Nat.reduceAdd, Nat.reduceLeDiff, Nat.reduceMul, Nat.reduceSub, Int.reduceLE, Int.reduceLT, Int.reduceEq, Int.reduceToNat, Int.reducePow, Int.reduceNeg]
    refine hK1 _ ?_; clear hK1
    have hw : IntKind.i64.wrap ((k : Int) + 1) = ((k + 1 : Nat) : Int) := by rw [wrap_i64 (by omega) (by omega)]; rfl
    refine bwp_region rfl ?_
    simp -implicitDefEqProofs only [go_sem, ↓reduceIte, Nat.reduceEqDiff, Nat.reduceAdd, Nat.reduceLeDiff, Nat.reduceMul, Nat.reduceSub, Int.reduceLE, Int.reduceLT, Int.reduceEq, Int.reduceToNat, Int.reducePow, Int.reduceNeg, hw]
    rw [hnx]
    exact ⟨hlt, (Leads.ent [(0, 0), (1, 1), (6, 2)] ⟨by simp [entT, fget, AV.ren, renL, pget, hXe, insL, bytesAV, renB, List.append_assoc], by simp [entM, pinv, mget, mset, renL, AV.ren, pget, renL_append, -List.map_map, hXe, insL, bytesAV, renB, List.append_assoc], rfl, rfl⟩)⟩
  · have hlt' : ¬ (k : Int) < l.length := by omega
    have hin : k = l.length := by omega
    subst hin
    refine bwp_seq fun K hK => bwp_region rfl ?_
    simp -implicitDefEqProofs only [go_sem, ↓reduceIte, Nat.reduceEqDiff, Nat.reduceAdd, Nat.reduceLeDiff, Nat.reduceMul, Nat.reduceSub, Int.reduceLE, Int.reduceLT, Int.reduceEq, Int.reduceToNat, Int.reducePow, Int.reduceNeg, hlt']
    refine hK _ ?_; clear hK
    refine bwp_seq fun K1 hK1 => ?_
    refine bwp_cond false (by simp [ev, fget]) (fun h => nomatch h) (fun _ => ?_)
    rw [List.take_length] at hX
    refine bwp_leads (S' := tsS cs (s ++ l.flatMap insL) [(60, .d (.int .i64 l.length)), (58, .d D), (59, .d (.int .i64 l.length)), (52, .d (.int .i64 i)), (50, .d T), (51, .d (.int .i64 n))]) (Leads.ent [(0, 0), (1, 1), (2, 2)] ⟨by simp [entT, fget, AV.ren, renL, pget, tsS, bytesAV, renB, hX], by simp [entM, pinv, mget, mset, renL, AV.ren, pget, renL_append, -List.map_map, tsS, bytesAV, renB, hX], rfl, rfl⟩) ?_
    exact bwp_exit hQ

end Go.Proofs.YtgfkgngpganllaaDoor
