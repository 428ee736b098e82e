/- An instruction's text, told without a heap. -/
import Derived.Test.YtgfkgngpganllaaDoorF2
import Derived.Test.YtgfkgngpganllaaDoorP1
namespace Go.Proofs.YtgfkgngpganllaaDoor
open Go Go.Jq
set_option maxRecDepth 100000
set_option linter.unusedSimpArgs false

def locT (n : Int) : List UInt8 := (Utf8.encode (IntKind.i32.wrap n)).data.toList
def regT (n : Int) : List UInt8 := [114] ++ Lib.itoa n
def opT (o : Opnd) : List UInt8 := if o.reg = -1 then Lib.itoa o.value else regT o.reg
def signsT : List (List UInt8) := [[], [43], [45], [42], [38], [124], [94], [60, 60], [62, 62], [61, 61], [33, 61], [60]]
def signT (op : Int) : List UInt8 := if 1 ≤ op ∧ op ≤ 11 then signsT.getD op.toNat [] else []

theorem loc_pure (n : Int) : Pure Tryd.prog 35 [.d (.int .i64 n)] (.d (.str (locT n))) := by
  refine acalls_of Tryd.func35 ac35_ok Tryd.ntmps35 Tryd.results35 rfl ?_
  unfold ac35
  refine bwp_seq fun K hK => bwp_region rfl ?_
  simp -implicitDefEqProofs only [go_sem, ↓reduceIte, Nat.reduceEqDiff, Nat.reduceAdd, Nat.reduceLeDiff, Nat.reduceMul, Nat.reduceSub, Int.reduceLE, Int.reduceLT, Int.reduceEq, Int.reduceToNat, Int.reducePow, Int.reduceNeg]
  refine hK _ ?_; clear hK
  refine bwp_seq fun K hK => bwp_region rfl ?_
  simp -implicitDefEqProofs only [go_sem, ↓reduceIte, Nat.reduceEqDiff, Nat.reduceAdd, Nat.reduceLeDiff, Nat.reduceMul, Nat.reduceSub, Int.reduceLE, Int.reduceLT, Int.reduceEq, Int.reduceToNat, Int.reducePow, Int.reduceNeg]
  refine hK _ ?_; clear hK
  refine bwp_ret ?_
  simp only [go_sem]
  refine aend_ret _ rfl rfl ⟨?_, rfl⟩
  simp [fget, locT]

theorem reg_pure {n : Int} (h : I64 n) : Pure Tryd.prog 39 [.d (.int .i64 n)] (.d (.str (regT n))) := by
  refine acalls_of Tryd.func39 ac39_ok Tryd.ntmps39 Tryd.results39 rfl ?_
  unfold ac39
  refine bwp_seq fun K hK => bwp_region rfl ?_
  simp -implicitDefEqProofs only [go_sem, ↓reduceIte, Nat.reduceEqDiff, Nat.reduceAdd, Nat.reduceLeDiff, Nat.reduceMul, Nat.reduceSub, Int.reduceLE, Int.reduceLT, Int.reduceEq, Int.reduceToNat, Int.reducePow, Int.reduceNeg]
  refine hK _ ?_; clear hK
  refine bwp_seq fun K hK => bwp_region rfl ?_
  simp -implicitDefEqProofs only [go_sem, ↓reduceIte, Nat.reduceEqDiff, Nat.reduceAdd, Nat.reduceLeDiff, Nat.reduceMul, Nat.reduceSub, Int.reduceLE, Int.reduceLT, Int.reduceEq, Int.reduceToNat, Int.reducePow, Int.reduceNeg]
  refine callK_pure (text_pure h) rfl rfl ?_
  have hl := itoa_len h
  have hl2 : 1 + (Lib.itoa n).length ≤ 9223372036854775807 := by omega
  simp -implicitDefEqProofs only [go_sem, ↓reduceIte, Nat.reduceEqDiff, Nat.reduceAdd, Nat.reduceLeDiff, Nat.reduceMul, Nat.reduceSub, Int.reduceLE, Int.reduceLT, Int.reduceEq, Int.reduceToNat, Int.reducePow, Int.reduceNeg, hl2]
  refine hK _ ?_; clear hK
  refine bwp_ret ?_
  simp only [go_sem]
  refine aend_ret _ rfl rfl ⟨?_, rfl⟩
  simp [fget, regT]

theorem operand_pure {o : Opnd} (h : I64 o.value) (h' : I64 o.reg) : Pure Tryd.prog 38 [.agg (o.cells.map .d)] (.d (.str (opT o))) := by
  refine acalls_of Tryd.func38 ac38_ok Tryd.ntmps38 Tryd.results38 rfl ?_
  unfold ac38
  refine bwp_seq fun K hK => bwp_region rfl ?_
  simp -implicitDefEqProofs only [go_sem, ↓reduceIte, Nat.reduceEqDiff, Nat.reduceAdd, Nat.reduceLeDiff, Nat.reduceMul, Nat.reduceSub, Int.reduceLE, Int.reduceLT, Int.reduceEq, Int.reduceToNat, Int.reducePow, Int.reduceNeg, Opnd.cells]
  refine hK _ ?_; clear hK
  refine bwp_seq fun K1 hK1 => ?_
  refine bwp_seq fun K hK => bwp_region rfl ?_
  simp -implicitDefEqProofs only [go_sem, ↓reduceIte, Nat.reduceEqDiff, Nat.reduceAdd, Nat.reduceLeDiff, Nat.reduceMul, Nat.reduceSub, Int.reduceLE, Int.reduceLT, Int.reduceEq, Int.reduceToNat, Int.reducePow, Int.reduceNeg]
  refine hK _ ?_; clear hK
  by_cases h1 : o.reg = -1
  · refine bwp_cond true (by simp [ev, fget, h1]) (fun _ => ?_) (fun h => nomatch h)
    refine bwp_seq fun K hK => bwp_region rfl ?_
    simp -implicitDefEqProofs only [go_sem, ↓reduceIte, Nat.reduceEqDiff, Nat.reduceAdd, Nat.reduceLeDiff, Nat.reduceMul, Nat.reduceSub, Int.reduceLE, Int.reduceLT, Int.reduceEq, Int.reduceToNat, Int.reducePow, Int.reduceNeg]
    refine callK_pure (text_pure h) rfl rfl ?_
    simp -implicitDefEqProofs only [go_sem, ↓reduceIte, Nat.reduceEqDiff, Nat.reduceAdd, Nat.reduceLeDiff, Nat.reduceMul, Nat.reduceSub, Int.reduceLE, Int.reduceLT, Int.reduceEq, Int.reduceToNat, Int.reducePow, Int.reduceNeg]
    refine hK _ ?_; clear hK
    refine bwp_ret ?_
    simp only [go_sem]
    refine aend_ret _ rfl rfl ⟨?_, rfl⟩
    simp [fget, opT, h1]
  · refine bwp_cond false (by simp [ev, fget, h1]) (fun h => nomatch h) (fun _ => ?_)
    refine bwp_skip ?_
    refine hK1 _ ?_; clear hK1
    refine bwp_seq fun K hK => bwp_region rfl ?_
    simp -implicitDefEqProofs only [go_sem, ↓reduceIte, Nat.reduceEqDiff, Nat.reduceAdd, Nat.reduceLeDiff, Nat.reduceMul, Nat.reduceSub, Int.reduceLE, Int.reduceLT, Int.reduceEq, Int.reduceToNat, Int.reducePow, Int.reduceNeg]
    refine callK_pure (reg_pure h') rfl rfl ?_
    simp -implicitDefEqProofs only [go_sem, ↓reduceIte, Nat.reduceEqDiff, Nat.reduceAdd, Nat.reduceLeDiff, Nat.reduceMul, Nat.reduceSub, Int.reduceLE, Int.reduceLT, Int.reduceEq, Int.reduceToNat, Int.reducePow, Int.reduceNeg]
    refine hK _ ?_; clear hK
    refine bwp_ret ?_
    simp only [go_sem]
    refine aend_ret _ rfl rfl ⟨?_, rfl⟩
    simp [fget, opT, h1]

theorem signs_pure : Pure Tryd.prog 67 [] (.agg (signsT.map fun s => .d (.str s))) := by
  refine acalls_of Tryd.func67 ac67_ok Tryd.ntmps67 Tryd.results67 rfl ?_
  unfold ac67
  refine bwp_seq fun K hK => bwp_region rfl ?_
  simp -implicitDefEqProofs only [go_sem, ↓reduceIte, Nat.reduceEqDiff, Nat.reduceAdd, Nat.reduceLeDiff, Nat.reduceMul, Nat.reduceSub, Int.reduceLE, Int.reduceLT, Int.reduceEq, Int.reduceToNat, Int.reducePow, Int.reduceNeg]
  refine hK _ ?_; clear hK
  refine bwp_seq fun K hK => bwp_region rfl ?_
  simp -implicitDefEqProofs only [go_sem, ↓reduceIte, Nat.reduceEqDiff, Nat.reduceAdd, Nat.reduceLeDiff, Nat.reduceMul, Nat.reduceSub, Int.reduceLE, Int.reduceLT, Int.reduceEq, Int.reduceToNat, Int.reducePow, Int.reduceNeg]
  refine hK _ ?_; clear hK
  refine bwp_ret ?_
  simp only [go_sem]
  refine aend_mem (.agg (signsT.map fun s => .d (.str s))) [] [] ?_ rfl rfl trivial ⟨rfl, rfl⟩
  rfl

theorem sign_pure (op : Int) : Pure Tryd.prog 40 [.d (.int .i64 op)] (.d (.str (signT op))) := by
  refine acalls_of Tryd.func40 ac40_ok Tryd.ntmps40 Tryd.results40 rfl ?_
  unfold ac40
  refine bwp_seq fun K hK => bwp_region rfl ?_
  simp -implicitDefEqProofs only [go_sem, ↓reduceIte, Nat.reduceEqDiff, Nat.reduceAdd, Nat.reduceLeDiff, Nat.reduceMul, Nat.reduceSub, Int.reduceLE, Int.reduceLT, Int.reduceEq, Int.reduceToNat, Int.reducePow, Int.reduceNeg]
  refine hK _ ?_; clear hK
  refine bwp_seq fun K1 hK1 => ?_
  by_cases h1 : op < 1
  · refine bwp_seq fun K hK => bwp_region rfl ?_
    simp -implicitDefEqProofs only [go_sem, ↓reduceIte, Nat.reduceEqDiff, Nat.reduceAdd, Nat.reduceLeDiff, Nat.reduceMul, Nat.reduceSub, Int.reduceLE, Int.reduceLT, Int.reduceEq, Int.reduceToNat, Int.reducePow, Int.reduceNeg, h1]
    refine hK _ ?_; clear hK
    refine bwp_cond true (by simp [ev, fget, h1]) (fun _ => ?_) (fun h => nomatch h)
    refine bwp_seq fun K hK => bwp_region rfl ?_
    simp -implicitDefEqProofs only [go_sem, ↓reduceIte, Nat.reduceEqDiff, Nat.reduceAdd, Nat.reduceLeDiff, Nat.reduceMul, Nat.reduceSub, Int.reduceLE, Int.reduceLT, Int.reduceEq, Int.reduceToNat, Int.reducePow, Int.reduceNeg]
    refine hK _ ?_; clear hK
    refine bwp_ret ?_
    simp only [go_sem]
    refine aend_ret _ rfl rfl ⟨?_, rfl⟩
    have : ¬ 1 ≤ op := by omega
    simp [fget, signT, this]
  · by_cases h2 : 11 < op
    · refine bwp_seq fun K hK => bwp_region rfl ?_
      simp -implicitDefEqProofs only [go_sem, ↓reduceIte, Nat.reduceEqDiff, Nat.reduceAdd, Nat.reduceLeDiff, Nat.reduceMul, Nat.reduceSub, Int.reduceLE, Int.reduceLT, Int.reduceEq, Int.reduceToNat, Int.reducePow, Int.reduceNeg, h1, h2]
      refine hK _ ?_; clear hK
      refine bwp_cond true (by simp [ev, fget, h1, h2]) (fun _ => ?_) (fun h => nomatch h)
      refine bwp_seq fun K hK => bwp_region rfl ?_
      simp -implicitDefEqProofs only [go_sem, ↓reduceIte, Nat.reduceEqDiff, Nat.reduceAdd, Nat.reduceLeDiff, Nat.reduceMul, Nat.reduceSub, Int.reduceLE, Int.reduceLT, Int.reduceEq, Int.reduceToNat, Int.reducePow, Int.reduceNeg]
      refine hK _ ?_; clear hK
      refine bwp_ret ?_
      simp only [go_sem]
      refine aend_ret _ rfl rfl ⟨?_, rfl⟩
      have : ¬ op ≤ 11 := by omega
      simp [fget, signT, this]
    · refine bwp_seq fun K hK => bwp_region rfl ?_
      simp -implicitDefEqProofs only [go_sem, ↓reduceIte, Nat.reduceEqDiff, Nat.reduceAdd, Nat.reduceLeDiff, Nat.reduceMul, Nat.reduceSub, Int.reduceLE, Int.reduceLT, Int.reduceEq, Int.reduceToNat, Int.reducePow, Int.reduceNeg, h1, h2]
      refine hK _ ?_; clear hK
      refine bwp_cond false (by simp [ev, fget, h1, h2]) (fun h => nomatch h) (fun _ => ?_)
      refine bwp_skip ?_
      refine hK1 _ ?_; clear hK1
      refine bwp_seq fun K hK => bwp_region rfl ?_
      simp -implicitDefEqProofs only [go_sem, ↓reduceIte, Nat.reduceEqDiff, Nat.reduceAdd, Nat.reduceLeDiff, Nat.reduceMul, Nat.reduceSub, Int.reduceLE, Int.reduceLT, Int.reduceEq, Int.reduceToNat, Int.reducePow, Int.reduceNeg]
      refine callK_pure signs_pure rfl rfl ?_
      simp -implicitDefEqProofs only [go_sem, ↓reduceIte, Nat.reduceEqDiff, Nat.reduceAdd, Nat.reduceLeDiff, Nat.reduceMul, Nat.reduceSub, Int.reduceLE, Int.reduceLT, Int.reduceEq, Int.reduceToNat, Int.reducePow, Int.reduceNeg, signsT]
      refine hK _ ?_; clear hK
      obtain ⟨q, rfl⟩ : ∃ q : Nat, op = q := ⟨op.toNat, by omega⟩
      have hq : (q : Int) < 12 := by omega
      have hq0 : (0 : Int) ≤ q := by omega
      have hq2 : q < 12 := by omega
      have hcell : [AV.d (DV.str []), AV.d (DV.str [43]), AV.d (DV.str [45]), AV.d (DV.str [42]), AV.d (DV.str [38]), AV.d (DV.str [124]), AV.d (DV.str [94]), AV.d (DV.str [60, 60]), AV.d (DV.str [62, 62]), AV.d (DV.str [61, 61]), AV.d (DV.str [33, 61]), AV.d (DV.str [60])][q]? = some (.d (.str (signT q))) := by
        have : q ∈ List.range 12 := by simp [hq2]
        have key : ∀ q ∈ List.range 12, 1 ≤ q → [AV.d (DV.str []), AV.d (DV.str [43]), AV.d (DV.str [45]), AV.d (DV.str [42]), AV.d (DV.str [38]), AV.d (DV.str [124]), AV.d (DV.str [94]), AV.d (DV.str [60, 60]), AV.d (DV.str [62, 62]), AV.d (DV.str [61, 61]), AV.d (DV.str [33, 61]), AV.d (DV.str [60])][q]? = some (.d (.str (signT q))) := by
          intro q hq hq1
          simp only [List.mem_range] at hq
          match q, hq, hq1 with
          | 1, _, _ => rfl | 2, _, _ => rfl | 3, _, _ => rfl | 4, _, _ => rfl | 5, _, _ => rfl | 6, _, _ => rfl | 7, _, _ => rfl | 8, _, _ => rfl | 9, _, _ => rfl | 10, _, _ => rfl | 11, _, _ => rfl
        exact key q this (by omega)
      refine bwp_seq fun K hK => bwp_region rfl ?_
      simp -implicitDefEqProofs only [go_sem, ↓reduceIte, Nat.reduceEqDiff, Nat.reduceAdd, Nat.reduceLeDiff, Nat.reduceMul, Nat.reduceSub, Int.reduceLE, Int.reduceLT, Int.reduceEq, Int.reduceToNat, Int.reducePow, Int.reduceNeg, hq, hq0, hq2, Int.toNat_natCast, Int.natCast_nonneg, List.getElem?_drop, Nat.add_zero, hcell]
      refine hK _ ?_; clear hK
      refine bwp_ret ?_
      simp only [go_sem]
      refine aend_ret _ rfl rfl ⟨?_, rfl⟩
      simp [fget]


/-- What an instruction's text is made of. -/
def partsI (x : Ins) : List (List UInt8) :=
  if x.kind = 1 then [[115, 116, 111, 114, 101], locT x.loc, opT x.a]
  else if x.kind = 2 then [regT x.reg, [61], [108, 111, 97, 100], locT x.loc]
  else if x.kind = 3 then [[102, 101, 110, 99, 101]]
  else if x.kind = 4 then [regT x.reg, [61], [99, 97, 115], locT x.loc, opT x.a, opT x.b]
  else if x.kind = 5 then [regT x.reg, [61], opT x.a] ++ (if 0 < x.op then [signT x.op, opT x.b] else [])
  else [[115, 107, 105, 112], Lib.itoa x.n, [105, 102], opT x.a, [61, 61], opT x.b]

def insT (x : Ins) : List UInt8 := if okInsB x then Lib.join (partsI x ++ [[59]]) [32] else []

/-- An instruction's numbers are numbers of 64 bits. -/
def I64i (x : Ins) : Prop := I64 x.reg ∧ I64 x.a.reg ∧ I64 x.a.value ∧ I64 x.b.reg ∧ I64 x.b.value ∧ I64 x.n

theorem utf8_len (n : Int) : (Utf8.encode n).data.toList.length ≤ 4 := by
  unfold Utf8.encode
  simp only
  repeat' split
  all_goals simp

theorem join_len (sep : List UInt8) : ∀ (l : List (List UInt8)) (k : Nat), (∀ s ∈ l, s.length ≤ k) → (Lib.join l sep).length ≤ l.length * (k + sep.length)
  | [], _, _ => by simp [Lib.join]
  | [s], k, h => by
    have := h s (by simp)
    simp [Lib.join, List.intercalate]
    omega
  | s :: s' :: l, k, h => by
    have h1 := h s (by simp)
    have h2 := join_len sep (s' :: l) k (fun x hx => h x (List.mem_cons_of_mem _ hx))
    have e : Lib.join (s :: s' :: l) sep = s ++ sep ++ Lib.join (s' :: l) sep := by simp [Lib.join, List.intercalate]
    rw [e, List.length_append, List.length_append]
    simp only [List.length_cons] at h2 ⊢
    rw [Nat.succ_mul]
    omega

end Go.Proofs.YtgfkgngpganllaaDoor
