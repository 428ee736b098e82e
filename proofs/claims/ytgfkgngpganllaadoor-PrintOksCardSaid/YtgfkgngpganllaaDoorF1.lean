/- Which parts of a test may be, told without a heap: words, locations, registers, operands. -/
import Derived.Test.YtgfkgngpganllaaDoorT0
import Derived.Test.YtgfkgngpganllaaDoorAc
namespace Go.Proofs.YtgfkgngpganllaaDoor
open Go Go.Jq
set_option maxRecDepth 100000
set_option linter.unusedSimpArgs false

def isLocB (n : Int) : Bool := decide (97 ≤ n) && decide (n ≤ 122)
theorem isLocB_iff (x : Int) : isLocB x = true ↔ 97 ≤ x ∧ x ≤ 122 := by simp [isLocB]
def isRegB (n : Int) : Bool := decide (0 ≤ n) && decide (n < 4)
def isOpB (o : Opnd) : Bool := decide (o.reg = -1) || (isRegB o.reg && decide (o.value = 0))

theorem isLoc_pure (n : Int) : Pure Tryd.prog 30 [.d (.int .i64 n)] (.d (.bool (isLocB n))) := by
  refine acalls_of Tryd.func30 ac30_ok Tryd.ntmps30 Tryd.results30 rfl ?_
  unfold ac30
  refine bwp_seq fun K hK => bwp_region rfl ?_
  simp -implicitDefEqProofs only [go_sem, ↓reduceIte, Nat.reduceEqDiff, Nat.reduceAdd, Nat.reduceLeDiff, Nat.reduceMul, Nat.reduceSub, Int.reduceLE, Int.reduceLT, Int.reduceEq, Int.reduceToNat, Int.reducePow, Int.reduceNeg]
  refine hK _ ?_; clear hK
  by_cases h : 97 ≤ n
  · refine bwp_seq fun K hK => bwp_region rfl ?_
    simp -implicitDefEqProofs only [go_sem, ↓reduceIte, Nat.reduceEqDiff, Nat.reduceAdd, Nat.reduceLeDiff, Nat.reduceMul, Nat.reduceSub, Int.reduceLE, Int.reduceLT, Int.reduceEq, Int.reduceToNat, Int.reducePow, Int.reduceNeg, h]
    refine hK _ ?_; clear hK
    refine bwp_ret ?_
    simp only [go_sem]
    refine aend_ret _ rfl rfl ⟨?_, rfl⟩
    simp [fget, isLocB, h]
  · refine bwp_seq fun K hK => bwp_region rfl ?_
    simp -implicitDefEqProofs only [go_sem, ↓reduceIte, Nat.reduceEqDiff, Nat.reduceAdd, Nat.reduceLeDiff, Nat.reduceMul, Nat.reduceSub, Int.reduceLE, Int.reduceLT, Int.reduceEq, Int.reduceToNat, Int.reducePow, Int.reduceNeg, h]
    refine hK _ ?_; clear hK
    refine bwp_ret ?_
    simp only [go_sem]
    refine aend_ret _ rfl rfl ⟨?_, rfl⟩
    simp [fget, isLocB, h]

theorem isReg_pure (n : Int) : Pure Tryd.prog 74 [.d (.int .i64 n)] (.d (.bool (isRegB n))) := by
  refine acalls_of Tryd.func74 ac74_ok Tryd.ntmps74 Tryd.results74 rfl ?_
  unfold ac74
  refine bwp_seq fun K hK => bwp_region rfl ?_
  simp -implicitDefEqProofs only [go_sem, ↓reduceIte, Nat.reduceEqDiff, Nat.reduceAdd, Nat.reduceLeDiff, Nat.reduceMul, Nat.reduceSub, Int.reduceLE, Int.reduceLT, Int.reduceEq, Int.reduceToNat, Int.reducePow, Int.reduceNeg]
  refine hK _ ?_; clear hK
  by_cases h : 0 ≤ n
  · refine bwp_seq fun K hK => bwp_region rfl ?_
    simp -implicitDefEqProofs only [go_sem, ↓reduceIte, Nat.reduceEqDiff, Nat.reduceAdd, Nat.reduceLeDiff, Nat.reduceMul, Nat.reduceSub, Int.reduceLE, Int.reduceLT, Int.reduceEq, Int.reduceToNat, Int.reducePow, Int.reduceNeg, h]
    refine hK _ ?_; clear hK
    refine bwp_ret ?_
    simp only [go_sem]
    refine aend_ret _ rfl rfl ⟨?_, rfl⟩
    simp [fget, isRegB, h]
  · refine bwp_seq fun K hK => bwp_region rfl ?_
    simp -implicitDefEqProofs only [go_sem, ↓reduceIte, Nat.reduceEqDiff, Nat.reduceAdd, Nat.reduceLeDiff, Nat.reduceMul, Nat.reduceSub, Int.reduceLE, Int.reduceLT, Int.reduceEq, Int.reduceToNat, Int.reducePow, Int.reduceNeg, h]
    refine hK _ ?_; clear hK
    refine bwp_ret ?_
    simp only [go_sem]
    refine aend_ret _ rfl rfl ⟨?_, rfl⟩
    simp [fget, isRegB, h]

theorem isOp_pure (o : Opnd) : Pure Tryd.prog 73 [.agg (o.cells.map .d)] (.d (.bool (isOpB o))) := by
  refine acalls_of Tryd.func73 ac73_ok Tryd.ntmps73 Tryd.results73 rfl ?_
  unfold ac73
  refine bwp_seq fun K hK => bwp_region rfl ?_
  simp -implicitDefEqProofs only [go_sem, ↓reduceIte, Nat.reduceEqDiff, Nat.reduceAdd, Nat.reduceLeDiff, Nat.reduceMul, Nat.reduceSub, Int.reduceLE, Int.reduceLT, Int.reduceEq, Int.reduceToNat, Int.reducePow, Int.reduceNeg, Opnd.cells]
  refine hK _ ?_; clear hK
  by_cases h : o.reg = -1
  · refine bwp_seq fun K hK => bwp_region rfl ?_
    simp -implicitDefEqProofs only [go_sem, ↓reduceIte, Nat.reduceEqDiff, Nat.reduceAdd, Nat.reduceLeDiff, Nat.reduceMul, Nat.reduceSub, Int.reduceLE, Int.reduceLT, Int.reduceEq, Int.reduceToNat, Int.reducePow, Int.reduceNeg, h]
    refine hK _ ?_; clear hK
    refine bwp_ret ?_
    simp only [go_sem]
    refine aend_ret _ rfl rfl ⟨?_, rfl⟩
    simp [fget, isOpB, h]
  · refine bwp_seq fun K hK => bwp_region rfl ?_
    simp -implicitDefEqProofs only [go_sem, ↓reduceIte, Nat.reduceEqDiff, Nat.reduceAdd, Nat.reduceLeDiff, Nat.reduceMul, Nat.reduceSub, Int.reduceLE, Int.reduceLT, Int.reduceEq, Int.reduceToNat, Int.reducePow, Int.reduceNeg, h]
    refine callK_pure (isReg_pure o.reg) rfl rfl ?_
    cases h2 : isRegB o.reg
    · simp -implicitDefEqProofs only [go_sem, ↓reduceIte, Nat.reduceEqDiff, Nat.reduceAdd, Nat.reduceLeDiff, Nat.reduceMul, Nat.reduceSub, Int.reduceLE, Int.reduceLT, Int.reduceEq, Int.reduceToNat, Int.reducePow, Int.reduceNeg]
      refine hK _ ?_; clear hK
      refine bwp_ret ?_
      simp only [go_sem]
      refine aend_ret _ rfl rfl ⟨?_, rfl⟩
      simp [fget, isOpB, h, h2]
    · simp -implicitDefEqProofs only [go_sem, ↓reduceIte, Nat.reduceEqDiff, Nat.reduceAdd, Nat.reduceLeDiff, Nat.reduceMul, Nat.reduceSub, Int.reduceLE, Int.reduceLT, Int.reduceEq, Int.reduceToNat, Int.reducePow, Int.reduceNeg]
      refine hK _ ?_; clear hK
      refine bwp_ret ?_
      simp only [go_sem]
      refine aend_ret _ rfl rfl ⟨?_, rfl⟩
      simp [fget, isOpB, h, h2]

def wordAt (i : Nat) (c : UInt8) : Bool := (decide (97 ≤ c.toNat) && decide (c.toNat ≤ 122)) || (decide (i ≠ 0) && decide (48 ≤ c.toNat) && decide (c.toNat ≤ 57))
def isWordB (s : List UInt8) : Bool := (List.range s.length).all (fun i => wordAt i (s.getD i 0)) && decide (s ≠ [])

theorem isWord_at (s : List UInt8) {i : Nat} (hi : i < s.length) (h : wordAt i (s.getD i 0) = false) : isWordB s = false := by
  have : (List.range s.length).all (fun i => wordAt i (s.getD i 0)) = false := by
    rw [List.all_eq_false]
    exact ⟨i, List.mem_range.2 hi, by rw [h]; decide⟩
  unfold isWordB
  rw [this]
  rfl

theorem isWord_all (s : List UInt8) (h : ∀ i, i < s.length → wordAt i (s.getD i 0) = true) : isWordB s = decide (s ≠ []) := by
  have : (List.range s.length).all (fun i => wordAt i (s.getD i 0)) = true := by
    rw [List.all_eq_true]
    exact fun i hi => h i (List.mem_range.1 hi)
  unfold isWordB
  rw [this]
  rfl

def wdS (s : List UInt8) (i : Nat) : St := ⟨[(7, .d (.int .i64 i)), (6, .d (.int .i64 s.length)), (0, .d (.str s)), (2, .d (.bool false))], [], 0⟩

theorem isWord_pure (s : List UInt8) (hs : s.length ≤ 9223372036854775807) : Pure Tryd.prog 27 [.d (.str s)] (.d (.bool (isWordB s))) := by
  refine acalls_of Tryd.func27 ac27_ok Tryd.ntmps27 Tryd.results27 rfl ?_
  unfold ac27
  refine bwp_seq fun K hK => bwp_region rfl ?_
  simp -implicitDefEqProofs only [go_sem, ↓reduceIte, Nat.reduceEqDiff, Nat.reduceAdd, Nat.reduceLeDiff, Nat.reduceMul, Nat.reduceSub, Int.reduceLE, Int.reduceLT, Int.reduceEq, Int.reduceToNat, Int.reducePow, Int.reduceNeg]
  refine hK _ ?_; clear hK
  refine bwp_seq fun K1 hK1 => ?_
  refine bwp_seq fun K2 hK2 => ?_
  refine bwp_region rfl ?_
  simp -implicitDefEqProofs only [go_sem, ↓reduceIte, Nat.reduceEqDiff, Nat.reduceAdd, Nat.reduceLeDiff, Nat.reduceMul, Nat.reduceSub, Int.reduceLE, Int.reduceLT, Int.reduceEq, Int.reduceToNat, Int.reducePow, Int.reduceNeg]
  refine hK2 _ ?_; clear hK2
  refine bwp_block ?_
  refine bwp_leads (S' := wdS s 0) (Leads.ent [] ⟨by simp [entT, fget, AV.ren, renL, pget, wdS], by simp [entM, pinv, mget, mset, renL, AV.ren, pget, renL_append, -List.map_map, wdS], rfl, rfl⟩) ?_
  refine bwp_countI (fun i => wdS s i) (fun i => ∀ j, j < i → wordAt j (s.getD j 0) = true) s.length (fun j h => by omega) ?_
  intro i hi hp
  unfold ac27L0 wdS
  by_cases hlt : i < s.length
  · have hlt' : (i : Int) < s.length := by omega
    refine bwp_seq fun K hK => bwp_region rfl ?_
    simp -implicitDefEqProofs only [go_sem, ↓reduceIte, Nat.reduceEqDiff, Nat.reduceAdd, Nat.reduceLeDiff, Nat.reduceMul, Nat.reduceSub, Int.reduceLE, Int.reduceLT, Int.reduceEq, Int.reduceToNat, Int.reducePow, Int.reduceNeg, hlt']
    refine hK _ ?_; clear hK
    refine bwp_seq fun K2 hK2 => ?_
    refine bwp_cond true (by simp [ev, fget]) (fun _ => ?_) (fun h => nomatch h)
    refine bwp_skip ?_
    refine hK2 _ ?_; clear hK2
    refine bwp_seq fun K2 hK2 => ?_
    refine bwp_block ?_
    refine bwp_seq fun K hK => bwp_region rfl ?_
    simp -implicitDefEqProofs only [go_sem, ↓reduceIte, Nat.reduceEqDiff, Nat.reduceAdd, Nat.reduceLeDiff, Nat.reduceMul, Nat.reduceSub, Int.reduceLE, Int.reduceLT, Int.reduceEq, Int.reduceToNat, Int.reducePow, Int.reduceNeg]
    refine hK _ ?_; clear hK
    refine bwp_seq fun K hK => bwp_region rfl ?_
    simp -implicitDefEqProofs only [go_sem, ↓reduceIte, Nat.reduceEqDiff, Nat.reduceAdd, Nat.reduceLeDiff, Nat.reduceMul, Nat.reduceSub, Int.reduceLE, Int.reduceLT, Int.reduceEq, Int.reduceToNat, Int.reducePow, Int.reduceNeg, Int.natCast_nonneg, hlt', Int.toNat_natCast]
    refine hK _ ?_; clear hK
    have hc := (s.getD i 0).toNat_lt
    generalize hcd : s.getD i 0 = c at hc
    refine bwp_seq fun K3 hK3 => ?_
    have bad : ∀ t : Fr, fget t 30 = .d (.bool true) → wordAt i c = false → K3 ⟨t, [], 0⟩ := by
      intro t h30 hw
      refine hK3 _ ?_; clear hK3
      refine bwp_cond true (by simp [ev, fget, h30]) (fun _ => ?_) (fun h => nomatch h)
      refine bwp_seq fun K hK => bwp_region rfl ?_
      simp -implicitDefEqProofs only [go_sem, ↓reduceIte, Nat.reduceEqDiff, Nat.reduceAdd, Nat.reduceLeDiff, Nat.reduceMul, Nat.reduceSub, Int.reduceLE, Int.reduceLT, Int.reduceEq, Int.reduceToNat, Int.reducePow, Int.reduceNeg]
      refine hK _ ?_; clear hK
      refine bwp_ret ?_
      simp only [go_sem]
      refine aend_ret _ rfl rfl ⟨?_, rfl⟩
      simp [fget, isWord_at s hlt (by rw [hcd]; exact hw)]
    have good : ∀ t : Fr, fget t 30 = .d (.bool false) → fget t 0 = .d (.str s) → fget t 6 = .d (.int .i64 s.length) → fget t 7 = .d (.int .i64 i) → fget t 2 = .d (.bool false) → wordAt i c = true → K3 ⟨t, [], 0⟩ := by
      intro t h30 h0 h6 h7 h2 hw
      refine hK3 _ ?_; clear hK3
      refine bwp_cond false (by simp [ev, fget, h30]) (fun h => nomatch h) (fun _ => ?_)
      refine bwp_skip ?_
      simp -implicitDefEqProofs only [go_sem, ↓reduceIte, Nat.reduceEqDiff, Nat.reduceAdd, Nat.reduceLeDiff, Nat.reduceMul, Nat.reduceSub, Int.reduceLE, Int.reduceLT, Int.reduceEq, Int.reduceToNat, Int.reducePow, Int.reduceNeg]
      refine hK2 _ ?_; clear hK2
      have hwi : IntKind.i64.wrap ((i : Int) + 1) = ((i + 1 : Nat) : Int) := by rw [wrap_i64 (by omega) (by omega)]; rfl
      refine bwp_region rfl ?_
      simp -implicitDefEqProofs only [go_sem, ↓reduceIte, Nat.reduceEqDiff, Nat.reduceAdd, Nat.reduceLeDiff, Nat.reduceMul, Nat.reduceSub, Int.reduceLE, Int.reduceLT, Int.reduceEq, Int.reduceToNat, Int.reducePow, Int.reduceNeg, h7, hwi]
      refine ⟨hlt, fun j hj => ?_, Leads.ent [] ⟨by simp [wdS, entT, fget, AV.ren, pget, h0, h6, h7, h2], by simp [wdS, entM], rfl, rfl⟩⟩
      by_cases hji : j = i
      · subst hji; rw [hcd]; exact hw
      · exact hp j (by omega)
    have hz : ((i : Int) = 0) = (i = 0) := by apply propext; omega
    by_cases h1 : (c.toNat : Int) < 97
    · by_cases h2 : i = 0
      · have h2' : ((i : Nat) : Int) = 0 := by omega
        refine bwp_region rfl ?_
        simp -implicitDefEqProofs only [go_sem, ↓reduceIte, Nat.reduceEqDiff, Nat.reduceAdd, Nat.reduceLeDiff, Nat.reduceMul, Nat.reduceSub, Int.reduceLE, Int.reduceLT, Int.reduceEq, Int.reduceToNat, Int.reducePow, Int.reduceNeg, h1, h2']
        exact bad _ rfl (by unfold wordAt; have : ¬ 97 ≤ c.toNat := by omega
                            simp [h2, this])
      · have h2' : ¬ ((i : Nat) : Int) = 0 := by omega
        by_cases h3 : (c.toNat : Int) < 48
        · refine bwp_region rfl ?_
          simp -implicitDefEqProofs only [go_sem, ↓reduceIte, Nat.reduceEqDiff, Nat.reduceAdd, Nat.reduceLeDiff, Nat.reduceMul, Nat.reduceSub, Int.reduceLE, Int.reduceLT, Int.reduceEq, Int.reduceToNat, Int.reducePow, Int.reduceNeg, h1, h2', h3]
          exact bad _ rfl (by unfold wordAt; have e1 : ¬ 97 ≤ c.toNat := by omega
                              have e2 : ¬ 48 ≤ c.toNat := by omega
                              simp [e1, e2])
        · by_cases h4 : (57 : Int) < c.toNat
          · refine bwp_region rfl ?_
            simp -implicitDefEqProofs only [go_sem, ↓reduceIte, Nat.reduceEqDiff, Nat.reduceAdd, Nat.reduceLeDiff, Nat.reduceMul, Nat.reduceSub, Int.reduceLE, Int.reduceLT, Int.reduceEq, Int.reduceToNat, Int.reducePow, Int.reduceNeg, h1, h2', h3, h4]
            exact bad _ rfl (by unfold wordAt; have e1 : ¬ 97 ≤ c.toNat := by omega
                                have e2 : ¬ c.toNat ≤ 57 := by omega
                                simp [e1, e2])
          · refine bwp_region rfl ?_
            simp -implicitDefEqProofs only [go_sem, ↓reduceIte, Nat.reduceEqDiff, Nat.reduceAdd, Nat.reduceLeDiff, Nat.reduceMul, Nat.reduceSub, Int.reduceLE, Int.reduceLT, Int.reduceEq, Int.reduceToNat, Int.reducePow, Int.reduceNeg, h1, h2', h3, h4]
            exact good _ rfl rfl rfl rfl rfl (by unfold wordAt; have e1 : 48 ≤ c.toNat := by omega
                                                 have e2 : c.toNat ≤ 57 := by omega
                                                 simp [e1, e2, h2])
    · by_cases h5 : (122 : Int) < c.toNat
      · by_cases h2 : i = 0
        · have h2' : ((i : Nat) : Int) = 0 := by omega
          refine bwp_region rfl ?_
          simp -implicitDefEqProofs only [go_sem, ↓reduceIte, Nat.reduceEqDiff, Nat.reduceAdd, Nat.reduceLeDiff, Nat.reduceMul, Nat.reduceSub, Int.reduceLE, Int.reduceLT, Int.reduceEq, Int.reduceToNat, Int.reducePow, Int.reduceNeg, h1, h5, h2']
          exact bad _ rfl (by unfold wordAt; have : ¬ c.toNat ≤ 122 := by omega
                              simp [h2, this])
        · have h2' : ¬ ((i : Nat) : Int) = 0 := by omega
          have h3 : ¬ (c.toNat : Int) < 48 := by omega
          have h4 : (57 : Int) < c.toNat := by omega
          refine bwp_region rfl ?_
          simp -implicitDefEqProofs only [go_sem, ↓reduceIte, Nat.reduceEqDiff, Nat.reduceAdd, Nat.reduceLeDiff, Nat.reduceMul, Nat.reduceSub, Int.reduceLE, Int.reduceLT, Int.reduceEq, Int.reduceToNat, Int.reducePow, Int.reduceNeg, h1, h5, h2', h3, h4]
          exact bad _ rfl (by unfold wordAt; have e1 : ¬ c.toNat ≤ 122 := by omega
                              have e2 : ¬ c.toNat ≤ 57 := by omega
                              simp [e1, e2])
      · refine bwp_region rfl ?_
        simp -implicitDefEqProofs only [go_sem, ↓reduceIte, Nat.reduceEqDiff, Nat.reduceAdd, Nat.reduceLeDiff, Nat.reduceMul, Nat.reduceSub, Int.reduceLE, Int.reduceLT, Int.reduceEq, Int.reduceToNat, Int.reducePow, Int.reduceNeg, h1, h5]
        exact good _ rfl rfl rfl rfl rfl (by unfold wordAt; have e1 : 97 ≤ c.toNat := by omega
                                             have e2 : c.toNat ≤ 122 := by omega
                                             simp [e1, e2])
  · have hlt' : ¬ (i : Int) < s.length := by omega
    refine bwp_seq fun K hK => bwp_region rfl ?_
    simp -implicitDefEqProofs only [go_sem, ↓reduceIte, Nat.reduceEqDiff, Nat.reduceAdd, Nat.reduceLeDiff, Nat.reduceMul, Nat.reduceSub, Int.reduceLE, Int.reduceLT, Int.reduceEq, Int.reduceToNat, Int.reducePow, Int.reduceNeg, hlt']
    refine hK _ ?_; clear hK
    refine bwp_seq fun K2 hK2 => ?_
    refine bwp_cond false (by simp [ev, fget]) (fun h => nomatch h) (fun _ => ?_)
    refine bwp_exit ?_
    simp -implicitDefEqProofs only [go_sem, ↓reduceIte, Nat.reduceEqDiff, Nat.reduceAdd, Nat.reduceLeDiff, Nat.reduceMul, Nat.reduceSub, Int.reduceLE, Int.reduceLT, Int.reduceEq, Int.reduceToNat, Int.reducePow, Int.reduceNeg]
    refine hK1 _ ?_; clear hK1
    have hall := isWord_all s fun j hj => hp j (by omega)
    refine bwp_seq fun K hK => bwp_region rfl ?_
    simp -implicitDefEqProofs only [go_sem, ↓reduceIte, Nat.reduceEqDiff, Nat.reduceAdd, Nat.reduceLeDiff, Nat.reduceMul, Nat.reduceSub, Int.reduceLE, Int.reduceLT, Int.reduceEq, Int.reduceToNat, Int.reducePow, Int.reduceNeg]
    refine hK _ ?_; clear hK
    refine bwp_ret ?_
    simp only [go_sem]
    refine aend_ret _ rfl rfl ⟨?_, rfl⟩
    simp [fget, hall]

end Go.Proofs.YtgfkgngpganllaaDoor
