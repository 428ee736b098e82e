/- LexLongest comes to true. -/
import Derived.Test.YtpfbljkfbjjlkaaDoorL7
import Derived.Test.YtpfbljkfbjjlkaaDoorL20
namespace Go.Proofs.YtpfbljkfbjjlkaaDoor
open Go Go.Jq
set_option maxRecDepth 100000
set_option linter.unusedSimpArgs false

def four4 : List UInt8 := [60, 61, 43, 38]
def sg4 (x : Int) : UInt8 := four4.getD (bits .and .i64 x 3).toNat 0
theorem sg4_four (x : Int) : four (sg4 x) := by
  obtain ⟨q1, q2⟩ := and_mask x 3 (by decide)
  have e3 : ((3 : Nat) : Int) = 3 := rfl
  rw [e3] at q1 q2
  unfold sg4
  have : ∀ q : Fin 4, four (four4.getD q.1 0) := by unfold four; decide
  exact this ⟨(bits .and .i64 x 3).toNat, by omega⟩

/-- The row of signs that numbers stand for. -/
def rowS (l : List Int) : List UInt8 := (l.take 30).map sg4

theorem rowS_len (l : List Int) : (rowS l).length ≤ 30 := by
  simp only [rowS, List.length_map, List.length_take]
  omega

theorem rowS_four (l : List Int) : ∀ c ∈ rowS l, four c := by
  intro c hc
  obtain ⟨x, _, rfl⟩ := List.mem_map.1 hc
  exact sg4_four x

def llS (X : DV) (s : List UInt8) (i : Nat) : St := ⟨[(4, .d (.int .i64 i)), (3, .d (.str s)), (0, .d X)], [], 0⟩

set_option maxHeartbeats 4000000 in
theorem ll_loop0 {l : List Int} {X : DV} (hX : IsInts l X) {Q : Exit → St → Prop} (hQ : ∀ i, Q (.exit 0) (llS X (rowS l) i)) :
    BWP Tryd.prog (mbound []) 111 (.loop ac4L0) (llS X [] 0) Q := by
  have hbig := hX.sl.big
  have hsl := hX.sl
  refine bwp_count (fun i => llS X ((l.take i).map sg4) i) (min l.length 30) ?_
  intro i hi
  unfold ac4L0 llS
  by_cases hlt : i < min l.length 30
  · have h1 : (i : Int) < l.length := by omega
    have h2 : (i : Int) < 30 := by omega
    have hw : IntKind.i64.wrap ((i : Int) + 1) = ((i + 1 : Nat) : Int) := by rw [wrap_i64 (by omega) (by omega)]; rfl
    obtain ⟨cs, hXe, hcs, hld⟩ := hsl.get i (by omega)
    have hlt2 : i < l.length := by omega
    have hel : (l.map (DV.int .i64))[i]? = some (.int .i64 l[i]) := by simp [hlt2]
    simp only [eltD, hel, Nat.mul_one] at hld hcs
    obtain ⟨q, hq3, hq⟩ := bits_and_le l[i] 3 (by omega)
    have e3 : ((3 : Nat) : Int) = 3 := rfl
    rw [e3] at hq
    have hsg : sg4 l[i] = four4.getD q 0 := by unfold sg4; rw [hq, Int.toNat_natCast]
    have hnx : (l.take (i + 1)).map sg4 = (l.take i).map sg4 ++ [sg4 l[i]] := by rw [take_snoc l i hlt2, List.map_append]; rfl
    have hll : ((l.take i).map sg4).length ≤ 30 := by rw [List.length_map, List.length_take]; omega
    generalize (l.take i).map sg4 = s at hnx hll ⊢
    have hb : s.length + 1 ≤ 9223372036854775807 := by omega
    have hq4 : q = 0 ∨ q = 1 ∨ q = 2 ∨ q = 3 := by omega
    rcases hq4 with rfl | rfl | rfl | rfl
    all_goals
      simp only [four4, List.getD_cons_zero, List.getD_cons_succ] at hsg
      rw [hsg] at hnx
      have hq' := hq
      simp only [Int.cast_ofNat_Int] at hq'
      refine bwp_seq fun K1 hK1 => ?_
      refine bwp_seq fun K hK => bwp_region rfl ?_
      simp -implicitDefEqProofs only [go_sem, ↓reduceIte, Nat.reduceEqDiff, Nat.reduceAdd, Nat.reduceLeDiff, Nat.reduceMul, Nat.reduceSub, Int.reduceLE, Int.reduceLT, Int.reduceEq, Int.reduceToNat, Int.reducePow, Int.reduceNeg, hsl.len, h1, h2]
      refine hK _ ?_; clear hK
      refine bwp_cond true (by simp [ev, fget]) (fun _ => ?_) (fun h => nomatch h)
      refine bwp_skip ?_
      refine hK1 _ ?_; clear hK1
      refine bwp_seq fun K1 hK1 => ?_
      refine bwp_block ?_
      refine bwp_region rfl ?_
      simp -implicitDefEqProofs only [go_sem, ↓reduceIte, Nat.reduceEqDiff, Nat.reduceAdd, Nat.reduceLeDiff, Nat.reduceMul, Nat.reduceSub, Int.reduceLE, Int.reduceLT, Int.reduceEq, Int.reduceToNat, Int.reducePow, Int.reduceNeg, hXe, h1, Int.toNat_natCast, Int.natCast_nonneg, hcs, hld, hq', hb]
      refine hK1 _ ?_; clear hK1
      refine bwp_region rfl ?_
      simp -implicitDefEqProofs only [go_sem, ↓reduceIte, Nat.reduceEqDiff, Nat.reduceAdd, Nat.reduceLeDiff, Nat.reduceMul, Nat.reduceSub, Int.reduceLE, Int.reduceLT, Int.reduceEq, Int.reduceToNat, Int.reducePow, Int.reduceNeg, hw]
      exact ⟨hlt, (Leads.ent [] ⟨by simp [entT, fget, AV.ren, renL, pget, hXe, hnx], by simp [entM, pinv, mget, mset, renL, AV.ren, pget, renL_append, -List.map_map, hXe, hnx], rfl, rfl⟩)⟩
  · have he : i = min l.length 30 := by omega
    have hfin : (l.take i).map sg4 = rowS l := by
      unfold rowS
      rw [he]
      rcases Nat.le_total l.length 30 with h | h
      · rw [Nat.min_eq_left h, List.take_of_length_le (Nat.le_refl _), List.take_of_length_le h]
      · rw [Nat.min_eq_right h]
    refine bwp_seq fun K1 hK1 => ?_
    by_cases h1 : (i : Int) < l.length
    · have h2 : ¬ (i : Int) < 30 := by omega
      refine bwp_seq fun K hK => bwp_region rfl ?_
      simp -implicitDefEqProofs only [go_sem, ↓reduceIte, Nat.reduceEqDiff, Nat.reduceAdd, Nat.reduceLeDiff, Nat.reduceMul, Nat.reduceSub, Int.reduceLE, Int.reduceLT, Int.reduceEq, Int.reduceToNat, Int.reducePow, Int.reduceNeg, hsl.len, h1, h2]
      refine hK _ ?_; clear hK
      refine bwp_cond false (by simp [ev, fget]) (fun h => nomatch h) (fun _ => ?_)
      refine bwp_leads (S' := llS X (rowS l) i) (Leads.ent [] ⟨by simp [entT, fget, AV.ren, renL, pget, llS, hfin], by simp [entM, pinv, mget, mset, renL, AV.ren, pget, renL_append, -List.map_map, llS, hfin], rfl, rfl⟩) ?_
      exact bwp_exit (hQ i)
    · refine bwp_seq fun K hK => bwp_region rfl ?_
      simp -implicitDefEqProofs only [go_sem, ↓reduceIte, Nat.reduceEqDiff, Nat.reduceAdd, Nat.reduceLeDiff, Nat.reduceMul, Nat.reduceSub, Int.reduceLE, Int.reduceLT, Int.reduceEq, Int.reduceToNat, Int.reducePow, Int.reduceNeg, hsl.len, h1]
      refine hK _ ?_; clear hK
      refine bwp_cond false (by simp [ev, fget]) (fun h => nomatch h) (fun _ => ?_)
      refine bwp_leads (S' := llS X (rowS l) i) (Leads.ent [] ⟨by simp [entT, fget, AV.ren, renL, pget, llS, hfin], by simp [entM, pinv, mget, mset, renL, AV.ren, pget, renL_append, -List.map_map, llS, hfin], rfl, rfl⟩) ?_
      exact bwp_exit (hQ i)

theorem dbl_take {s : List UInt8} (h : ∀ c ∈ s, four c) {a : Nat} (ha : a < s.length) : dbl (s.drop a) = if a + 1 < s.length ∧ ((s.drop a).take 2 = [60, 60] ∨ (s.drop a).take 2 = [61, 61]) then 2 else 1 := by
  have hd := drop_at ha
  by_cases h1 : a + 1 < s.length
  · have hd2 := drop_at h1
    rw [hd, hd2]
    generalize s.getD a 0 = c
    generalize s.getD (a + 1) 0 = d
    generalize s.drop (a + 1 + 1) = r
    simp only [List.take_succ_cons, List.take_zero, List.cons.injEq, and_true, h1, true_and]
    unfold dbl
    split
    · rename_i he; simp only [List.cons.injEq] at he; rw [if_pos (.inl ⟨he.1, he.2.1⟩)]
    · rename_i he; simp only [List.cons.injEq] at he; rw [if_pos (.inr ⟨he.1, he.2.1⟩)]
    · rename_i n1 n2
      rw [if_neg]
      rintro (⟨rfl, rfl⟩ | ⟨rfl, rfl⟩)
      · exact n1 r rfl
      · exact n2 r rfl
  · rw [if_neg (fun hh => h1 hh.1), hd]
    have : s.drop (a + 1) = [] := List.drop_eq_nil_of_le (by omega)
    rw [this]
    unfold dbl
    split
    · rename_i he; simp at he
    · rename_i he; simp at he
    · rfl

def llT (X : DV) (s : List UInt8) (a i : Nat) (ex : Fr) : St := ⟨ex ++ [(8, .d (.int .i64 i)), (7, .d (.int .i64 a)), (5, .d X), (6, .ptr 0 0), (3, .d (.str s))], [(0, [.d (.int .i64 0), .d (.int .i64 0)])], 1⟩

set_option maxHeartbeats 16000000 in
theorem ll_loop1 {s : List UInt8} (hs : s.length ≤ 30) (hf : ∀ c ∈ s, four c) {l : List Tok} {X : DV} (hX : IsSl Tok.cells l X) (hl : l.length ≤ 4001) (hT : TL s 0 l) {Q : Exit → St → Prop} (hQ : ∀ i, Q (.exit 2) (llT X s s.length i [])) :
    BWP Tryd.prog (mbound []) 111 (.loop ac4L1) (llT X s 0 0 []) Q := by
  refine bwp_fam (ι := { p : Nat × Nat // p.1 ≤ s.length ∧ TL s p.1 (l.drop p.2) }) (fun p => llT X s p.1.1 p.1.2 []) (fun p => l.length - p.1.2) ⟨(0, 0), Nat.zero_le _, hT⟩ ?_
  rintro ⟨⟨a, i⟩, ha, hTL⟩
  simp only at ha hTL ⊢
  unfold ac4L1 llT
  have hlen := hX.len
  have hil : i < l.length := by
    rcases Nat.lt_or_ge i l.length with h | h
    · exact h
    · rw [List.drop_eq_nil_of_le h] at hTL; exact hTL.elim
  have hw : IntKind.i64.wrap ((i : Int) + 1) = ((i + 1 : Nat) : Int) := by rw [wrap_i64 (by omega) (by omega)]; rfl
  have hw1 : IntKind.i64.wrap ((a : Int) + 1) = ((a + 1 : Nat) : Int) := by rw [wrap_i64 (by omega) (by omega)]; rfl
  have hw2 : IntKind.i64.wrap ((a : Int) + 2) = ((a + 2 : Nat) : Int) := by rw [wrap_i64 (by omega) (by omega)]; rfl
  by_cases hlt : i + 1 < l.length
  · have hlt' : ((i + 1 : Nat) : Int) < l.length := by omega
    have hi' : (i : Int) < l.length := by omega
    have hal : a < s.length := by
      rcases Nat.lt_or_ge a s.length with h | h
      · exact h
      · have he : a = s.length := by omega
        subst he
        have hn : nextW s s.length = (⟨4, [], s.length⟩, s.length, 0) := by
          have hs0 : skipA s s.length = s.length := by unfold skipA; rw [List.drop_length]; rfl
          unfold nextW
          rw [hs0, List.drop_length]
          rfl
        obtain ⟨u, hu⟩ : ∃ u, l.drop i = l[i] :: u := ⟨_, List.drop_eq_getElem_cons hil⟩
        rw [hu] at hTL
        obtain ⟨e, he, hr⟩ := hTL
        rw [hn] at he
        have hk : l[i].kd = 4 := by have := congrArg (fun p => p.1.kd) he; exact this.symm
        rw [if_pos hk] at hr
        have := congrArg List.length hu
        rw [hr, List.length_drop] at this
        simp at this
        omega
    have hnx := four_next hf hal
    have hdb := dbl_take hf hal
    have hto := nextW_to ha
    rw [hnx] at hto
    have hdp := dbl_pos (s.drop a)
    obtain ⟨htk, hTL'⟩ : l[i] = ⟨3, (s.drop a).take (dbl (s.drop a)), a⟩ ∧ TL s (a + dbl (s.drop a)) (l.drop (i + 1)) := by
      obtain ⟨u, hu⟩ : ∃ u, l.drop i = l[i] :: u ∧ u = l.drop (i + 1) := ⟨_, List.drop_eq_getElem_cons hil, rfl⟩
      rw [hu.1] at hTL
      obtain ⟨e, he, hr⟩ := hTL
      rw [hnx] at he
      simp only [Prod.mk.injEq, and_true] at he
      rw [← he.1, if_neg (by exact (by decide : ¬ (3 : Int) = 4)), hu.2, ← he.2] at hr
      exact ⟨he.1.symm, hr⟩
    have hwl : ((s.drop a).take (dbl (s.drop a))).length = dbl (s.drop a) := by
      rw [List.length_take, List.length_drop]
      have := hto.2.1
      simp only at this
      omega
    have hs1 : (s.take (a + 1)).drop a = (s.drop a).take 1 := by rw [slice_eq]; congr 1; omega
    have hs2 : (s.take (a + 2)).drop a = (s.drop a).take 2 := by rw [slice_eq]; congr 1; omega
    have i0 : (0 : Int) ≤ (a : Int) := Int.natCast_nonneg _
    have i1 : (0 : Int) ≤ ((a + 1 : Nat) : Int) := Int.natCast_nonneg _
    have i2 : (0 : Int) ≤ ((a + 2 : Nat) : Int) := Int.natCast_nonneg _
    have i3 : a ≤ a + 1 := by omega
    have i4 : a + 1 ≤ s.length := by omega
    have i5 : a ≤ a + 2 := by omega
    obtain ⟨cs, rest, hXe, hdrop, hcs⟩ := hX.at tok_len (by omega) i hil
    rw [htk] at hdrop
    have hws : IntKind.i64.wrap ((a : Int) + (dbl (s.drop a) : Nat)) = ((a + dbl (s.drop a) : Nat) : Int) := by rw [wrap_i64 (by omega) (by omega)]; rfl
    refine bwp_seq fun K1 hK1 => ?_
    refine bwp_seq fun K hK => bwp_region rfl ?_
    simp -implicitDefEqProofs only [go_sem, ↓reduceIte, Nat.reduceEqDiff, Nat.reduceAdd, Nat.reduceLeDiff, Nat.reduceMul, Nat.reduceSub, Int.reduceLE, Int.reduceLT, Int.reduceEq, Int.reduceToNat, Int.reducePow, Int.reduceNeg, hw, hlen, hlt']
    refine hK _ ?_; clear hK
    refine bwp_cond true (by simp [ev, fget]) (fun _ => ?_) (fun h => nomatch h)
    refine bwp_skip ?_
    refine hK1 _ ?_; clear hK1
    refine bwp_seq fun K1 hK1 => ?_
    refine bwp_block ?_
    refine bwp_seq fun K hK => bwp_region rfl ?_
    simp -implicitDefEqProofs only [go_sem, ↓reduceIte, Nat.reduceEqDiff, Nat.reduceAdd, Nat.reduceLeDiff, Nat.reduceMul, Nat.reduceSub, Int.reduceLE, Int.reduceLT, Int.reduceEq, Int.reduceToNat, Int.reducePow, Int.reduceNeg, hw1, i0, i1, i3, i4, Int.toNat_natCast, hs1]
    refine hK _ ?_; clear hK
    refine bwp_seq fun K2 hK2 => ?_
    have fin : ∀ S : St, Leads (mbound []) 111 S (llT X s a i [(9, .d (.str ((s.drop a).take (dbl (s.drop a)))))]) → K2 S := by
      intro S hS
      refine hK2 _ ?_; clear hK2
      refine bwp_leads hS ?_
      have hto2 := hto.2.1
      simp only at hto2
      generalize dbl (s.drop a) = d at *
      generalize (s.drop a).take d = w at *
      unfold llT
      refine bwp_seq fun K3 hK3 => ?_
      refine bwp_seq fun K hK => bwp_region rfl ?_
      simp -implicitDefEqProofs only [go_sem, ↓reduceIte, Nat.reduceEqDiff, Nat.reduceAdd, Nat.reduceLeDiff, Nat.reduceMul, Nat.reduceSub, Int.reduceLE, Int.reduceLT, Int.reduceEq, Int.reduceToNat, Int.reducePow, Int.reduceNeg, hXe, hi', Int.natCast_nonneg, Int.toNat_natCast, hcs, hdrop, Tok.cells, decide_true, Bool.not_true]
      refine hK _ ?_; clear hK
      refine bwp_cond false (by simp [ev, fget]) (fun h => nomatch h) (fun _ => ?_)
      refine bwp_skip ?_
      refine hK3 _ ?_; clear hK3
      refine bwp_region rfl ?_
      simp -implicitDefEqProofs only [go_sem, ↓reduceIte, Nat.reduceEqDiff, Nat.reduceAdd, Nat.reduceLeDiff, Nat.reduceMul, Nat.reduceSub, Int.reduceLE, Int.reduceLT, Int.reduceEq, Int.reduceToNat, Int.reducePow, Int.reduceNeg, hwl, hws]
      refine hK1 _ ?_; clear hK1
      refine bwp_region rfl ?_
      simp -implicitDefEqProofs only [go_sem, ↓reduceIte, Nat.reduceEqDiff, Nat.reduceAdd, Nat.reduceLeDiff, Nat.reduceMul, Nat.reduceSub, Int.reduceLE, Int.reduceLT, Int.reduceEq, Int.reduceToNat, Int.reducePow, Int.reduceNeg, hw]
      refine ⟨⟨(a + d, i + 1), hto2, hTL'⟩, by simp only; omega, ?_⟩
      exact Leads.ent [(0, 0)] ⟨by simp [llT, entT, fget, AV.ren, renL, pget, hXe], by simp [llT, entM, pinv, mget, mset, renL, AV.ren, pget], rfl, rfl⟩
    by_cases hb : a + 1 < s.length
    · have hb' : ((a + 1 : Nat) : Int) < s.length := by omega
      have i6 : a + 2 ≤ s.length := by omega
      by_cases h60 : (s.drop a).take 2 = [60, 60]
      · rw [if_pos ⟨hb, .inl h60⟩] at hdb
        refine bwp_seq fun K hK => bwp_region rfl ?_
        simp -implicitDefEqProofs only [go_sem, ↓reduceIte, Nat.reduceEqDiff, Nat.reduceAdd, Nat.reduceLeDiff, Nat.reduceMul, Nat.reduceSub, Int.reduceLE, Int.reduceLT, Int.reduceEq, Int.reduceToNat, Int.reducePow, Int.reduceNeg, hw1, hw2, hb', i0, i2, i5, i6, Int.toNat_natCast, hs2, h60, decide_true]
        refine hK _ ?_; clear hK
        refine bwp_cond true (by simp [ev, fget]) (fun _ => ?_) (fun h => nomatch h)
        refine bwp_region rfl ?_
        simp -implicitDefEqProofs only [go_sem, ↓reduceIte, Nat.reduceEqDiff, Nat.reduceAdd, Nat.reduceLeDiff, Nat.reduceMul, Nat.reduceSub, Int.reduceLE, Int.reduceLT, Int.reduceEq, Int.reduceToNat, Int.reducePow, Int.reduceNeg, hw2, i0, i2, i5, i6, Int.toNat_natCast, hs2]
        exact fin _ (Leads.ent [(0, 0)] ⟨by simp [entT, fget, AV.ren, renL, pget, llT, hdb], by simp [entM, pinv, mget, mset, mdel, renL, AV.ren, pget, renL_append, -List.map_map, llT, hdb], rfl, rfl⟩)
      · by_cases h61 : (s.drop a).take 2 = [61, 61]
        · rw [if_pos ⟨hb, .inr h61⟩] at hdb
          have hne : (([61, 61] : List UInt8) = [60, 60]) = False := by simp
          refine bwp_seq fun K hK => bwp_region rfl ?_
          simp -implicitDefEqProofs only [go_sem, ↓reduceIte, Nat.reduceEqDiff, Nat.reduceAdd, Nat.reduceLeDiff, Nat.reduceMul, Nat.reduceSub, Int.reduceLE, Int.reduceLT, Int.reduceEq, Int.reduceToNat, Int.reducePow, Int.reduceNeg, hw1, hw2, hb', i0, i2, i5, i6, Int.toNat_natCast, hs2, h61, hne, decide_true, decide_false]
          refine hK _ ?_; clear hK
          refine bwp_cond true (by simp [ev, fget]) (fun _ => ?_) (fun h => nomatch h)
          refine bwp_region rfl ?_
          simp -implicitDefEqProofs only [go_sem, ↓reduceIte, Nat.reduceEqDiff, Nat.reduceAdd, Nat.reduceLeDiff, Nat.reduceMul, Nat.reduceSub, Int.reduceLE, Int.reduceLT, Int.reduceEq, Int.reduceToNat, Int.reducePow, Int.reduceNeg, hw2, i0, i2, i5, i6, Int.toNat_natCast, hs2]
          exact fin _ (Leads.ent [(0, 0)] ⟨by simp [entT, fget, AV.ren, renL, pget, llT, hdb], by simp [entM, pinv, mget, mset, mdel, renL, AV.ren, pget, renL_append, -List.map_map, llT, hdb], rfl, rfl⟩)
        · rw [if_neg (by rintro ⟨_, h | h⟩; exact h60 h; exact h61 h)] at hdb
          refine bwp_seq fun K hK => bwp_region rfl ?_
          simp -implicitDefEqProofs only [go_sem, ↓reduceIte, Nat.reduceEqDiff, Nat.reduceAdd, Nat.reduceLeDiff, Nat.reduceMul, Nat.reduceSub, Int.reduceLE, Int.reduceLT, Int.reduceEq, Int.reduceToNat, Int.reducePow, Int.reduceNeg, hw1, hw2, hb', i0, i2, i5, i6, Int.toNat_natCast, hs2, h60, h61, decide_true, decide_false]
          refine hK _ ?_; clear hK
          refine bwp_cond false (by simp [ev, fget]) (fun h => nomatch h) (fun _ => ?_)
          refine bwp_skip ?_
          exact fin _ (Leads.ent [(0, 0)] ⟨by simp [entT, fget, AV.ren, renL, pget, llT, hdb], by simp [entM, pinv, mget, mset, mdel, renL, AV.ren, pget, renL_append, -List.map_map, llT, hdb], rfl, rfl⟩)
    · have hb' : ¬ ((a + 1 : Nat) : Int) < s.length := by omega
      rw [if_neg (fun h => hb h.1)] at hdb
      refine bwp_seq fun K hK => bwp_region rfl ?_
      simp -implicitDefEqProofs only [go_sem, ↓reduceIte, Nat.reduceEqDiff, Nat.reduceAdd, Nat.reduceLeDiff, Nat.reduceMul, Nat.reduceSub, Int.reduceLE, Int.reduceLT, Int.reduceEq, Int.reduceToNat, Int.reducePow, Int.reduceNeg, hw1, hb']
      refine hK _ ?_; clear hK
      refine bwp_cond false (by simp [ev, fget]) (fun h => nomatch h) (fun _ => ?_)
      refine bwp_skip ?_
      exact fin _ (Leads.ent [(0, 0)] ⟨by simp [entT, fget, AV.ren, renL, pget, llT, hdb], by simp [entM, pinv, mget, mset, mdel, renL, AV.ren, pget, renL_append, -List.map_map, llT, hdb], rfl, rfl⟩)
  · have hlt' : ¬ ((i + 1 : Nat) : Int) < l.length := by omega
    have hae : a = s.length := by
      rcases Nat.lt_or_ge a s.length with h | h
      · obtain ⟨u, hu⟩ : ∃ u, l.drop i = l[i] :: u := ⟨_, List.drop_eq_getElem_cons hil⟩
        have hul := congrArg List.length hu
        rw [List.length_drop, List.length_cons] at hul
        have hu0 : u = [] := List.eq_nil_of_length_eq_zero (by omega)
        rw [hu] at hTL
        obtain ⟨e, he, hr⟩ := hTL
        rw [four_next hf h] at he
        have hk : l[i].kd = 3 := by have := congrArg (fun p => p.1.kd) he; exact this.symm
        rw [if_neg (by rw [hk]; decide), hu0] at hr
        exact hr.elim
      · omega
    subst hae
    refine bwp_seq fun K1 hK1 => ?_
    refine bwp_seq fun K hK => bwp_region rfl ?_
    simp -implicitDefEqProofs only [go_sem, ↓reduceIte, Nat.reduceEqDiff, Nat.reduceAdd, Nat.reduceLeDiff, Nat.reduceMul, Nat.reduceSub, Int.reduceLE, Int.reduceLT, Int.reduceEq, Int.reduceToNat, Int.reducePow, Int.reduceNeg, hw, hlen, hlt']
    refine hK _ ?_; clear hK
    refine bwp_cond false (by simp [ev, fget]) (fun h => nomatch h) (fun _ => ?_)
    refine bwp_leads (S' := llT X s s.length i []) (Leads.ent [(0, 0)] ⟨by simp [entT, fget, AV.ren, renL, pget, llT], by simp [entM, pinv, mget, mset, renL, AV.ren, pget, renL_append, -List.map_map, llT], rfl, rfl⟩) ?_
    exact bwp_exit (hQ i)

set_option maxHeartbeats 16000000 in
theorem lexLongest_pure {l : List Int} {X : DV} (hX : IsInts l X) : Pure Tryd.prog 4 [.d X] (.d (.bool true)) := by
  have hl := rowS_len l
  have hf := rowS_four l
  obtain ⟨ts, hT⟩ := four_tl hf _ 0 (Nat.le_refl _) (Nat.zero_le _)
  have hall := allW_tl (by omega) hT
  have k1 := all_pure (s := rowS l) (Nat.le_trans hl (by decide))
  have hcnt := allW_count (rowS l)
  rw [hall] at k1 hcnt
  have hY := tokD_sl hcnt
  unfold allV at k1
  generalize tokD ts = Y at *
  have hlen := hY.len
  refine acalls_of Tryd.func4 ac4_ok Tryd.ntmps4 Tryd.results4 rfl ?_
  unfold ac4
  refine bwp_seq fun K hK => bwp_region rfl ?_
  simp -implicitDefEqProofs only [go_sem, ↓reduceIte, Nat.reduceEqDiff, Nat.reduceAdd, Nat.reduceLeDiff, Nat.reduceMul, Nat.reduceSub, Int.reduceLE, Int.reduceLT, Int.reduceEq, Int.reduceToNat, Int.reducePow, Int.reduceNeg]
  refine hK _ ?_; clear hK
  refine bwp_seq fun K hK => bwp_region rfl ?_
  simp -implicitDefEqProofs only [go_sem, ↓reduceIte, Nat.reduceEqDiff, Nat.reduceAdd, Nat.reduceLeDiff, Nat.reduceMul, Nat.reduceSub, Int.reduceLE, Int.reduceLT, Int.reduceEq, Int.reduceToNat, Int.reducePow, Int.reduceNeg]
  refine hK _ ?_; clear hK
  refine bwp_seq fun K1 hK1 => ?_
  refine bwp_seq fun K2 hK2 => ?_
  refine bwp_region rfl ?_
  simp -implicitDefEqProofs only [go_sem, ↓reduceIte, Nat.reduceEqDiff, Nat.reduceAdd, Nat.reduceLeDiff, Nat.reduceMul, Nat.reduceSub, Int.reduceLE, Int.reduceLT, Int.reduceEq, Int.reduceToNat, Int.reducePow, Int.reduceNeg]
  refine hK2 _ ?_; clear hK2
  refine bwp_block ?_
  refine bwp_leads (S' := llS X [] 0) (Leads.ent [] ⟨by simp [entT, fget, AV.ren, renL, pget, llS], by simp [entM, pinv, mget, mset, renL, AV.ren, pget, renL_append, -List.map_map, llS], rfl, rfl⟩) ?_
  refine ll_loop0 hX ?_
  intro i
  unfold llS
  simp -implicitDefEqProofs only [go_sem, ↓reduceIte, Nat.reduceEqDiff, Nat.reduceAdd, Nat.reduceLeDiff, Nat.reduceMul, Nat.reduceSub, Int.reduceLE, Int.reduceLT, Int.reduceEq, Int.reduceToNat, Int.reducePow, Int.reduceNeg]
  refine hK1 _ ?_; clear hK1
  refine bwp_seq fun K hK => bwp_region rfl ?_
  simp -implicitDefEqProofs only [go_sem, ↓reduceIte, Nat.reduceEqDiff, Nat.reduceAdd, Nat.reduceLeDiff, Nat.reduceMul, Nat.reduceSub, Int.reduceLE, Int.reduceLT, Int.reduceEq, Int.reduceToNat, Int.reducePow, Int.reduceNeg]
  repeat' (first
    | (refine gateK_split (fun hb => ?_) (fun hb => ?_) <;> simp -implicitDefEqProofs only [go_sem, ↓reduceIte, Nat.reduceEqDiff, Nat.reduceAdd, Nat.reduceLeDiff, Nat.reduceMul, Nat.reduceSub, Int.reduceLE, Int.reduceLT, Int.reduceEq, Int.reduceToNat, Int.reducePow, Int.reduceNeg, hb])
    | (refine dGateK_split (fun hb => ?_) (fun hb => ?_) <;> simp -implicitDefEqProofs only [go_sem, ↓reduceIte, Nat.reduceEqDiff, Nat.reduceAdd, Nat.reduceLeDiff, Nat.reduceMul, Nat.reduceSub, Int.reduceLE, Int.reduceLT, Int.reduceEq, Int.reduceToNat, Int.reducePow, Int.reduceNeg, hb])
    | (refine callK_pure (k1) rfl rfl ?_; simp -implicitDefEqProofs only [go_sem, ↓reduceIte, Nat.reduceEqDiff, Nat.reduceAdd, Nat.reduceLeDiff, Nat.reduceMul, Nat.reduceSub, Int.reduceLE, Int.reduceLT, Int.reduceEq, Int.reduceToNat, Int.reducePow, Int.reduceNeg])
    | (refine dCallK_pure (k1) rfl rfl ?_; simp -implicitDefEqProofs only [go_sem, ↓reduceIte, Nat.reduceEqDiff, Nat.reduceAdd, Nat.reduceLeDiff, Nat.reduceMul, Nat.reduceSub, Int.reduceLE, Int.reduceLT, Int.reduceEq, Int.reduceToNat, Int.reducePow, Int.reduceNeg])
    | (rw [if_pos (by (try simp only [List.length_append, List.length_cons, List.length_nil, List.length_map]); omega)]; simp -implicitDefEqProofs only [go_sem, ↓reduceIte, Nat.reduceEqDiff, Nat.reduceAdd, Nat.reduceLeDiff, Nat.reduceMul, Nat.reduceSub, Int.reduceLE, Int.reduceLT, Int.reduceEq, Int.reduceToNat, Int.reducePow, Int.reduceNeg]))
  refine hK _ ?_; clear hK
  refine bwp_seq fun K1 hK1 => ?_
  refine bwp_seq fun K hK => bwp_region rfl ?_
  simp -implicitDefEqProofs only [go_sem, ↓reduceIte, Nat.reduceEqDiff, Nat.reduceAdd, Nat.reduceLeDiff, Nat.reduceMul, Nat.reduceSub, Int.reduceLE, Int.reduceLT, Int.reduceEq, Int.reduceToNat, Int.reducePow, Int.reduceNeg]
  refine hK _ ?_; clear hK
  refine bwp_cond false (by simp [ev, fget]) (fun h => nomatch h) (fun _ => ?_)
  refine bwp_skip ?_
  refine hK1 _ ?_; clear hK1
  refine bwp_seq fun K hK => bwp_region rfl ?_
  simp -implicitDefEqProofs only [go_sem, ↓reduceIte, Nat.reduceEqDiff, Nat.reduceAdd, Nat.reduceLeDiff, Nat.reduceMul, Nat.reduceSub, Int.reduceLE, Int.reduceLT, Int.reduceEq, Int.reduceToNat, Int.reducePow, Int.reduceNeg]
  refine hK _ ?_; clear hK
  refine bwp_seq fun K1 hK1 => ?_
  refine bwp_seq fun K2 hK2 => ?_
  refine bwp_region rfl ?_
  simp -implicitDefEqProofs only [go_sem, ↓reduceIte, Nat.reduceEqDiff, Nat.reduceAdd, Nat.reduceLeDiff, Nat.reduceMul, Nat.reduceSub, Int.reduceLE, Int.reduceLT, Int.reduceEq, Int.reduceToNat, Int.reducePow, Int.reduceNeg]
  refine hK2 _ ?_; clear hK2
  refine bwp_block ?_
  refine bwp_leads (S' := llT Y (rowS l) 0 0 []) (Leads.ent [(0, 0)] ⟨by simp [entT, fget, AV.ren, renL, pget, llT], by simp [entM, pinv, mget, mset, renL, AV.ren, pget, renL_append, -List.map_map, llT], rfl, rfl⟩) ?_
  refine ll_loop1 hl hf hY hcnt hT ?_
  intro i
  unfold llT
  simp -implicitDefEqProofs only [go_sem, ↓reduceIte, Nat.reduceEqDiff, Nat.reduceAdd, Nat.reduceLeDiff, Nat.reduceMul, Nat.reduceSub, Int.reduceLE, Int.reduceLT, Int.reduceEq, Int.reduceToNat, Int.reducePow, Int.reduceNeg]
  refine hK1 _ ?_; clear hK1
  refine bwp_seq fun K hK => bwp_region rfl ?_
  simp -implicitDefEqProofs only [go_sem, ↓reduceIte, Nat.reduceEqDiff, Nat.reduceAdd, Nat.reduceLeDiff, Nat.reduceMul, Nat.reduceSub, Int.reduceLE, Int.reduceLT, Int.reduceEq, Int.reduceToNat, Int.reducePow, Int.reduceNeg, decide_true]
  repeat' (first
    | (refine gateK_split (fun hb => ?_) (fun hb => ?_) <;> simp -implicitDefEqProofs only [go_sem, ↓reduceIte, Nat.reduceEqDiff, Nat.reduceAdd, Nat.reduceLeDiff, Nat.reduceMul, Nat.reduceSub, Int.reduceLE, Int.reduceLT, Int.reduceEq, Int.reduceToNat, Int.reducePow, Int.reduceNeg, hb, decide_true])
    | (refine dGateK_split (fun hb => ?_) (fun hb => ?_) <;> simp -implicitDefEqProofs only [go_sem, ↓reduceIte, Nat.reduceEqDiff, Nat.reduceAdd, Nat.reduceLeDiff, Nat.reduceMul, Nat.reduceSub, Int.reduceLE, Int.reduceLT, Int.reduceEq, Int.reduceToNat, Int.reducePow, Int.reduceNeg, hb, decide_true])
    | (refine callK_pure (awake2_pure) rfl rfl ?_; simp -implicitDefEqProofs only [go_sem, ↓reduceIte, Nat.reduceEqDiff, Nat.reduceAdd, Nat.reduceLeDiff, Nat.reduceMul, Nat.reduceSub, Int.reduceLE, Int.reduceLT, Int.reduceEq, Int.reduceToNat, Int.reducePow, Int.reduceNeg, decide_true])
    | (refine dCallK_pure (awake2_pure) rfl rfl ?_; simp -implicitDefEqProofs only [go_sem, ↓reduceIte, Nat.reduceEqDiff, Nat.reduceAdd, Nat.reduceLeDiff, Nat.reduceMul, Nat.reduceSub, Int.reduceLE, Int.reduceLT, Int.reduceEq, Int.reduceToNat, Int.reducePow, Int.reduceNeg, decide_true])
    | (rw [if_pos (by (try simp only [List.length_append, List.length_cons, List.length_nil, List.length_map]); omega)]; simp -implicitDefEqProofs only [go_sem, ↓reduceIte, Nat.reduceEqDiff, Nat.reduceAdd, Nat.reduceLeDiff, Nat.reduceMul, Nat.reduceSub, Int.reduceLE, Int.reduceLT, Int.reduceEq, Int.reduceToNat, Int.reducePow, Int.reduceNeg, decide_true]))
  refine hK _ ?_; clear hK
  refine bwp_ret ?_
  simp only [go_sem]
  refine aend_ret _ rfl rfl ⟨?_, rfl⟩
  simp [fget]

end Go.Proofs.YtpfbljkfbjjlkaaDoor
