/- LexStands comes to true. -/
import Derived.Test.YtpfbljkfbjjlkaaDoorL20
namespace Go.Proofs.YtpfbljkfbjjlkaaDoor
open Go Go.Jq
set_option maxRecDepth 100000
set_option linter.unusedSimpArgs false

def lsS (X : DV) (s : List UInt8) (a i : Nat) (t : Tok) (ex : Fr) : St := ⟨ex ++ [(3, .d X), (0, .d (.str s)), (5, .d (.int .i64 a)), (6, .d (.int .i64 i)), (7, .ptr 0 0)], [(0, t.cells.map .d)], 1⟩

/-- Over the blanks and comments ahead of a token. -/
theorem ls_loop0 {X : DV} {s : List UInt8} (hs : s.length ≤ 4000) {a i : Nat} {t : Tok} {note0 : Bool} (ha : a ≤ s.length) (hp : a + skipN note0 (s.drop a) = t.pl) {Q : Exit → St → Prop}
    (hQ : ∀ note, Q (.exit 2) (lsS X s a i t [(8, .d (.bool note)), (9, .d (.int .i64 t.pl))])) :
    BWP Tryd.prog (mbound []) 132 (.loop ac6L0) (lsS X s a i t [(8, .d (.bool note0)), (9, .d (.int .i64 a))]) Q := by
  refine bwp_fam (ι := { p : Nat × Bool // p.1 ≤ s.length ∧ p.1 + skipN p.2 (s.drop p.1) = t.pl }) (fun p => lsS X s a i t [(8, .d (.bool p.1.2)), (9, .d (.int .i64 p.1.1))]) (fun p => s.length - p.1.1) ⟨(a, note0), ha, hp⟩ ?_
  rintro ⟨⟨k, note⟩, hk, hT⟩
  simp only at hk hT ⊢
  unfold ac6L0 lsS
  have hpl : t.pl ≤ s.length := by
    have := skipN_le note (s.drop k)
    rw [List.length_drop] at this
    omega
  by_cases hlt : k < t.pl
  · have hlt' : (k : Int) < t.pl := by omega
    have hks : (k : Int) < s.length := by omega
    have hk0 : (0 : Int) ≤ (k : Int) := Int.natCast_nonneg _
    have hw : IntKind.i64.wrap ((k : Int) + 1) = ((k + 1 : Nat) : Int) := by rw [wrap_i64 (by omega) (by omega)]; rfl
    have hd := drop_at (s := s) (p := k) (by omega)
    generalize hx : s.getD k 0 = x at hd
    have hst := skip_step note x (s.drop (k + 1)) (by rw [← hd]; omega)
    rw [hd] at hT
    have key : ∀ v : UInt8, ((x.toNat : Int) = (v.toNat : Int)) ↔ x = v := fun v => ⟨u8eq, fun h => by rw [h]⟩
    have k10 := key 10
    have k35 := key 35
    have k32 := key 32
    have k9 := key 9
    simp only [UInt8.reduceToNat, Int.cast_ofNat_Int] at k10 k35 k32 k9
    refine bwp_seq fun K1 hK1 => ?_
    refine bwp_seq fun K hK => bwp_region rfl ?_
    simp -implicitDefEqProofs only [go_sem, ↓reduceIte, Nat.reduceEqDiff, Nat.reduceAdd, Nat.reduceLeDiff, Nat.reduceMul, Nat.reduceSub, Int.reduceLE, Int.reduceLT, Int.reduceEq, Int.reduceToNat, Int.reducePow, Int.reduceNeg, Tok.cells, hlt']
    refine hK _ ?_; clear hK
    refine bwp_cond true (by simp [ev, fget]) (fun _ => ?_) (fun h => nomatch h)
    refine bwp_skip ?_
    refine hK1 _ ?_; clear hK1
    refine bwp_seq fun K1 hK1 => ?_
    refine bwp_block ?_
    refine bwp_seq fun K hK => bwp_region rfl ?_
    simp -implicitDefEqProofs only [go_sem, ↓reduceIte, Nat.reduceEqDiff, Nat.reduceAdd, Nat.reduceLeDiff, Nat.reduceMul, Nat.reduceSub, Int.reduceLE, Int.reduceLT, Int.reduceEq, Int.reduceToNat, Int.reducePow, Int.reduceNeg, hk0, hks, Int.toNat_natCast, hx]
    refine hK _ ?_; clear hK
    have fin : ∀ S : St, Leads (mbound []) 132 S (lsS X s a i t [(8, .d (.bool (noteB note x))), (9, .d (.int .i64 k))]) → K1 S := by
      intro S hS
      refine hK1 _ ?_; clear hK1
      refine bwp_leads hS ?_
      unfold lsS
      refine bwp_region rfl ?_
      simp -implicitDefEqProofs only [go_sem, ↓reduceIte, Nat.reduceEqDiff, Nat.reduceAdd, Nat.reduceLeDiff, Nat.reduceMul, Nat.reduceSub, Int.reduceLE, Int.reduceLT, Int.reduceEq, Int.reduceToNat, Int.reducePow, Int.reduceNeg, hw]
      refine ⟨⟨(k + 1, noteB note x), by simp only; omega, by simp only; omega⟩, by simp only; omega, ?_⟩
      exact Leads.ent [(0, 0)] ⟨by simp [lsS, entT, fget, AV.ren, renL, pget], by simp [lsS, entM, pinv, mget, mset, renL, AV.ren, pget, Tok.cells], rfl, rfl⟩
    refine bwp_seq fun K2 hK2 => ?_
    by_cases h10 : (x.toNat : Int) = 10
    · have hnb : noteB note x = false := by rw [k10.1 h10]; simp [noteB]
      refine bwp_seq fun K hK => bwp_region rfl ?_
      simp -implicitDefEqProofs only [go_sem, ↓reduceIte, Nat.reduceEqDiff, Nat.reduceAdd, Nat.reduceLeDiff, Nat.reduceMul, Nat.reduceSub, Int.reduceLE, Int.reduceLT, Int.reduceEq, Int.reduceToNat, Int.reducePow, Int.reduceNeg, h10]
      refine hK _ ?_; clear hK
      refine bwp_cond true (by simp [ev, fget]) (fun _ => ?_) (fun h => nomatch h)
      refine bwp_region rfl ?_
      simp -implicitDefEqProofs only [go_sem, ↓reduceIte, Nat.reduceEqDiff, Nat.reduceAdd, Nat.reduceLeDiff, Nat.reduceMul, Nat.reduceSub, Int.reduceLE, Int.reduceLT, Int.reduceEq, Int.reduceToNat, Int.reducePow, Int.reduceNeg]
      refine hK2 _ ?_; clear hK2
      refine bwp_seq fun K hK => bwp_region rfl ?_
      simp -implicitDefEqProofs only [go_sem, ↓reduceIte, Nat.reduceEqDiff, Nat.reduceAdd, Nat.reduceLeDiff, Nat.reduceMul, Nat.reduceSub, Int.reduceLE, Int.reduceLT, Int.reduceEq, Int.reduceToNat, Int.reducePow, Int.reduceNeg, h10]
      refine hK _ ?_; clear hK
      refine bwp_seq fun K hK => bwp_region rfl ?_
      simp -implicitDefEqProofs only [go_sem, ↓reduceIte, Nat.reduceEqDiff, Nat.reduceAdd, Nat.reduceLeDiff, Nat.reduceMul, Nat.reduceSub, Int.reduceLE, Int.reduceLT, Int.reduceEq, Int.reduceToNat, Int.reducePow, Int.reduceNeg, h10]
      refine hK _ ?_; clear hK
      refine bwp_cond false (by simp [ev, fget]) (fun h => nomatch h) (fun _ => ?_)
      refine bwp_skip ?_
      exact fin _ (Leads.ent [(0, 0)] ⟨by simp [entT, fget, AV.ren, renL, pget, lsS, hnb, h10, Tok.cells], by simp [entM, pinv, mget, mset, mdel, renL, AV.ren, pget, renL_append, -List.map_map, lsS, hnb, h10, Tok.cells], rfl, rfl⟩)
    · have hx10 : x ≠ 10 := fun h => h10 (k10.2 h)
      refine bwp_seq fun K hK => bwp_region rfl ?_
      simp -implicitDefEqProofs only [go_sem, ↓reduceIte, Nat.reduceEqDiff, Nat.reduceAdd, Nat.reduceLeDiff, Nat.reduceMul, Nat.reduceSub, Int.reduceLE, Int.reduceLT, Int.reduceEq, Int.reduceToNat, Int.reducePow, Int.reduceNeg, h10]
      refine hK _ ?_; clear hK
      refine bwp_cond false (by simp [ev, fget]) (fun h => nomatch h) (fun _ => ?_)
      refine bwp_skip ?_
      refine hK2 _ ?_; clear hK2
      cases note with
      | true =>
        have hnb : noteB true x = true := by simp [noteB, hx10]
        refine bwp_seq fun K hK => bwp_region rfl ?_
        simp -implicitDefEqProofs only [go_sem, ↓reduceIte, Nat.reduceEqDiff, Nat.reduceAdd, Nat.reduceLeDiff, Nat.reduceMul, Nat.reduceSub, Int.reduceLE, Int.reduceLT, Int.reduceEq, Int.reduceToNat, Int.reducePow, Int.reduceNeg]
        refine hK _ ?_; clear hK
        refine bwp_seq fun K hK => bwp_region rfl ?_
        simp -implicitDefEqProofs only [go_sem, ↓reduceIte, Nat.reduceEqDiff, Nat.reduceAdd, Nat.reduceLeDiff, Nat.reduceMul, Nat.reduceSub, Int.reduceLE, Int.reduceLT, Int.reduceEq, Int.reduceToNat, Int.reducePow, Int.reduceNeg]
        refine hK _ ?_; clear hK
        refine bwp_cond false (by simp [ev, fget]) (fun h => nomatch h) (fun _ => ?_)
        refine bwp_skip ?_
        exact fin _ (Leads.ent [(0, 0)] ⟨by simp [entT, fget, AV.ren, renL, pget, lsS, hnb, Tok.cells], by simp [entM, pinv, mget, mset, mdel, renL, AV.ren, pget, renL_append, -List.map_map, lsS, hnb, Tok.cells], rfl, rfl⟩)
      | false =>
        by_cases h35 : (x.toNat : Int) = 35
        · have hnb : noteB false x = true := by rw [k35.1 h35]; rfl
          refine bwp_seq fun K hK => bwp_region rfl ?_
          simp -implicitDefEqProofs only [go_sem, ↓reduceIte, Nat.reduceEqDiff, Nat.reduceAdd, Nat.reduceLeDiff, Nat.reduceMul, Nat.reduceSub, Int.reduceLE, Int.reduceLT, Int.reduceEq, Int.reduceToNat, Int.reducePow, Int.reduceNeg, h35]
          refine hK _ ?_; clear hK
          refine bwp_seq fun K hK => bwp_region rfl ?_
          simp -implicitDefEqProofs only [go_sem, ↓reduceIte, Nat.reduceEqDiff, Nat.reduceAdd, Nat.reduceLeDiff, Nat.reduceMul, Nat.reduceSub, Int.reduceLE, Int.reduceLT, Int.reduceEq, Int.reduceToNat, Int.reducePow, Int.reduceNeg]
          refine hK _ ?_; clear hK
          refine bwp_cond false (by simp [ev, fget]) (fun h => nomatch h) (fun _ => ?_)
          refine bwp_skip ?_
          exact fin _ (Leads.ent [(0, 0)] ⟨by simp [entT, fget, AV.ren, renL, pget, lsS, hnb, h35, Tok.cells], by simp [entM, pinv, mget, mset, mdel, renL, AV.ren, pget, renL_append, -List.map_map, lsS, hnb, h35, Tok.cells], rfl, rfl⟩)
        · have hx35 : x ≠ 35 := fun h => h35 (k35.2 h)
          have hnb : noteB false x = false := by simp [noteB, hx35]
          have hbl : (x.toNat : Int) = 32 ∨ (x.toNat : Int) = 9 := by
            have := hst.2
            rw [hnb] at this
            rw [k32, k9]
            have hb : blankB x = true := by simpa using this
            simpa [blankB, hx10] using hb
          rcases hbl with h | h
          · refine bwp_seq fun K hK => bwp_region rfl ?_
            simp -implicitDefEqProofs only [go_sem, ↓reduceIte, Nat.reduceEqDiff, Nat.reduceAdd, Nat.reduceLeDiff, Nat.reduceMul, Nat.reduceSub, Int.reduceLE, Int.reduceLT, Int.reduceEq, Int.reduceToNat, Int.reducePow, Int.reduceNeg, h35]
            refine hK _ ?_; clear hK
            refine bwp_seq fun K hK => bwp_region rfl ?_
            simp -implicitDefEqProofs only [go_sem, ↓reduceIte, Nat.reduceEqDiff, Nat.reduceAdd, Nat.reduceLeDiff, Nat.reduceMul, Nat.reduceSub, Int.reduceLE, Int.reduceLT, Int.reduceEq, Int.reduceToNat, Int.reducePow, Int.reduceNeg, h]
            refine hK _ ?_; clear hK
            refine bwp_cond false (by simp [ev, fget]) (fun h => nomatch h) (fun _ => ?_)
            refine bwp_skip ?_
            exact fin _ (Leads.ent [(0, 0)] ⟨by simp [entT, fget, AV.ren, renL, pget, lsS, hnb, h, Tok.cells], by simp [entM, pinv, mget, mset, mdel, renL, AV.ren, pget, renL_append, -List.map_map, lsS, hnb, h, Tok.cells], rfl, rfl⟩)
          · refine bwp_seq fun K hK => bwp_region rfl ?_
            simp -implicitDefEqProofs only [go_sem, ↓reduceIte, Nat.reduceEqDiff, Nat.reduceAdd, Nat.reduceLeDiff, Nat.reduceMul, Nat.reduceSub, Int.reduceLE, Int.reduceLT, Int.reduceEq, Int.reduceToNat, Int.reducePow, Int.reduceNeg, h35]
            refine hK _ ?_; clear hK
            refine bwp_seq fun K hK => bwp_region rfl ?_
            simp -implicitDefEqProofs only [go_sem, ↓reduceIte, Nat.reduceEqDiff, Nat.reduceAdd, Nat.reduceLeDiff, Nat.reduceMul, Nat.reduceSub, Int.reduceLE, Int.reduceLT, Int.reduceEq, Int.reduceToNat, Int.reducePow, Int.reduceNeg, h]
            refine hK _ ?_; clear hK
            refine bwp_cond false (by simp [ev, fget]) (fun h => nomatch h) (fun _ => ?_)
            refine bwp_skip ?_
            exact fin _ (Leads.ent [(0, 0)] ⟨by simp [entT, fget, AV.ren, renL, pget, lsS, hnb, h, Tok.cells], by simp [entM, pinv, mget, mset, mdel, renL, AV.ren, pget, renL_append, -List.map_map, lsS, hnb, h, Tok.cells], rfl, rfl⟩)
  · have hlt' : ¬ (k : Int) < t.pl := by omega
    have he : k = t.pl := by omega
    subst he
    refine bwp_seq fun K1 hK1 => ?_
    refine bwp_seq fun K hK => bwp_region rfl ?_
    simp -implicitDefEqProofs only [go_sem, ↓reduceIte, Nat.reduceEqDiff, Nat.reduceAdd, Nat.reduceLeDiff, Nat.reduceMul, Nat.reduceSub, Int.reduceLE, Int.reduceLT, Int.reduceEq, Int.reduceToNat, Int.reducePow, Int.reduceNeg, Tok.cells, hlt']
    refine hK _ ?_; clear hK
    refine bwp_cond false (by simp [ev, fget]) (fun h => nomatch h) (fun _ => ?_)
    refine bwp_leads (S' := lsS X s a i t [(8, .d (.bool note)), (9, .d (.int .i64 t.pl))]) (Leads.ent [(0, 0)] ⟨by simp [entT, fget, AV.ren, renL, pget, lsS, Tok.cells], by simp [entM, pinv, mget, mset, renL, AV.ren, pget, renL_append, -List.map_map, lsS, Tok.cells], rfl, rfl⟩) ?_
    exact bwp_exit (hQ note)

def lrS (X : DV) (s : List UInt8) (a i : Nat) : St := ⟨[(3, .d X), (0, .d (.str s)), (5, .d (.int .i64 a)), (6, .d (.int .i64 i))], [], 0⟩

set_option maxHeartbeats 16000000 in
theorem ls_loop1 {s : List UInt8} (hs : s.length ≤ 4000) {l : List Tok} {X : DV} (hX : IsSl Tok.cells l X) (hl : l.length ≤ 4001) (hT : TL s 0 l) {Q : Exit → St → Prop} (hQ : ∀ i, Q (.exit 0) (lrS X s s.length i)) :
    BWP Tryd.prog (mbound []) 132 (.loop ac6L1) (lrS X s 0 0) Q := by
  refine bwp_fam (ι := { p : Nat × Nat // p.1 ≤ s.length ∧ p.2 ≤ l.length ∧ (p.2 < l.length → TL s p.1 (l.drop p.2)) ∧ (p.2 = l.length → p.1 = s.length) }) (fun p => lrS X s p.1.1 p.1.2) (fun p => l.length - p.1.2) ⟨(0, 0), Nat.zero_le _, Nat.zero_le _, fun _ => hT, fun h => by
    simp only at h
    have : l = [] := List.eq_nil_of_length_eq_zero h.symm
    rw [this] at hT
    exact hT.elim⟩ ?_
  rintro ⟨⟨a, i⟩, ha, hi, hTL, hend⟩
  simp only at ha hi hTL hend ⊢
  unfold ac6L1 lrS
  have hlen := hX.len
  by_cases hlt : i < l.length
  · have hlt' : (i : Int) < l.length := by omega
    have hw : IntKind.i64.wrap ((i : Int) + 1) = ((i + 1 : Nat) : Int) := by rw [wrap_i64 (by omega) (by omega)]; rfl
    have hTL := hTL hlt
    obtain ⟨u, hu, hu2⟩ : ∃ u, l.drop i = l[i] :: u ∧ u = l.drop (i + 1) := ⟨_, List.drop_eq_getElem_cons hlt, rfl⟩
    rw [hu] at hTL
    obtain ⟨e, he, hr⟩ := hTL
    obtain ⟨cs, rest, hXe, hdrop, hcs⟩ := hX.at tok_len (by omega) i hlt
    obtain ⟨p1, p2, p3, p4, p5, p6, p7⟩ := next_text ha he
    have hul : u.length = l.length - (i + 1) := by rw [hu2, List.length_drop]
    have hnext : ∀ (_ : e ≤ s.length), i + 1 ≤ l.length ∧ (i + 1 < l.length → TL s e (l.drop (i + 1))) ∧ (i + 1 = l.length → e = s.length) := by
      intro _
      refine ⟨by omega, fun h => ?_, fun h => ?_⟩
      · by_cases h4 : l[i].kd = 4
        · rw [if_pos h4] at hr
          rw [hr] at hul
          simp at hul
          omega
        · rw [if_neg h4] at hr
          rw [← hu2]
          exact hr
      · by_cases h4 : l[i].kd = 4
        · exact (p7 h4).2
        · rw [if_neg h4] at hr
          have : u = [] := List.eq_nil_of_length_eq_zero (by omega)
          rw [this] at hr
          exact hr.elim
    have hk4 : (decide (l[i].kd = 4)) = decide ((i : Int) = ((l.length - 1 : Nat) : Int)) := by
      rw [decide_eq_decide]
      constructor
      · intro h4
        rw [if_pos h4] at hr
        rw [hr] at hul
        simp at hul
        omega
      · intro h
        apply Classical.byContradiction
        intro h4
        rw [if_neg h4] at hr
        have : u = [] := List.eq_nil_of_length_eq_zero (by omega)
        rw [this] at hr
        exact hr
    have hwl : IntKind.i64.wrap ((l.length : Int) - 1) = ((l.length - 1 : Nat) : Int) := by rw [wrap_i64 (by omega) (by omega)]; omega
    generalize ht : l[i] = t at *
    have hpl := p1
    have q1 : ¬ (t.pl : Int) < (a : Int) := by omega
    have q2 : IntKind.i64.wrap ((t.pl : Int) + (t.tx.length : Int)) = (e : Int) := by rw [wrap_i64 (by omega) (by omega)]; omega
    have q3 : ¬ (s.length : Int) < (e : Int) := by omega
    have q4 : (s.take e).drop t.pl = t.tx := by rw [slice_eq, p3, Nat.add_sub_cancel_left, ← p2]
    have q5 : t.pl ≤ e := by omega
    have q6 : (0 : Int) ≤ (t.pl : Int) := Int.natCast_nonneg _
    have q7 : (0 : Int) ≤ (e : Int) := Int.natCast_nonneg _
    refine bwp_seq fun K1 hK1 => ?_
    refine bwp_seq fun K hK => bwp_region rfl ?_
    simp -implicitDefEqProofs only [go_sem, ↓reduceIte, Nat.reduceEqDiff, Nat.reduceAdd, Nat.reduceLeDiff, Nat.reduceMul, Nat.reduceSub, Int.reduceLE, Int.reduceLT, Int.reduceEq, Int.reduceToNat, Int.reducePow, Int.reduceNeg, hlen, hlt']
    refine hK _ ?_; clear hK
    refine bwp_cond true (by simp [ev, fget]) (fun _ => ?_) (fun h => nomatch h)
    refine bwp_skip ?_
    refine hK1 _ ?_; clear hK1
    refine bwp_seq fun K1 hK1 => ?_
    refine bwp_block ?_
    refine bwp_seq fun K hK => bwp_region rfl ?_
    simp -implicitDefEqProofs only [go_sem, ↓reduceIte, Nat.reduceEqDiff, Nat.reduceAdd, Nat.reduceLeDiff, Nat.reduceMul, Nat.reduceSub, Int.reduceLE, Int.reduceLT, Int.reduceEq, Int.reduceToNat, Int.reducePow, Int.reduceNeg, hXe, hlt', Int.natCast_nonneg, Int.toNat_natCast, hcs, hdrop, Tok.cells]
    refine hK _ ?_; clear hK
    refine bwp_seq fun K2 hK2 => ?_
    refine bwp_seq fun K hK => bwp_region_draw rfl rfl ?_
    simp -implicitDefEqProofs only [go_sem, ↓reduceIte, Nat.reduceEqDiff, Nat.reduceAdd, Nat.reduceLeDiff, Nat.reduceMul, Nat.reduceSub, Int.reduceLE, Int.reduceLT, Int.reduceEq, Int.reduceToNat, Int.reducePow, Int.reduceNeg, q1, q2, q3, q4, q5, q6, q7, p5, Int.toNat_natCast, hlen, hwl, hk4, decide_true, Bool.not_true, bne_self_eq_false]
    refine ⟨rfl, hK _ ?_⟩; clear hK
    refine bwp_cond false (by simp [ev, fget, putF, boolA]) (fun h => nomatch h) (fun _ => ?_)
    refine bwp_skip ?_
    refine hK2 _ ?_; clear hK2
    refine bwp_seq fun K hK => bwp_region rfl ?_
    simp -implicitDefEqProofs only [go_sem, ↓reduceIte, Nat.reduceEqDiff, Nat.reduceAdd, Nat.reduceLeDiff, Nat.reduceMul, Nat.reduceSub, Int.reduceLE, Int.reduceLT, Int.reduceEq, Int.reduceToNat, Int.reducePow, Int.reduceNeg]
    refine hK _ ?_; clear hK
    refine bwp_seq fun K2 hK2 => ?_
    refine bwp_seq fun K3 hK3 => ?_
    refine bwp_region rfl ?_
    simp -implicitDefEqProofs only [go_sem, ↓reduceIte, Nat.reduceEqDiff, Nat.reduceAdd, Nat.reduceLeDiff, Nat.reduceMul, Nat.reduceSub, Int.reduceLE, Int.reduceLT, Int.reduceEq, Int.reduceToNat, Int.reducePow, Int.reduceNeg]
    refine hK3 _ ?_; clear hK3
    refine bwp_block ?_
    refine bwp_leads (S' := lsS X s a i t [(8, .d (.bool false)), (9, .d (.int .i64 a))]) (Leads.ent [(0, 0)] ⟨by simp [entT, fget, AV.ren, renL, pget, lsS, Tok.cells, hXe], by simp [entM, pinv, mget, mset, renL, AV.ren, pget, renL_append, -List.map_map, lsS, Tok.cells, hXe], rfl, rfl⟩) ?_
    refine ls_loop0 hs ha (by rw [p1]; rfl) ?_
    intro note
    unfold lsS
    simp -implicitDefEqProofs only [go_sem, ↓reduceIte, Nat.reduceEqDiff, Nat.reduceAdd, Nat.reduceLeDiff, Nat.reduceMul, Nat.reduceSub, Int.reduceLE, Int.reduceLT, Int.reduceEq, Int.reduceToNat, Int.reducePow, Int.reduceNeg]
    refine hK2 _ ?_; clear hK2
    refine bwp_region rfl ?_
    simp -implicitDefEqProofs only [go_sem, ↓reduceIte, Nat.reduceEqDiff, Nat.reduceAdd, Nat.reduceLeDiff, Nat.reduceMul, Nat.reduceSub, Int.reduceLE, Int.reduceLT, Int.reduceEq, Int.reduceToNat, Int.reducePow, Int.reduceNeg, q2, Tok.cells]
    refine hK1 _ ?_; clear hK1
    refine bwp_region rfl ?_
    simp -implicitDefEqProofs only [go_sem, ↓reduceIte, Nat.reduceEqDiff, Nat.reduceAdd, Nat.reduceLeDiff, Nat.reduceMul, Nat.reduceSub, Int.reduceLE, Int.reduceLT, Int.reduceEq, Int.reduceToNat, Int.reducePow, Int.reduceNeg, hw]
    obtain ⟨n1, n2, n3⟩ := hnext p5
    refine ⟨⟨(e, i + 1), p5, n1, n2, n3⟩, by simp only; omega, ?_⟩
    exact Leads.ent [] ⟨by simp [lrS, entT, fget, AV.ren, renL, pget, hXe], by simp [lrS, entM, pinv, mget, mset, renL, AV.ren, pget], rfl, rfl⟩
  · have hlt' : ¬ (i : Int) < l.length := by omega
    have hae := hend (by omega)
    subst hae
    refine bwp_seq fun K1 hK1 => ?_
    refine bwp_seq fun K hK => bwp_region rfl ?_
    simp -implicitDefEqProofs only [go_sem, ↓reduceIte, Nat.reduceEqDiff, Nat.reduceAdd, Nat.reduceLeDiff, Nat.reduceMul, Nat.reduceSub, Int.reduceLE, Int.reduceLT, Int.reduceEq, Int.reduceToNat, Int.reducePow, Int.reduceNeg, hlen, hlt']
    refine hK _ ?_; clear hK
    refine bwp_cond false (by simp [ev, fget]) (fun h => nomatch h) (fun _ => ?_)
    refine bwp_leads (S' := lrS X s s.length i) (Leads.ent [] ⟨by simp [entT, fget, AV.ren, renL, pget, lrS], by simp [entM, pinv, mget, mset, renL, AV.ren, pget, renL_append, -List.map_map, lrS], rfl, rfl⟩) ?_
    exact bwp_exit (hQ i)

set_option maxHeartbeats 16000000 in
theorem lexStands_pure {s : List UInt8} (hs : s.length ≤ maxLen) : Pure Tryd.prog 6 [.d (.str s)] (.d (.bool true)) := by
  have k1 := all_pure hs
  have hcnt := allW_count s
  have hfacts : (allW s).2.1 ≠ 0 → (allW s).1 = [] ∧ (allW s).2.2 ≤ s.length := by
    unfold allW
    split
    · intro _; exact ⟨rfl, by show 4000 ≤ s.length; omega⟩
    · intro h; exact ⟨toks_bad h, toks_place (Nat.zero_le _)⟩
  have hgood : (allW s).2.1 = 0 → s.length ≤ 4000 ∧ TL s 0 (allW s).1 := by
    unfold allW
    split
    · intro h; cases h
    · intro h; exact ⟨by omega, tl_of_toks (Nat.zero_le _) (by omega) h⟩
  have hX := tokD_sl hcnt
  unfold allV at k1
  generalize (allW s).2.1 = code at *
  generalize (allW s).2.2 = pl at *
  generalize (allW s).1 = l at *
  generalize tokD l = X at *
  have hlen := hX.len
  refine acalls_of Tryd.func6 ac6_ok Tryd.ntmps6 Tryd.results6 rfl ?_
  unfold ac6
  refine bwp_seq fun K hK => bwp_region rfl ?_
  simp -implicitDefEqProofs only [go_sem, ↓reduceIte, Nat.reduceEqDiff, Nat.reduceAdd, Nat.reduceLeDiff, Nat.reduceMul, Nat.reduceSub, Int.reduceLE, Int.reduceLT, Int.reduceEq, Int.reduceToNat, Int.reducePow, Int.reduceNeg]
  refine hK _ ?_; clear hK
  refine bwp_seq fun K hK => bwp_region rfl ?_
  simp -implicitDefEqProofs only [go_sem, ↓reduceIte, Nat.reduceEqDiff, Nat.reduceAdd, Nat.reduceLeDiff, Nat.reduceMul, Nat.reduceSub, Int.reduceLE, Int.reduceLT, Int.reduceEq, Int.reduceToNat, Int.reducePow, Int.reduceNeg]
  repeat' (first
    | (refine gateK_split (fun hb => ?_) (fun hb => ?_) <;> simp -implicitDefEqProofs only [go_sem, ↓reduceIte, Nat.reduceEqDiff, Nat.reduceAdd, Nat.reduceLeDiff, Nat.reduceMul, Nat.reduceSub, Int.reduceLE, Int.reduceLT, Int.reduceEq, Int.reduceToNat, Int.reducePow, Int.reduceNeg, hb])
    | (refine dGateK_split (fun hb => ?_) (fun hb => ?_) <;> simp -implicitDefEqProofs only [go_sem, ↓reduceIte, Nat.reduceEqDiff, Nat.reduceAdd, Nat.reduceLeDiff, Nat.reduceMul, Nat.reduceSub, Int.reduceLE, Int.reduceLT, Int.reduceEq, Int.reduceToNat, Int.reducePow, Int.reduceNeg, hb])
    | (refine callK_pure (k1) rfl rfl ?_; simp -implicitDefEqProofs only [go_sem, ↓reduceIte, Nat.reduceEqDiff, Nat.reduceAdd, Nat.reduceLeDiff, Nat.reduceMul, Nat.reduceSub, Int.reduceLE, Int.reduceLT, Int.reduceEq, Int.reduceToNat, Int.reducePow, Int.reduceNeg])
    | (refine dCallK_pure (k1) rfl rfl ?_; simp -implicitDefEqProofs only [go_sem, ↓reduceIte, Nat.reduceEqDiff, Nat.reduceAdd, Nat.reduceLeDiff, Nat.reduceMul, Nat.reduceSub, Int.reduceLE, Int.reduceLT, Int.reduceEq, Int.reduceToNat, Int.reducePow, Int.reduceNeg])
    | (rw [if_pos (by (try simp only [List.length_append, List.length_cons, List.length_nil, List.length_map]); omega)]; simp -implicitDefEqProofs only [go_sem, ↓reduceIte, Nat.reduceEqDiff, Nat.reduceAdd, Nat.reduceLeDiff, Nat.reduceMul, Nat.reduceSub, Int.reduceLE, Int.reduceLT, Int.reduceEq, Int.reduceToNat, Int.reducePow, Int.reduceNeg]))
  refine hK _ ?_; clear hK
  refine bwp_seq fun K1 hK1 => ?_
  by_cases h0 : code = 0
  · obtain ⟨h4, hT⟩ := hgood h0
    refine bwp_seq fun K hK => bwp_region rfl ?_
    simp -implicitDefEqProofs only [go_sem, ↓reduceIte, Nat.reduceEqDiff, Nat.reduceAdd, Nat.reduceLeDiff, Nat.reduceMul, Nat.reduceSub, Int.reduceLE, Int.reduceLT, Int.reduceEq, Int.reduceToNat, Int.reducePow, Int.reduceNeg, h0]
    refine hK _ ?_; clear hK
    refine bwp_cond false (by simp [ev, fget]) (fun h => nomatch h) (fun _ => ?_)
    refine bwp_skip ?_
    refine hK1 _ ?_; clear hK1
    refine bwp_seq fun K hK => bwp_region rfl ?_
    simp -implicitDefEqProofs only [go_sem, ↓reduceIte, Nat.reduceEqDiff, Nat.reduceAdd, Nat.reduceLeDiff, Nat.reduceMul, Nat.reduceSub, Int.reduceLE, Int.reduceLT, Int.reduceEq, Int.reduceToNat, Int.reducePow, Int.reduceNeg]
    refine hK _ ?_; clear hK
    refine bwp_seq fun K1 hK1 => ?_
    refine bwp_seq fun K2 hK2 => ?_
    refine bwp_region rfl ?_
    simp -implicitDefEqProofs only [go_sem, ↓reduceIte, Nat.reduceEqDiff, Nat.reduceAdd, Nat.reduceLeDiff, Nat.reduceMul, Nat.reduceSub, Int.reduceLE, Int.reduceLT, Int.reduceEq, Int.reduceToNat, Int.reducePow, Int.reduceNeg]
    refine hK2 _ ?_; clear hK2
    refine bwp_block ?_
    refine bwp_leads (S' := lrS X s 0 0) (Leads.ent [] ⟨by simp [entT, fget, AV.ren, renL, pget, lrS], by simp [entM, pinv, mget, mset, renL, AV.ren, pget, renL_append, -List.map_map, lrS], rfl, rfl⟩) ?_
    refine ls_loop1 h4 hX hcnt hT ?_
    intro i
    unfold lrS
    simp -implicitDefEqProofs only [go_sem, ↓reduceIte, Nat.reduceEqDiff, Nat.reduceAdd, Nat.reduceLeDiff, Nat.reduceMul, Nat.reduceSub, Int.reduceLE, Int.reduceLT, Int.reduceEq, Int.reduceToNat, Int.reducePow, Int.reduceNeg]
    refine hK1 _ ?_; clear hK1
    refine bwp_seq fun K hK => bwp_region rfl ?_
    simp -implicitDefEqProofs only [go_sem, ↓reduceIte, Nat.reduceEqDiff, Nat.reduceAdd, Nat.reduceLeDiff, Nat.reduceMul, Nat.reduceSub, Int.reduceLE, Int.reduceLT, Int.reduceEq, Int.reduceToNat, Int.reducePow, Int.reduceNeg, decide_true]
    repeat' (first
      | (refine gateK_split (fun hb => ?_) (fun hb => ?_) <;> simp -implicitDefEqProofs only [go_sem, ↓reduceIte, Nat.reduceEqDiff, Nat.reduceAdd, Nat.reduceLeDiff, Nat.reduceMul, Nat.reduceSub, Int.reduceLE, Int.reduceLT, Int.reduceEq, Int.reduceToNat, Int.reducePow, Int.reduceNeg, hb, decide_true])
      | (refine dGateK_split (fun hb => ?_) (fun hb => ?_) <;> simp -implicitDefEqProofs only [go_sem, ↓reduceIte, Nat.reduceEqDiff, Nat.reduceAdd, Nat.reduceLeDiff, Nat.reduceMul, Nat.reduceSub, Int.reduceLE, Int.reduceLT, Int.reduceEq, Int.reduceToNat, Int.reducePow, Int.reduceNeg, hb, decide_true])
      | (refine callK_pure (awake2_pure) rfl rfl ?_; simp -implicitDefEqProofs only [go_sem, ↓reduceIte, Nat.reduceEqDiff, Nat.reduceAdd, Nat.reduceLeDiff, Nat.reduceMul, Nat.reduceSub, Int.reduceLE, Int.reduceLT, Int.reduceEq, Int.reduceToNat, Int.reducePow, Int.reduceNeg, decide_true])
      | (refine dCallK_pure (awake2_pure) rfl rfl ?_; simp -implicitDefEqProofs only [go_sem, ↓reduceIte, Nat.reduceEqDiff, Nat.reduceAdd, Nat.reduceLeDiff, Nat.reduceMul, Nat.reduceSub, Int.reduceLE, Int.reduceLT, Int.reduceEq, Int.reduceToNat, Int.reducePow, Int.reduceNeg, decide_true])
      | (rw [if_pos (by (try simp only [List.length_append, List.length_cons, List.length_nil, List.length_map]); omega)]; simp -implicitDefEqProofs only [go_sem, ↓reduceIte, Nat.reduceEqDiff, Nat.reduceAdd, Nat.reduceLeDiff, Nat.reduceMul, Nat.reduceSub, Int.reduceLE, Int.reduceLT, Int.reduceEq, Int.reduceToNat, Int.reducePow, Int.reduceNeg, decide_true]))
    refine hK _ ?_; clear hK
    refine bwp_ret ?_
    simp only [go_sem]
    refine aend_ret _ rfl rfl ⟨?_, rfl⟩
    simp [fget]
  · obtain ⟨hl, hp⟩ := hfacts h0
    have q1 : (0 : Int) ≤ (pl : Int) := Int.natCast_nonneg _
    have q2 : (pl : Int) ≤ s.length := by omega
    rw [hl] at hlen
    refine bwp_seq fun K hK => bwp_region rfl ?_
    simp -implicitDefEqProofs only [go_sem, ↓reduceIte, Nat.reduceEqDiff, Nat.reduceAdd, Nat.reduceLeDiff, Nat.reduceMul, Nat.reduceSub, Int.reduceLE, Int.reduceLT, Int.reduceEq, Int.reduceToNat, Int.reducePow, Int.reduceNeg, h0]
    refine hK _ ?_; clear hK
    refine bwp_cond true (by simp [ev, fget]) (fun _ => ?_) (fun h => nomatch h)
    refine bwp_seq fun K hK => bwp_region rfl ?_
    simp -implicitDefEqProofs only [go_sem, ↓reduceIte, Nat.reduceEqDiff, Nat.reduceAdd, Nat.reduceLeDiff, Nat.reduceMul, Nat.reduceSub, Int.reduceLE, Int.reduceLT, Int.reduceEq, Int.reduceToNat, Int.reducePow, Int.reduceNeg, q1, q2, hlen, decide_true]
    repeat' (first
      | (refine gateK_split (fun hb => ?_) (fun hb => ?_) <;> simp -implicitDefEqProofs only [go_sem, ↓reduceIte, Nat.reduceEqDiff, Nat.reduceAdd, Nat.reduceLeDiff, Nat.reduceMul, Nat.reduceSub, Int.reduceLE, Int.reduceLT, Int.reduceEq, Int.reduceToNat, Int.reducePow, Int.reduceNeg, hb, q1, q2, hlen, decide_true])
      | (refine dGateK_split (fun hb => ?_) (fun hb => ?_) <;> simp -implicitDefEqProofs only [go_sem, ↓reduceIte, Nat.reduceEqDiff, Nat.reduceAdd, Nat.reduceLeDiff, Nat.reduceMul, Nat.reduceSub, Int.reduceLE, Int.reduceLT, Int.reduceEq, Int.reduceToNat, Int.reducePow, Int.reduceNeg, hb, q1, q2, hlen, decide_true])
      | (refine callK_pure (awake2_pure) rfl rfl ?_; simp -implicitDefEqProofs only [go_sem, ↓reduceIte, Nat.reduceEqDiff, Nat.reduceAdd, Nat.reduceLeDiff, Nat.reduceMul, Nat.reduceSub, Int.reduceLE, Int.reduceLT, Int.reduceEq, Int.reduceToNat, Int.reducePow, Int.reduceNeg, q1, q2, hlen, decide_true])
      | (refine dCallK_pure (awake2_pure) rfl rfl ?_; simp -implicitDefEqProofs only [go_sem, ↓reduceIte, Nat.reduceEqDiff, Nat.reduceAdd, Nat.reduceLeDiff, Nat.reduceMul, Nat.reduceSub, Int.reduceLE, Int.reduceLT, Int.reduceEq, Int.reduceToNat, Int.reducePow, Int.reduceNeg, q1, q2, hlen, decide_true])
      | (rw [if_pos (by (try simp only [List.length_append, List.length_cons, List.length_nil, List.length_map]); omega)]; simp -implicitDefEqProofs only [go_sem, ↓reduceIte, Nat.reduceEqDiff, Nat.reduceAdd, Nat.reduceLeDiff, Nat.reduceMul, Nat.reduceSub, Int.reduceLE, Int.reduceLT, Int.reduceEq, Int.reduceToNat, Int.reducePow, Int.reduceNeg, q1, q2, hlen, decide_true]))
    refine hK _ ?_; clear hK
    refine bwp_ret ?_
    simp only [go_sem]
    refine aend_ret _ rfl rfl ⟨?_, rfl⟩
    simp [fget]

end Go.Proofs.YtpfbljkfbjjlkaaDoor
