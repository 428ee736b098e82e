/- Which tests are small enough, by the document's answer: skips and atoms. -/
import Derived.Test.YtjfghjakpjfgpaaR5
namespace Go.Proofs.Ytjfghjakpjfgpaa
open Go Go.Jq
set_option maxRecDepth 100000
set_option linter.unusedSimpArgs false

def refJumpBad (n k : Nat) (x : Ins) : Bool := decide (x.kind = 6) && (decide (x.n = 0) || decide ((n : Int) - k ≤ x.n))
def refJumpAt (l : List Ins) (k : Nat) : Bool := match l[k]? with
  | some x => refJumpBad l.length k x
  | none => false
def refJumps (l : List Ins) : Bool := (List.range l.length).any (refJumpAt l)

theorem rk_jump1 {rows : List (List Ins)} {nm : List UInt8} {I T A : DV} {kd : Int} (hT : IsSl2 Ins.cells rows T) {j : Nat} (hj : j < rows.length) {Q : Exit → St → Prop}
    (hbad : refJumps rows[j] = true → ∀ S, fget S.t 2 = .d (.int .i64 10) → Q .ret S) (hgood : refJumps rows[j] = false → Q (.exit 10) (rkS [.str nm, I, T, .int .i64 kd, A] [(9, .d (.int .i64 j))])) :
    BWP Try.prog (mbound []) 204 (.loop ac21L4) (rkS [.str nm, I, T, .int .i64 kd, A] [(10, .d (.int .i64 (0 : Nat))), (9, .d (.int .i64 j))]) Q := by
  obtain ⟨cs2, d, rest2, hTe, hd, hjc, hD⟩ := hT.at j hj
  have hjl : (j : Int) < rows.length := by omega
  generalize rows[j] = l at hD hbad hgood
  have hbig := hD.1
  have hlen' := hD.len
  refine bwp_countI (fun k => rkS [.str nm, I, T, .int .i64 kd, A] [(10, .d (.int .i64 (k : Nat))), (9, .d (.int .i64 j))]) (fun k => ∀ i, i < k → refJumpAt l i = false) l.length (fun i h => by omega) ?_
  intro k hk hp
  unfold ac21L4 rkS
  refine bwp_seq fun K1 hK1 => ?_
  by_cases hlt : k < l.length
  · have hlt' : (k : Int) < l.length := by omega
    obtain ⟨cs, rest, hIe, hdrop, hcs⟩ := hD.at ins_len (by omega) k hlt
    have hw : IntKind.i64.wrap ((k : Int) + 1) = ((k + 1 : Nat) : Int) := by rw [wrap_i64 (by omega) (by omega)]; rfl
    have hwk : IntKind.i64.wrap ((l.length : Int) - k) = (l.length : Int) - k := wrap_i64 (by omega) (by omega)
    have hl9 : ∀ (n : Nat), (9 ≤ (n + 1 + 1 + 1 + 1 + 1 + 1 + 1 + 1 + 1)) = True := fun n => by simp
    have hat : refJumpAt l k = refJumpBad l.length k l[k] := by unfold refJumpAt; rw [List.getElem?_eq_getElem hlt]
    generalize l[k] = a at *
    refine bwp_seq fun K hK => bwp_region rfl ?_
    simp -implicitDefEqProofs only [go_sem, ↓reduceIte, Nat.reduceEqDiff, Nat.reduceAdd, Nat.reduceLeDiff, Nat.reduceMul, Nat.reduceSub, Int.reduceLE, Int.reduceLT, Int.reduceEq, Int.reduceToNat, Int.reducePow, Int.reduceNeg, hTe, hjl, Int.natCast_nonneg, Int.toNat_natCast, Nat.mul_one, hjc, hd, hlen', hlt']
    refine hK _ ?_; clear hK
    refine bwp_cond true (by simp [ev, fget]) (fun _ => ?_) (fun h => nomatch h)
    refine bwp_skip ?_
    refine hK1 _ ?_; clear hK1
    refine bwp_seq fun K1 hK1 => ?_
    refine bwp_block ?_
    refine bwp_seq fun K hK => bwp_region rfl ?_
    simp -implicitDefEqProofs only [go_sem, ↓reduceIte, Nat.reduceEqDiff, Nat.reduceAdd, Nat.reduceLeDiff, Nat.reduceMul, Nat.reduceSub, Int.reduceLE, Int.reduceLT, Int.reduceEq, Int.reduceToNat, Int.reducePow, Int.reduceNeg, hTe, hjl, Nat.mul_one, hjc, hd, hIe, hlt', Int.natCast_nonneg, Int.toNat_natCast, hcs, hdrop, Ins.cells, hl9]
    refine hK _ ?_; clear hK
    refine bwp_seq fun K hK => bwp_region_draw rfl rfl ?_
    have fin : ∀ (t : Fr) (n : Nat) (b : Bool), fget t 170 = .d (.bool b) → b = refJumpBad l.length k a → fget t 1 = .dptr [.str nm, I, T, .int .i64 kd, A] → fget t 2 = .d (.int .i64 0) → fget t 9 = .d (.int .i64 j) → fget t 10 = .d (.int .i64 k) →
        K ⟨t, [(0, [.d (.int .i64 a.kind), .d (.int .i64 a.reg), .d (.int .i64 a.loc), .d (.int .i64 a.a.reg), .d (.int .i64 a.a.value), .d (.int .i64 a.op), .d (.int .i64 a.b.reg), .d (.int .i64 a.b.value), .d (.int .i64 a.n)])], n⟩ := by
      intro t n b h170 hb h1 h2 h9 h10
      refine hK _ ?_; clear hK
      cases hbb : refJumpBad l.length k a
      · rw [hbb] at hb
        subst hb
        refine bwp_cond false (by simp [ev, fget, h170]) (fun h => nomatch h) (fun _ => ?_)
        refine bwp_skip ?_
        simp -implicitDefEqProofs only [go_sem, ↓reduceIte, Nat.reduceEqDiff, Nat.reduceAdd, Nat.reduceLeDiff, Nat.reduceMul, Nat.reduceSub, Int.reduceLE, Int.reduceLT, Int.reduceEq, Int.reduceToNat, Int.reducePow, Int.reduceNeg]
        refine hK1 _ ?_; clear hK1
        refine bwp_region (by simp [mbound]) ?_
        simp -implicitDefEqProofs only [go_sem, ↓reduceIte, Nat.reduceEqDiff, Nat.reduceAdd, Nat.reduceLeDiff, Nat.reduceMul, Nat.reduceSub, Int.reduceLE, Int.reduceLT, Int.reduceEq, Int.reduceToNat, Int.reducePow, Int.reduceNeg, h10, hw]
        refine ⟨hlt, ?_, Leads.ent [] ⟨by simp [entT, fget, AV.ren, pget, h1, h2, h9], by simp [entM], rfl, rfl⟩⟩
        intro i hi
        by_cases hik : i = k
        · subst hik; rw [hat]; exact hbb
        · exact hp i (by omega)
      · rw [hbb] at hb
        subst hb
        refine bwp_cond true (by simp [ev, fget, h170]) (fun _ => ?_) (fun h => nomatch h)
        refine bwp_seq fun K hK => bwp_region (by simp [mbound]) ?_
        simp -implicitDefEqProofs only [go_sem, ↓reduceIte, Nat.reduceEqDiff, Nat.reduceAdd, Nat.reduceLeDiff, Nat.reduceMul, Nat.reduceSub, Int.reduceLE, Int.reduceLT, Int.reduceEq, Int.reduceToNat, Int.reducePow, Int.reduceNeg]
        refine hK _ ?_; clear hK
        refine bwp_ret ?_
        simp -implicitDefEqProofs only [go_sem, ↓reduceIte, Nat.reduceEqDiff, Nat.reduceAdd, Nat.reduceLeDiff, Nat.reduceMul, Nat.reduceSub, Int.reduceLE, Int.reduceLT, Int.reduceEq, Int.reduceToNat, Int.reducePow, Int.reduceNeg]
        exact hbad (List.any_eq_true.2 ⟨k, List.mem_range.2 hlt, by rw [hat]; exact hbb⟩) _ rfl
    clear hK
    simp -implicitDefEqProofs only [go_sem, ↓reduceIte, Nat.reduceEqDiff, Nat.reduceAdd, Nat.reduceLeDiff, Nat.reduceMul, Nat.reduceSub, Int.reduceLE, Int.reduceLT, Int.reduceEq, Int.reduceToNat, Int.reducePow, Int.reduceNeg]
    repeat' (first
      | (refine gateK_split (fun hb => ?_) (fun hb => ?_) <;> simp -implicitDefEqProofs only [go_sem, ↓reduceIte, Nat.reduceEqDiff, Nat.reduceAdd, Nat.reduceLeDiff, Nat.reduceMul, Nat.reduceSub, Int.reduceLE, Int.reduceLT, Int.reduceEq, Int.reduceToNat, Int.reducePow, Int.reduceNeg, hb, hTe, hjl, Int.natCast_nonneg, Int.toNat_natCast, Nat.mul_one, hjc, hd, hlen', hwk])
      | (refine dGateK_split (fun hb => ?_) (fun hb => ?_) <;> simp -implicitDefEqProofs only [go_sem, ↓reduceIte, Nat.reduceEqDiff, Nat.reduceAdd, Nat.reduceLeDiff, Nat.reduceMul, Nat.reduceSub, Int.reduceLE, Int.reduceLT, Int.reduceEq, Int.reduceToNat, Int.reducePow, Int.reduceNeg, hb, hTe, hjl, Int.natCast_nonneg, Int.toNat_natCast, Nat.mul_one, hjc, hd, hlen', hwk]))
    all_goals exact ⟨rfl, fin _ _ _ rfl (by clear fin hK1 hbad hgood; simp_all [refJumpBad]) (by simp [fget, hTe]) rfl rfl rfl⟩
  · have hlt' : ¬ (k : Int) < l.length := by omega
    have hin : k = l.length := by omega
    subst hin
    refine bwp_seq fun K hK => bwp_region rfl ?_
    simp -implicitDefEqProofs only [go_sem, ↓reduceIte, Nat.reduceEqDiff, Nat.reduceAdd, Nat.reduceLeDiff, Nat.reduceMul, Nat.reduceSub, Int.reduceLE, Int.reduceLT, Int.reduceEq, Int.reduceToNat, Int.reducePow, Int.reduceNeg, hTe, hjl, Int.natCast_nonneg, Int.toNat_natCast, Nat.mul_one, hjc, hd, hlen', hlt']
    refine hK _ ?_; clear hK
    refine bwp_cond false (by simp [ev, fget]) (fun h => nomatch h) (fun _ => ?_)
    refine bwp_leads (S' := rkS [.str nm, I, T, .int .i64 kd, A] [(9, .d (.int .i64 j))]) (Leads.ent [] ⟨by simp [entT, fget, AV.ren, renL, pget, rkS, hTe], by simp [entM, pinv, mget, mset, renL, AV.ren, pget, renL_append, -List.map_map, rkS, hTe], rfl, rfl⟩) ?_
    refine bwp_exit (hgood ?_)
    unfold refJumps
    rw [List.any_eq_false]
    intro i hi
    rw [hp i (List.mem_range.1 hi)]; decide

theorem rk_jumps {rows : List (List Ins)} {nm : List UInt8} {I T A : DV} {kd : Int} (hT : IsSl2 Ins.cells rows T) {Q : Exit → St → Prop}
    (hbad : rows.any refJumps = true → ∀ S, fget S.t 2 = .d (.int .i64 10) → Q .ret S) (hgood : rows.any refJumps = false → Q (.exit 8) (rkS [.str nm, I, T, .int .i64 kd, A] [])) :
    BWP Try.prog (mbound []) 204 (.loop ac21L5) (rkS [.str nm, I, T, .int .i64 kd, A] [(9, .d (.int .i64 (0 : Nat)))]) Q := by
  have hbig := hT.big
  have hlen' := hT.len
  refine bwp_countI (fun j => rkS [.str nm, I, T, .int .i64 kd, A] [(9, .d (.int .i64 (j : Nat)))]) (fun j => ∀ l ∈ rows.take j, refJumps l = false) rows.length (by simp) ?_
  intro j hj hp
  unfold ac21L5
  refine bwp_seq fun K1 hK1 => ?_
  by_cases hlt : j < rows.length
  · have hlt' : (j : Int) < rows.length := by omega
    have hw : IntKind.i64.wrap ((j : Int) + 1) = ((j + 1 : Nat) : Int) := by rw [wrap_i64 (by omega) (by omega)]; rfl
    have hmem : rows[j] ∈ rows := List.getElem_mem hlt
    have htk := take_snoc rows j hlt
    have hrow := @rk_jump1 rows nm I T A kd hT j hlt
    unfold rkS
    refine bwp_seq fun K hK => bwp_region rfl ?_
    simp -implicitDefEqProofs only [go_sem, ↓reduceIte, Nat.reduceEqDiff, Nat.reduceAdd, Nat.reduceLeDiff, Nat.reduceMul, Nat.reduceSub, Int.reduceLE, Int.reduceLT, Int.reduceEq, Int.reduceToNat, Int.reducePow, Int.reduceNeg, hlen', hlt']
    refine hK _ ?_; clear hK
    refine bwp_cond true (by simp [ev, fget]) (fun _ => ?_) (fun h => nomatch h)
    refine bwp_skip ?_
    refine hK1 _ ?_; clear hK1
    refine bwp_seq fun K1 hK1 => ?_
    refine bwp_block ?_
    refine bwp_seq fun K hK => bwp_region rfl ?_
    simp -implicitDefEqProofs only [go_sem, ↓reduceIte, Nat.reduceEqDiff, Nat.reduceAdd, Nat.reduceLeDiff, Nat.reduceMul, Nat.reduceSub, Int.reduceLE, Int.reduceLT, Int.reduceEq, Int.reduceToNat, Int.reducePow, Int.reduceNeg]
    refine hK _ ?_; clear hK
    refine bwp_block ?_
    refine bwp_leads (S' := rkS [.str nm, I, T, .int .i64 kd, A] [(10, .d (.int .i64 (0 : Nat))), (9, .d (.int .i64 j))]) (Leads.ent [] ⟨by simp [entT, fget, AV.ren, renL, pget, rkS], by simp [entM, pinv, mget, mset, renL, AV.ren, pget, renL_append, -List.map_map, rkS], rfl, rfl⟩) ?_
    refine hrow ?_ ?_
    · intro hb S hS
      simp -implicitDefEqProofs only [go_sem, ↓reduceIte, Nat.reduceEqDiff, Nat.reduceAdd, Nat.reduceLeDiff, Nat.reduceMul, Nat.reduceSub, Int.reduceLE, Int.reduceLT, Int.reduceEq, Int.reduceToNat, Int.reducePow, Int.reduceNeg]
      exact hbad (List.any_eq_true.2 ⟨_, hmem, hb⟩) _ hS
    · intro hb
      unfold rkS
      simp -implicitDefEqProofs only [go_sem, ↓reduceIte, Nat.reduceEqDiff, Nat.reduceAdd, Nat.reduceLeDiff, Nat.reduceMul, Nat.reduceSub, Int.reduceLE, Int.reduceLT, Int.reduceEq, Int.reduceToNat, Int.reducePow, Int.reduceNeg]
      refine hK1 _ ?_; clear hK1
      refine bwp_region rfl ?_
      simp -implicitDefEqProofs only [go_sem, ↓reduceIte, Nat.reduceEqDiff, Nat.reduceAdd, Nat.reduceLeDiff, Nat.reduceMul, Nat.reduceSub, Int.reduceLE, Int.reduceLT, Int.reduceEq, Int.reduceToNat, Int.reducePow, Int.reduceNeg, hw]
      refine ⟨hlt, ?_, Leads.ent [] ⟨by simp [rkS, entT, fget, AV.ren, pget], by simp [rkS, entM], rfl, rfl⟩⟩
      intro l hl
      rw [htk, List.mem_append] at hl
      rcases hl with hl | hl
      · exact hp l hl
      · simp only [List.mem_singleton] at hl
        subst hl
        exact hb
  · have hlt' : ¬ (j : Int) < rows.length := by omega
    have hin : j = rows.length := by omega
    subst hin
    rw [List.take_of_length_le (Nat.le_refl _)] at hp
    unfold rkS
    refine bwp_seq fun K hK => bwp_region rfl ?_
    simp -implicitDefEqProofs only [go_sem, ↓reduceIte, Nat.reduceEqDiff, Nat.reduceAdd, Nat.reduceLeDiff, Nat.reduceMul, Nat.reduceSub, Int.reduceLE, Int.reduceLT, Int.reduceEq, Int.reduceToNat, Int.reducePow, Int.reduceNeg, hlen', hlt']
    refine hK _ ?_; clear hK
    refine bwp_cond false (by simp [ev, fget]) (fun h => nomatch h) (fun _ => ?_)
    refine bwp_leads (S' := rkS [.str nm, I, T, .int .i64 kd, A] []) (Leads.ent [] ⟨by simp [entT, fget, AV.ren, renL, pget, rkS], by simp [entM, pinv, mget, mset, renL, AV.ren, pget, renL_append, -List.map_map, rkS], rfl, rfl⟩) ?_
    refine bwp_exit (hgood ?_)
    rw [List.any_eq_false]
    intro l hl
    rw [hp l hl]; decide

def refFar (n : Nat) (a : Atom) : Bool := decide ((n : Int) ≤ a.thread)

theorem rk_far1 {rows : List (List Atom)} {th : List (List Ins)} {nm : List UInt8} {I T A : DV} {kd : Int} (hT : IsSl2 Ins.cells th T) (hA : IsSl2 Atom.cells rows A) {j : Nat} (hj : j < rows.length) {Q : Exit → St → Prop}
    (hbad : rows[j].any (refFar th.length) = true → ∀ S, fget S.t 2 = .d (.int .i64 10) → Q .ret S) (hgood : rows[j].any (refFar th.length) = false → Q (.exit 14) (rkS [.str nm, I, T, .int .i64 kd, A] [(12, .d (.int .i64 j))])) :
    BWP Try.prog (mbound []) 204 (.loop ac21L6) (rkS [.str nm, I, T, .int .i64 kd, A] [(13, .d (.int .i64 (0 : Nat))), (12, .d (.int .i64 j))]) Q := by
  obtain ⟨cs2, d, rest2, hTe, hd, hjc, hD⟩ := hA.at j hj
  have hjl : (j : Int) < rows.length := by omega
  generalize rows[j] = l at hD hbad hgood
  have hbig := hD.1
  have hlen' := hD.len
  have hTl := hT.len
  refine bwp_countI (fun k => rkS [.str nm, I, T, .int .i64 kd, A] [(13, .d (.int .i64 (k : Nat))), (12, .d (.int .i64 j))]) (fun k => ∀ a ∈ l.take k, refFar th.length a = false) l.length (by simp) ?_
  intro k hk hp
  unfold ac21L6 rkS
  refine bwp_seq fun K1 hK1 => ?_
  by_cases hlt : k < l.length
  · have hlt' : (k : Int) < l.length := by omega
    obtain ⟨cs, rest, hIe, hdrop, hcs⟩ := hD.at atom_len (by omega) k hlt
    have hw : IntKind.i64.wrap ((k : Int) + 1) = ((k + 1 : Nat) : Int) := by rw [wrap_i64 (by omega) (by omega)]; rfl
    have hmem : l[k] ∈ l := List.getElem_mem hlt
    have htk := take_snoc l k hlt
    generalize l[k] = a at *
    refine bwp_seq fun K hK => bwp_region rfl ?_
    simp -implicitDefEqProofs only [go_sem, ↓reduceIte, Nat.reduceEqDiff, Nat.reduceAdd, Nat.reduceLeDiff, Nat.reduceMul, Nat.reduceSub, Int.reduceLE, Int.reduceLT, Int.reduceEq, Int.reduceToNat, Int.reducePow, Int.reduceNeg, hTe, hjl, Int.natCast_nonneg, Int.toNat_natCast, Nat.mul_one, hjc, hd, hlen', hlt']
    refine hK _ ?_; clear hK
    refine bwp_cond true (by simp [ev, fget]) (fun _ => ?_) (fun h => nomatch h)
    refine bwp_skip ?_
    refine hK1 _ ?_; clear hK1
    refine bwp_seq fun K1 hK1 => ?_
    refine bwp_block ?_
    refine bwp_seq fun K hK => bwp_region_draw rfl rfl ?_
    simp -implicitDefEqProofs only [go_sem, ↓reduceIte, Nat.reduceEqDiff, Nat.reduceAdd, Nat.reduceLeDiff, Nat.reduceMul, Nat.reduceSub, Int.reduceLE, Int.reduceLT, Int.reduceEq, Int.reduceToNat, Int.reducePow, Int.reduceNeg, hTe, hjl, Nat.mul_one, hjc, hd, hIe, hlt', Int.natCast_nonneg, Int.toNat_natCast, hcs, hdrop, Atom.cells, hTl]
    refine ⟨rfl, hK _ ?_⟩; clear hK
    by_cases hf : (th.length : Int) ≤ a.thread
    · refine bwp_cond true (by simp [ev, fget, hf]) (fun _ => ?_) (fun h => nomatch h)
      refine bwp_seq fun K hK => bwp_region rfl ?_
      simp -implicitDefEqProofs only [go_sem, ↓reduceIte, Nat.reduceEqDiff, Nat.reduceAdd, Nat.reduceLeDiff, Nat.reduceMul, Nat.reduceSub, Int.reduceLE, Int.reduceLT, Int.reduceEq, Int.reduceToNat, Int.reducePow, Int.reduceNeg]
      refine hK _ ?_; clear hK
      refine bwp_ret ?_
      simp -implicitDefEqProofs only [go_sem, ↓reduceIte, Nat.reduceEqDiff, Nat.reduceAdd, Nat.reduceLeDiff, Nat.reduceMul, Nat.reduceSub, Int.reduceLE, Int.reduceLT, Int.reduceEq, Int.reduceToNat, Int.reducePow, Int.reduceNeg]
      exact hbad (List.any_eq_true.2 ⟨a, hmem, by simp [refFar, hf]⟩) _ rfl
    · refine bwp_cond false (by simp [ev, fget, hf]) (fun h => nomatch h) (fun _ => ?_)
      refine bwp_skip ?_
      simp -implicitDefEqProofs only [go_sem, ↓reduceIte, Nat.reduceEqDiff, Nat.reduceAdd, Nat.reduceLeDiff, Nat.reduceMul, Nat.reduceSub, Int.reduceLE, Int.reduceLT, Int.reduceEq, Int.reduceToNat, Int.reducePow, Int.reduceNeg]
      refine hK1 _ ?_; clear hK1
      refine bwp_region rfl ?_
      simp -implicitDefEqProofs only [go_sem, ↓reduceIte, Nat.reduceEqDiff, Nat.reduceAdd, Nat.reduceLeDiff, Nat.reduceMul, Nat.reduceSub, Int.reduceLE, Int.reduceLT, Int.reduceEq, Int.reduceToNat, Int.reducePow, Int.reduceNeg, hw]
      refine ⟨hlt, ?_, Leads.ent [] ⟨by simp [entT, fget, AV.ren, pget, hTe], by simp [entM], rfl, rfl⟩⟩
      intro b hb
      rw [htk, List.mem_append] at hb
      rcases hb with hb | hb
      · exact hp b hb
      · simp only [List.mem_singleton] at hb; rw [hb]; simp [refFar, hf]
  · have hlt' : ¬ (k : Int) < l.length := by omega
    have hin : k = l.length := by omega
    subst hin
    rw [List.take_of_length_le (Nat.le_refl _)] at hp
    refine bwp_seq fun K hK => bwp_region rfl ?_
    simp -implicitDefEqProofs only [go_sem, ↓reduceIte, Nat.reduceEqDiff, Nat.reduceAdd, Nat.reduceLeDiff, Nat.reduceMul, Nat.reduceSub, Int.reduceLE, Int.reduceLT, Int.reduceEq, Int.reduceToNat, Int.reducePow, Int.reduceNeg, hTe, hjl, Int.natCast_nonneg, Int.toNat_natCast, Nat.mul_one, hjc, hd, hlen', hlt']
    refine hK _ ?_; clear hK
    refine bwp_cond false (by simp [ev, fget]) (fun h => nomatch h) (fun _ => ?_)
    refine bwp_leads (S' := rkS [.str nm, I, T, .int .i64 kd, A] [(12, .d (.int .i64 j))]) (Leads.ent [] ⟨by simp [entT, fget, AV.ren, renL, pget, rkS, hTe], by simp [entM, pinv, mget, mset, renL, AV.ren, pget, renL_append, -List.map_map, rkS, hTe], rfl, rfl⟩) ?_
    refine bwp_exit (hgood ?_)
    rw [List.any_eq_false]
    intro a ha
    rw [hp a ha]; decide

theorem rk_fars {rows : List (List Atom)} {th : List (List Ins)} {nm : List UInt8} {I T A : DV} {kd : Int} (hT : IsSl2 Ins.cells th T) (hA : IsSl2 Atom.cells rows A) {Q : Exit → St → Prop}
    (hbad : (rows.any fun l => l.any (refFar th.length)) = true → ∀ S, fget S.t 2 = .d (.int .i64 10) → Q .ret S) (hgood : (rows.any fun l => l.any (refFar th.length)) = false → ∀ S, Q (.exit 12) S) :
    BWP Try.prog (mbound []) 204 (.loop ac21L7) (rkS [.str nm, I, T, .int .i64 kd, A] [(12, .d (.int .i64 (0 : Nat)))]) Q := by
  have hbig := hA.big
  have hlen' := hA.len
  refine bwp_countI (fun j => rkS [.str nm, I, T, .int .i64 kd, A] [(12, .d (.int .i64 (j : Nat)))]) (fun j => ∀ l ∈ rows.take j, l.any (refFar th.length) = false) rows.length (by simp) ?_
  intro j hj hp
  unfold ac21L7
  refine bwp_seq fun K1 hK1 => ?_
  by_cases hlt : j < rows.length
  · have hlt' : (j : Int) < rows.length := by omega
    have hw : IntKind.i64.wrap ((j : Int) + 1) = ((j + 1 : Nat) : Int) := by rw [wrap_i64 (by omega) (by omega)]; rfl
    have hmem : rows[j] ∈ rows := List.getElem_mem hlt
    have htk := take_snoc rows j hlt
    have hrow := @rk_far1 rows th nm I T A kd hT hA j hlt
    unfold rkS
    refine bwp_seq fun K hK => bwp_region rfl ?_
    simp -implicitDefEqProofs only [go_sem, ↓reduceIte, Nat.reduceEqDiff, Nat.reduceAdd, Nat.reduceLeDiff, Nat.reduceMul, Nat.reduceSub, Int.reduceLE, Int.reduceLT, Int.reduceEq, Int.reduceToNat, Int.reducePow, Int.reduceNeg, hlen', hlt']
    refine hK _ ?_; clear hK
    refine bwp_cond true (by simp [ev, fget]) (fun _ => ?_) (fun h => nomatch h)
    refine bwp_skip ?_
    refine hK1 _ ?_; clear hK1
    refine bwp_seq fun K1 hK1 => ?_
    refine bwp_block ?_
    refine bwp_seq fun K hK => bwp_region rfl ?_
    simp -implicitDefEqProofs only [go_sem, ↓reduceIte, Nat.reduceEqDiff, Nat.reduceAdd, Nat.reduceLeDiff, Nat.reduceMul, Nat.reduceSub, Int.reduceLE, Int.reduceLT, Int.reduceEq, Int.reduceToNat, Int.reducePow, Int.reduceNeg]
    refine hK _ ?_; clear hK
    refine bwp_block ?_
    refine bwp_leads (S' := rkS [.str nm, I, T, .int .i64 kd, A] [(13, .d (.int .i64 (0 : Nat))), (12, .d (.int .i64 j))]) (Leads.ent [] ⟨by simp [entT, fget, AV.ren, renL, pget, rkS], by simp [entM, pinv, mget, mset, renL, AV.ren, pget, renL_append, -List.map_map, rkS], rfl, rfl⟩) ?_
    refine hrow ?_ ?_
    · intro hb S hS
      simp -implicitDefEqProofs only [go_sem, ↓reduceIte, Nat.reduceEqDiff, Nat.reduceAdd, Nat.reduceLeDiff, Nat.reduceMul, Nat.reduceSub, Int.reduceLE, Int.reduceLT, Int.reduceEq, Int.reduceToNat, Int.reducePow, Int.reduceNeg]
      exact hbad (List.any_eq_true.2 ⟨_, hmem, hb⟩) _ hS
    · intro hb
      unfold rkS
      simp -implicitDefEqProofs only [go_sem, ↓reduceIte, Nat.reduceEqDiff, Nat.reduceAdd, Nat.reduceLeDiff, Nat.reduceMul, Nat.reduceSub, Int.reduceLE, Int.reduceLT, Int.reduceEq, Int.reduceToNat, Int.reducePow, Int.reduceNeg]
      refine hK1 _ ?_; clear hK1
      refine bwp_region rfl ?_
      simp -implicitDefEqProofs only [go_sem, ↓reduceIte, Nat.reduceEqDiff, Nat.reduceAdd, Nat.reduceLeDiff, Nat.reduceMul, Nat.reduceSub, Int.reduceLE, Int.reduceLT, Int.reduceEq, Int.reduceToNat, Int.reducePow, Int.reduceNeg, hw]
      refine ⟨hlt, ?_, Leads.ent [] ⟨by simp [rkS, entT, fget, AV.ren, pget], by simp [rkS, entM], rfl, rfl⟩⟩
      intro l hl
      rw [htk, List.mem_append] at hl
      rcases hl with hl | hl
      · exact hp l hl
      · simp only [List.mem_singleton] at hl
        subst hl
        exact hb
  · have hlt' : ¬ (j : Int) < rows.length := by omega
    have hin : j = rows.length := by omega
    subst hin
    rw [List.take_of_length_le (Nat.le_refl _)] at hp
    unfold rkS
    refine bwp_seq fun K hK => bwp_region rfl ?_
    simp -implicitDefEqProofs only [go_sem, ↓reduceIte, Nat.reduceEqDiff, Nat.reduceAdd, Nat.reduceLeDiff, Nat.reduceMul, Nat.reduceSub, Int.reduceLE, Int.reduceLT, Int.reduceEq, Int.reduceToNat, Int.reducePow, Int.reduceNeg, hlen', hlt']
    refine hK _ ?_; clear hK
    refine bwp_cond false (by simp [ev, fget]) (fun h => nomatch h) (fun _ => ?_)
    refine bwp_exit (hgood ?_ _)
    rw [List.any_eq_false]
    intro l hl
    rw [hp l hl]; decide

end Go.Proofs.Ytjfghjakpjfgpaa
