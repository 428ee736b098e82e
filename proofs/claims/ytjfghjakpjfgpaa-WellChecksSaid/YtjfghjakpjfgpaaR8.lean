/- WellChecks comes to true, whatever it is given. -/
import Derived.Test.YtjfghjakpjfgpaaR7
import Derived.Test.YtjfghjakpjfgpaaG2
import Derived.Test.YtjfghjakpjfgpaaG8
import Derived.Test.YtjfghjakpjfgpaaXH
namespace Go.Proofs.Ytjfghjakpjfgpaa
open Go Go.Jq
set_option maxRecDepth 100000
set_option linter.unusedSimpArgs false

def few0 (t : Test) : Bool := decide ((6 : Int) < t.threads.length) || (decide ((40 : Int) < t.inits.length) || (decide ((60 : Int) < t.name.length) || decide ((12 : Int) < t.rows.length)))
def fewB (t : Test) : Bool := !few0 t && !(t.threads.any fun l => decide (30 < l.length)) && !(t.rows.any fun l => decide (12 < l.length))

theorem few_threads {rows : List (List Ins)} {nm : List UInt8} {I T A : DV} {kd : Int} (hT : IsSl2 Ins.cells rows T) {Q : Exit → St → Prop}
    (hbad : (rows.any fun l => decide (30 < l.length)) = true → ∀ S, fget S.t 2 = .d (.bool false) → Q .ret S) (hgood : (rows.any fun l => decide (30 < l.length)) = false → Q (.exit 0) (rcS [.str nm, I, T, .int .i64 kd, A] [])) :
    BWP Try.prog (mbound []) 58 (.loop ac19L0) (rcS [.str nm, I, T, .int .i64 kd, A] [(3, .d (.int .i64 (0 : Nat)))]) Q := by
  have hbig := hT.big
  have hlen' := hT.len
  refine bwp_countI (fun j => rcS [.str nm, I, T, .int .i64 kd, A] [(3, .d (.int .i64 (j : Nat)))]) (fun j => ∀ l ∈ rows.take j, ¬ 30 < l.length) rows.length (by simp) ?_
  intro j hj hp
  unfold ac19L0 rcS
  refine bwp_seq fun K1 hK1 => ?_
  by_cases hlt : j < rows.length
  · have hlt' : (j : Int) < rows.length := by omega
    obtain ⟨cs2, d, rest2, hTe, hd, hjc, hD⟩ := hT.at j hlt
    have hdl := hD.len
    have hw : IntKind.i64.wrap ((j : Int) + 1) = ((j + 1 : Nat) : Int) := by rw [wrap_i64 (by omega) (by omega)]; rfl
    have hmem : rows[j] ∈ rows := List.getElem_mem hlt
    have htk := take_snoc rows j hlt
    generalize rows[j] = l at *
    refine bwp_seq fun K hK => bwp_region rfl ?_
    simp -implicitDefEqProofs only [go_sem, ↓reduceIte, Nat.reduceEqDiff, Nat.reduceAdd, Nat.reduceLeDiff, Nat.reduceMul, Nat.reduceSub, Int.reduceLE, Int.reduceLT, Int.reduceEq, Int.reduceToNat, Int.reducePow, Int.reduceNeg, hlen', hlt']
    refine hK _ ?_; clear hK
    refine bwp_cond true (by simp [ev, fget]) (fun _ => ?_) (fun h => nomatch h)
    refine bwp_skip ?_
    refine hK1 _ ?_; clear hK1
    refine bwp_seq fun K1 hK1 => ?_
    refine bwp_block ?_
    refine bwp_seq fun K hK => bwp_region rfl ?_
    simp -implicitDefEqProofs only [go_sem, ↓reduceIte, Nat.reduceEqDiff, Nat.reduceAdd, Nat.reduceLeDiff, Nat.reduceMul, Nat.reduceSub, Int.reduceLE, Int.reduceLT, Int.reduceEq, Int.reduceToNat, Int.reducePow, Int.reduceNeg, hTe, hlt', Int.natCast_nonneg, Int.toNat_natCast, Nat.mul_one, hjc, hd, hdl]
    refine hK _ ?_; clear hK
    by_cases h30 : 30 < l.length
    · have h30' : (30 : Int) < l.length := by omega
      refine bwp_cond true (by simp [ev, fget, h30']) (fun _ => ?_) (fun h => nomatch h)
      refine bwp_seq fun K hK => bwp_region rfl ?_
      simp -implicitDefEqProofs only [go_sem, ↓reduceIte, Nat.reduceEqDiff, Nat.reduceAdd, Nat.reduceLeDiff, Nat.reduceMul, Nat.reduceSub, Int.reduceLE, Int.reduceLT, Int.reduceEq, Int.reduceToNat, Int.reducePow, Int.reduceNeg]
      refine hK _ ?_; clear hK
      refine bwp_ret ?_
      simp -implicitDefEqProofs only [go_sem, ↓reduceIte, Nat.reduceEqDiff, Nat.reduceAdd, Nat.reduceLeDiff, Nat.reduceMul, Nat.reduceSub, Int.reduceLE, Int.reduceLT, Int.reduceEq, Int.reduceToNat, Int.reducePow, Int.reduceNeg]
      exact hbad (List.any_eq_true.2 ⟨_, hmem, by simpa using h30⟩) _ rfl
    · have h30' : ¬ (30 : Int) < l.length := by omega
      refine bwp_cond false (by simp [ev, fget, h30']) (fun h => nomatch h) (fun _ => ?_)
      refine bwp_skip ?_
      simp -implicitDefEqProofs only [go_sem, ↓reduceIte, Nat.reduceEqDiff, Nat.reduceAdd, Nat.reduceLeDiff, Nat.reduceMul, Nat.reduceSub, Int.reduceLE, Int.reduceLT, Int.reduceEq, Int.reduceToNat, Int.reducePow, Int.reduceNeg]
      refine hK1 _ ?_; clear hK1
      refine bwp_region rfl ?_
      simp -implicitDefEqProofs only [go_sem, ↓reduceIte, Nat.reduceEqDiff, Nat.reduceAdd, Nat.reduceLeDiff, Nat.reduceMul, Nat.reduceSub, Int.reduceLE, Int.reduceLT, Int.reduceEq, Int.reduceToNat, Int.reducePow, Int.reduceNeg, hw]
      refine ⟨hlt, ?_, Leads.ent [] ⟨by simp [entT, fget, AV.ren, pget, hTe], by simp [entM], rfl, rfl⟩⟩
      intro x hx
      rw [htk, List.mem_append] at hx
      rcases hx with hx | hx
      · exact hp x hx
      · simp only [List.mem_singleton] at hx; rw [hx]; exact h30
  · have hlt' : ¬ (j : Int) < rows.length := by omega
    have hin : j = rows.length := by omega
    subst hin
    rw [List.take_of_length_le (Nat.le_refl _)] at hp
    refine bwp_seq fun K hK => bwp_region rfl ?_
    simp -implicitDefEqProofs only [go_sem, ↓reduceIte, Nat.reduceEqDiff, Nat.reduceAdd, Nat.reduceLeDiff, Nat.reduceMul, Nat.reduceSub, Int.reduceLE, Int.reduceLT, Int.reduceEq, Int.reduceToNat, Int.reducePow, Int.reduceNeg, hlen', hlt']
    refine hK _ ?_; clear hK
    refine bwp_cond false (by simp [ev, fget]) (fun h => nomatch h) (fun _ => ?_)
    refine bwp_leads (S' := rcS [.str nm, I, T, .int .i64 kd, A] []) (Leads.ent [] ⟨by simp [entT, fget, AV.ren, renL, pget, rcS], by simp [entM, pinv, mget, mset, renL, AV.ren, pget, renL_append, -List.map_map, rcS], rfl, rfl⟩) ?_
    refine bwp_exit (hgood ?_)
    rw [List.any_eq_false]
    intro l hl
    have := hp l hl
    simpa using this

theorem few_rows {rows : List (List Atom)} {nm : List UInt8} {I T A : DV} {kd : Int} (hA : IsSl2 Atom.cells rows A) {Q : Exit → St → Prop}
    (hbad : (rows.any fun l => decide (12 < l.length)) = true → ∀ S, fget S.t 2 = .d (.bool false) → Q .ret S) (hgood : (rows.any fun l => decide (12 < l.length)) = false → ∀ S, Q (.exit 2) S) :
    BWP Try.prog (mbound []) 58 (.loop ac19L1) (rcS [.str nm, I, T, .int .i64 kd, A] [(4, .d (.int .i64 (0 : Nat)))]) Q := by
  have hbig := hA.big
  have hlen' := hA.len
  refine bwp_countI (fun j => rcS [.str nm, I, T, .int .i64 kd, A] [(4, .d (.int .i64 (j : Nat)))]) (fun j => ∀ l ∈ rows.take j, ¬ 12 < l.length) rows.length (by simp) ?_
  intro j hj hp
  unfold ac19L1 rcS
  refine bwp_seq fun K1 hK1 => ?_
  by_cases hlt : j < rows.length
  · have hlt' : (j : Int) < rows.length := by omega
    obtain ⟨cs2, d, rest2, hTe, hd, hjc, hD⟩ := hA.at j hlt
    have hdl := hD.len
    have hw : IntKind.i64.wrap ((j : Int) + 1) = ((j + 1 : Nat) : Int) := by rw [wrap_i64 (by omega) (by omega)]; rfl
    have hmem : rows[j] ∈ rows := List.getElem_mem hlt
    have htk := take_snoc rows j hlt
    generalize rows[j] = l at *
    refine bwp_seq fun K hK => bwp_region rfl ?_
    simp -implicitDefEqProofs only [go_sem, ↓reduceIte, Nat.reduceEqDiff, Nat.reduceAdd, Nat.reduceLeDiff, Nat.reduceMul, Nat.reduceSub, Int.reduceLE, Int.reduceLT, Int.reduceEq, Int.reduceToNat, Int.reducePow, Int.reduceNeg, hlen', hlt']
    refine hK _ ?_; clear hK
    refine bwp_cond true (by simp [ev, fget]) (fun _ => ?_) (fun h => nomatch h)
    refine bwp_skip ?_
    refine hK1 _ ?_; clear hK1
    refine bwp_seq fun K1 hK1 => ?_
    refine bwp_block ?_
    refine bwp_seq fun K hK => bwp_region rfl ?_
    simp -implicitDefEqProofs only [go_sem, ↓reduceIte, Nat.reduceEqDiff, Nat.reduceAdd, Nat.reduceLeDiff, Nat.reduceMul, Nat.reduceSub, Int.reduceLE, Int.reduceLT, Int.reduceEq, Int.reduceToNat, Int.reducePow, Int.reduceNeg, hTe, hlt', Int.natCast_nonneg, Int.toNat_natCast, Nat.mul_one, hjc, hd, hdl]
    refine hK _ ?_; clear hK
    by_cases h30 : 12 < l.length
    · have h30' : (12 : Int) < l.length := by omega
      refine bwp_cond true (by simp [ev, fget, h30']) (fun _ => ?_) (fun h => nomatch h)
      refine bwp_seq fun K hK => bwp_region rfl ?_
      simp -implicitDefEqProofs only [go_sem, ↓reduceIte, Nat.reduceEqDiff, Nat.reduceAdd, Nat.reduceLeDiff, Nat.reduceMul, Nat.reduceSub, Int.reduceLE, Int.reduceLT, Int.reduceEq, Int.reduceToNat, Int.reducePow, Int.reduceNeg]
      refine hK _ ?_; clear hK
      refine bwp_ret ?_
      simp -implicitDefEqProofs only [go_sem, ↓reduceIte, Nat.reduceEqDiff, Nat.reduceAdd, Nat.reduceLeDiff, Nat.reduceMul, Nat.reduceSub, Int.reduceLE, Int.reduceLT, Int.reduceEq, Int.reduceToNat, Int.reducePow, Int.reduceNeg]
      exact hbad (List.any_eq_true.2 ⟨_, hmem, by simpa using h30⟩) _ rfl
    · have h30' : ¬ (12 : Int) < l.length := by omega
      refine bwp_cond false (by simp [ev, fget, h30']) (fun h => nomatch h) (fun _ => ?_)
      refine bwp_skip ?_
      simp -implicitDefEqProofs only [go_sem, ↓reduceIte, Nat.reduceEqDiff, Nat.reduceAdd, Nat.reduceLeDiff, Nat.reduceMul, Nat.reduceSub, Int.reduceLE, Int.reduceLT, Int.reduceEq, Int.reduceToNat, Int.reducePow, Int.reduceNeg]
      refine hK1 _ ?_; clear hK1
      refine bwp_region rfl ?_
      simp -implicitDefEqProofs only [go_sem, ↓reduceIte, Nat.reduceEqDiff, Nat.reduceAdd, Nat.reduceLeDiff, Nat.reduceMul, Nat.reduceSub, Int.reduceLE, Int.reduceLT, Int.reduceEq, Int.reduceToNat, Int.reducePow, Int.reduceNeg, hw]
      refine ⟨hlt, ?_, Leads.ent [] ⟨by simp [entT, fget, AV.ren, pget, hTe], by simp [entM], rfl, rfl⟩⟩
      intro x hx
      rw [htk, List.mem_append] at hx
      rcases hx with hx | hx
      · exact hp x hx
      · simp only [List.mem_singleton] at hx; rw [hx]; exact h30
  · have hlt' : ¬ (j : Int) < rows.length := by omega
    have hin : j = rows.length := by omega
    subst hin
    rw [List.take_of_length_le (Nat.le_refl _)] at hp
    refine bwp_seq fun K hK => bwp_region rfl ?_
    simp -implicitDefEqProofs only [go_sem, ↓reduceIte, Nat.reduceEqDiff, Nat.reduceAdd, Nat.reduceLeDiff, Nat.reduceMul, Nat.reduceSub, Int.reduceLE, Int.reduceLT, Int.reduceEq, Int.reduceToNat, Int.reducePow, Int.reduceNeg, hlen', hlt']
    refine hK _ ?_; clear hK
    refine bwp_cond false (by simp [ev, fget]) (fun h => nomatch h) (fun _ => ?_)
    refine bwp_exit (hgood ?_ _)
    rw [List.any_eq_false]
    intro l hl
    have := hp l hl
    simpa using this

theorem few_pure {t : Test} {cs : List DV} (hT : IsTest t cs) : Pure Try.prog 19 [.agg (cs.map .d)] (.d (.bool (fewB t))) := by
  obtain ⟨I, T, A, rfl, hI, hTh, hA⟩ := hT
  have hTl := hTh.len
  have hAl := hA.len
  have hIl := hI.len
  refine acalls_of Try.func19 ac19_ok Try.ntmps19 Try.results19 rfl ?_
  unfold ac19
  refine bwp_seq fun K hK => bwp_region rfl ?_
  simp -implicitDefEqProofs only [go_sem, ↓reduceIte, Nat.reduceEqDiff, Nat.reduceAdd, Nat.reduceLeDiff, Nat.reduceMul, Nat.reduceSub, Int.reduceLE, Int.reduceLT, Int.reduceEq, Int.reduceToNat, Int.reducePow, Int.reduceNeg]
  refine hK _ ?_; clear hK
  refine bwp_leads (S' := rcS [.str t.name, I, T, .int .i64 t.kind, A] []) (Leads.frz [] [(0, [.str t.name, I, T, .int .i64 t.kind, A])] ⟨?_, ?_, rfl, rfl, ?_⟩) ?_
  · simp [rcS, frzT, fget, AV.cv, cvL, zget, pget]
  · simp [rcS, frzM, pinv, zget, mget, cvL, AV.cv]
  · simp [zokFrom, mget, cvL, AV.cv]
  unfold rcS
  refine bwp_seq fun K1 hK1 => ?_
  refine bwp_seq fun K hK => bwp_region rfl ?_
  have rest : ∀ (t' : Fr) (b : Bool), fget t' 27 = .d (.bool b) → b = few0 t → fget t' 1 = .dptr [.str t.name, I, T, .int .i64 t.kind, A] → fget t' 2 = .d (.bool false) → K ⟨t', [], 0⟩ := by
    intro t' b h27 hb h1 h2
    refine hK _ ?_; clear hK
    cases b
    · refine bwp_cond false (by simp [ev, fget, h27]) (fun h => nomatch h) (fun _ => ?_)
      refine bwp_skip ?_
      simp -implicitDefEqProofs only [go_sem, ↓reduceIte, Nat.reduceEqDiff, Nat.reduceAdd, Nat.reduceLeDiff, Nat.reduceMul, Nat.reduceSub, Int.reduceLE, Int.reduceLT, Int.reduceEq, Int.reduceToNat, Int.reducePow, Int.reduceNeg]
      refine hK1 _ ?_; clear hK1
      refine bwp_seq fun K1 hK1 => ?_
      refine bwp_seq fun K2 hK2 => ?_
      refine bwp_region rfl ?_
      simp -implicitDefEqProofs only [go_sem, ↓reduceIte, Nat.reduceEqDiff, Nat.reduceAdd, Nat.reduceLeDiff, Nat.reduceMul, Nat.reduceSub, Int.reduceLE, Int.reduceLT, Int.reduceEq, Int.reduceToNat, Int.reducePow, Int.reduceNeg]
      refine hK2 _ ?_; clear hK2
      refine bwp_block ?_
      refine bwp_leads (S' := rcS [.str t.name, I, T, .int .i64 t.kind, A] [(3, .d (.int .i64 (0 : Nat)))]) (Leads.ent [] ⟨by simp [entT, fget, AV.ren, renL, pget, rcS, h1, h2], by simp [entM, pinv, mget, mset, renL, AV.ren, pget, renL_append, -List.map_map, rcS, h1, h2], rfl, rfl⟩) ?_
      refine few_threads hTh ?_ ?_
      · intro hbad S hS
        simp -implicitDefEqProofs only [go_sem, ↓reduceIte, Nat.reduceEqDiff, Nat.reduceAdd, Nat.reduceLeDiff, Nat.reduceMul, Nat.reduceSub, Int.reduceLE, Int.reduceLT, Int.reduceEq, Int.reduceToNat, Int.reducePow, Int.reduceNeg]
        exact aend_ret (.d (.bool false)) (by simp [resA, resVs, resV, hS]) rfl ⟨by simp only [fewB, hbad]; simp, rfl⟩
      · intro hth
        simp -implicitDefEqProofs only [go_sem, ↓reduceIte, Nat.reduceEqDiff, Nat.reduceAdd, Nat.reduceLeDiff, Nat.reduceMul, Nat.reduceSub, Int.reduceLE, Int.reduceLT, Int.reduceEq, Int.reduceToNat, Int.reducePow, Int.reduceNeg]
        refine hK1 _ ?_; clear hK1
        unfold rcS
        refine bwp_seq fun K1 hK1 => ?_
        refine bwp_seq fun K2 hK2 => ?_
        refine bwp_region rfl ?_
        simp -implicitDefEqProofs only [go_sem, ↓reduceIte, Nat.reduceEqDiff, Nat.reduceAdd, Nat.reduceLeDiff, Nat.reduceMul, Nat.reduceSub, Int.reduceLE, Int.reduceLT, Int.reduceEq, Int.reduceToNat, Int.reducePow, Int.reduceNeg]
        refine hK2 _ ?_; clear hK2
        refine bwp_block ?_
        refine bwp_leads (S' := rcS [.str t.name, I, T, .int .i64 t.kind, A] [(4, .d (.int .i64 (0 : Nat)))]) (Leads.ent [] ⟨by simp [entT, fget, AV.ren, renL, pget, rcS], by simp [entM, pinv, mget, mset, renL, AV.ren, pget, renL_append, -List.map_map, rcS], rfl, rfl⟩) ?_
        refine few_rows hA ?_ ?_
        · intro hbad S hS
          simp -implicitDefEqProofs only [go_sem, ↓reduceIte, Nat.reduceEqDiff, Nat.reduceAdd, Nat.reduceLeDiff, Nat.reduceMul, Nat.reduceSub, Int.reduceLE, Int.reduceLT, Int.reduceEq, Int.reduceToNat, Int.reducePow, Int.reduceNeg]
          exact aend_ret (.d (.bool false)) (by simp [resA, resVs, resV, hS]) rfl ⟨by simp only [fewB, hbad]; simp, rfl⟩
        · rintro hrw ⟨t2, m2, n2⟩
          simp -implicitDefEqProofs only [go_sem, ↓reduceIte, Nat.reduceEqDiff, Nat.reduceAdd, Nat.reduceLeDiff, Nat.reduceMul, Nat.reduceSub, Int.reduceLE, Int.reduceLT, Int.reduceEq, Int.reduceToNat, Int.reducePow, Int.reduceNeg]
          refine hK1 _ ?_; clear hK1
          refine bwp_seq fun K hK => bwp_region (by simp [mbound]) ?_
          simp -implicitDefEqProofs only [go_sem, ↓reduceIte, Nat.reduceEqDiff, Nat.reduceAdd, Nat.reduceLeDiff, Nat.reduceMul, Nat.reduceSub, Int.reduceLE, Int.reduceLT, Int.reduceEq, Int.reduceToNat, Int.reducePow, Int.reduceNeg]
          refine hK _ ?_; clear hK
          refine bwp_ret ?_
          simp only [go_sem]
          refine aend_ret _ rfl rfl ⟨?_, rfl⟩
          simp only [fget, fewB, ← hb, hth, hrw]
          simp
    · refine bwp_cond true (by simp [ev, fget, h27]) (fun _ => ?_) (fun h => nomatch h)
      refine bwp_seq fun K hK => bwp_region rfl ?_
      simp -implicitDefEqProofs only [go_sem, ↓reduceIte, Nat.reduceEqDiff, Nat.reduceAdd, Nat.reduceLeDiff, Nat.reduceMul, Nat.reduceSub, Int.reduceLE, Int.reduceLT, Int.reduceEq, Int.reduceToNat, Int.reducePow, Int.reduceNeg]
      refine hK _ ?_; clear hK
      refine bwp_ret ?_
      simp only [go_sem]
      refine aend_ret _ rfl rfl ⟨?_, rfl⟩
      simp [fget, fewB, ← hb]
  clear hK
  simp -implicitDefEqProofs only [go_sem, ↓reduceIte, Nat.reduceEqDiff, Nat.reduceAdd, Nat.reduceLeDiff, Nat.reduceMul, Nat.reduceSub, Int.reduceLE, Int.reduceLT, Int.reduceEq, Int.reduceToNat, Int.reducePow, Int.reduceNeg, hTl]
  repeat' (first
    | (refine gateK_split (fun hb => ?_) (fun hb => ?_) <;> simp -implicitDefEqProofs only [go_sem, ↓reduceIte, Nat.reduceEqDiff, Nat.reduceAdd, Nat.reduceLeDiff, Nat.reduceMul, Nat.reduceSub, Int.reduceLE, Int.reduceLT, Int.reduceEq, Int.reduceToNat, Int.reducePow, Int.reduceNeg, hb, hTl, hAl, hIl])
    | (refine dGateK_split (fun hb => ?_) (fun hb => ?_) <;> simp -implicitDefEqProofs only [go_sem, ↓reduceIte, Nat.reduceEqDiff, Nat.reduceAdd, Nat.reduceLeDiff, Nat.reduceMul, Nat.reduceSub, Int.reduceLE, Int.reduceLT, Int.reduceEq, Int.reduceToNat, Int.reducePow, Int.reduceNeg, hb, hTl, hAl, hIl]))
  all_goals exact rest _ _ rfl (by clear rest hK1; simp only [few0, *, Bool.false_or, Bool.true_or, Bool.or_true]) rfl rfl

theorem fewB_threads {t : Test} (h : fewB t = true) : t.threads.length ≤ 1000000 := by
  simp only [fewB, few0, Bool.and_eq_true, Bool.not_eq_true', Bool.or_eq_false_iff, decide_eq_false_iff_not] at h
  omega

theorem small_check (ls : List Int) (most : Nat) : checkW (small ls most) = 0 := by
  have hG := small_goodTest ls most
  have hn := small_len ls most
  have hn3 := smallN_le ls
  have hn2 : 2 ≤ smallN ls := by unfold smallN; omega
  rw [hG.check (by omega)]
  have h0 : ¬ (small ls most).threads.length = 0 := by omega
  have hf : (small ls most).rows.any (fun l => l.any (farB (small ls most).threads.length)) = false := by
    rw [hn]
    generalize smallN ls = n at hn2
    rw [List.any_eq_false]
    intro l hl
    rw [Bool.not_eq_true, List.any_eq_false]
    intro a ha
    simp only [small, smallRows] at hl
    split at hl
    · simp only [List.mem_cons, List.not_mem_nil, or_false] at hl
      have e0 : ¬ n = 0 := by omega
      have e1 : ¬ ((n : Int) ≤ 1) := by omega
      rcases hl with rfl | rfl
      · simp only [List.mem_singleton] at ha
        subst ha
        simp [farB, e0]
      · simp only [List.mem_cons, List.not_mem_nil, or_false] at ha
        rcases ha with rfl | rfl
        · simp [farB]
        · have e1' : ¬ n ≤ 1 := by omega
          simp [farB, e1]
    · simp at hl
  simp [h0, hf]

theorem small_locs (ls : List Int) (most : Nat) : wellLocs (small ls most) = refLocs (small ls most) :=
  locs_same fun x hx => by
    rcases (small_goodTest ls most).locs x hx with h | h
    · exact .inr h
    · exact .inl ((isLocB_iff x).2 (by omega))

theorem wellChecks_pure {t : Test} {cs : List DV} (hT : IsTest t cs) (hn : t.name.length ≤ 9223372036854775807) {ls : List Int} {X : DV} (hX : IsInts ls X) : Pure Try.prog 7 [.agg (cs.map .d), .d X] (.d (.bool true)) := by
  have hT0 := hT
  obtain ⟨I, T, A, rfl, hI, hTh, hA⟩ := hT
  have hbd : ∀ s : List UInt8, bytesD s = .sl s.length (s.map fun b => .int .u8 b.toNat) := fun s => rfl
  refine acalls_of Try.func7 ac7_ok Try.ntmps7 Try.results7 rfl ?_
  unfold ac7
  refine bwp_seq fun K hK => bwp_region rfl ?_
  simp -implicitDefEqProofs only [go_sem, ↓reduceIte, Nat.reduceEqDiff, Nat.reduceAdd, Nat.reduceLeDiff, Nat.reduceMul, Nat.reduceSub, Int.reduceLE, Int.reduceLT, Int.reduceEq, Int.reduceToNat, Int.reducePow, Int.reduceNeg]
  refine hK _ ?_; clear hK
  refine bwp_leads (S' := ⟨[(1, .d X), (2, .dptr [.str t.name, I, T, .int .i64 t.kind, A]), (4, .d (.bool false))], [], 0⟩) (Leads.frz [] [(0, [.str t.name, I, T, .int .i64 t.kind, A])] ⟨?_, ?_, rfl, rfl, ?_⟩) ?_
  · simp [frzT, fget, AV.cv, cvL, zget, pget]
  · simp [frzM, pinv, zget, mget, cvL, AV.cv]
  · simp [zokFrom, mget, cvL, AV.cv]
  refine bwp_seq fun K1 hK1 => ?_
  refine bwp_seq fun K hK => bwp_region rfl ?_
  simp -implicitDefEqProofs only [go_sem, ↓reduceIte, Nat.reduceEqDiff, Nat.reduceAdd, Nat.reduceLeDiff, Nat.reduceMul, Nat.reduceSub, Int.reduceLE, Int.reduceLT, Int.reduceEq, Int.reduceToNat, Int.reducePow, Int.reduceNeg]
  refine callK_pure (few_pure hT0) rfl rfl ?_
  simp -implicitDefEqProofs only [go_sem, ↓reduceIte, Nat.reduceEqDiff, Nat.reduceAdd, Nat.reduceLeDiff, Nat.reduceMul, Nat.reduceSub, Int.reduceLE, Int.reduceLT, Int.reduceEq, Int.reduceToNat, Int.reducePow, Int.reduceNeg]
  refine hK _ ?_; clear hK
  cases hfew : fewB t
  · refine bwp_cond true (by simp [ev, fget]) (fun _ => ?_) (fun h => nomatch h)
    refine bwp_seq fun K hK => bwp_region rfl ?_
    simp -implicitDefEqProofs only [go_sem, ↓reduceIte, Nat.reduceEqDiff, Nat.reduceAdd, Nat.reduceLeDiff, Nat.reduceMul, Nat.reduceSub, Int.reduceLE, Int.reduceLT, Int.reduceEq, Int.reduceToNat, Int.reducePow, Int.reduceNeg]
    refine callK_pure awake5_pure rfl rfl ?_
    simp -implicitDefEqProofs only [go_sem, ↓reduceIte, Nat.reduceEqDiff, Nat.reduceAdd, Nat.reduceLeDiff, Nat.reduceMul, Nat.reduceSub, Int.reduceLE, Int.reduceLT, Int.reduceEq, Int.reduceToNat, Int.reducePow, Int.reduceNeg]
    refine hK _ ?_; clear hK
    refine bwp_ret ?_
    simp only [go_sem]
    refine aend_ret _ rfl rfl ⟨?_, rfl⟩
    rfl
  have hthl := fewB_threads hfew
  refine bwp_cond false (by simp [ev, fget]) (fun h => nomatch h) (fun _ => ?_)
  refine bwp_skip ?_
  refine hK1 _ ?_; clear hK1
  refine bwp_seq fun K hK => bwp_region rfl ?_
  simp -implicitDefEqProofs only [go_sem, ↓reduceIte, Nat.reduceEqDiff, Nat.reduceAdd, Nat.reduceLeDiff, Nat.reduceMul, Nat.reduceSub, Int.reduceLE, Int.reduceLT, Int.reduceEq, Int.reduceToNat, Int.reducePow, Int.reduceNeg]
  refine callK_pureQ (small_calls hX (most := 8) (by omega)) rfl (fun v ⟨cs, h, _⟩ => by subst h; exact inL_data cs) ?_
  rintro v ⟨sc, rfl, hS⟩
  have hS0 := hS
  obtain ⟨J, U, B, rfl, hJ, hU, hB⟩ := hS
  simp -implicitDefEqProofs only [go_sem, ↓reduceIte, Nat.reduceEqDiff, Nat.reduceAdd, Nat.reduceLeDiff, Nat.reduceMul, Nat.reduceSub, Int.reduceLE, Int.reduceLT, Int.reduceEq, Int.reduceToNat, Int.reducePow, Int.reduceNeg]
  refine hK _ ?_; clear hK
  have hsc := small_check ls 8
  have hsl := small_locs ls 8
  have hsn : (small ls 8).name.length ≤ 9223372036854775807 := by simp [small]
  have hsth : (small ls 8).threads.length ≤ 1000000 := by
    rw [small_len]
    have := smallN_le ls
    omega
  generalize small ls 8 = s at *
  have cw := cellBytes_all (refLocs s)
  have el : ((refLocs s).map fun b => DV.int .u8 b.toNat).length = (refLocs s).length := by simp
  refine bwp_seq fun K1 hK1 => ?_
  refine bwp_seq fun K hK => bwp_region_draw rfl rfl ?_
  simp -implicitDefEqProofs only [go_sem, ↓reduceIte, Nat.reduceEqDiff, Nat.reduceAdd, Nat.reduceLeDiff, Nat.reduceMul, Nat.reduceSub, Int.reduceLE, Int.reduceLT, Int.reduceEq, Int.reduceToNat, Int.reducePow, Int.reduceNeg]
  refine dCallK_pure (check_pure hS0 hsn hsth) rfl rfl ?_
  rw [hsc]
  simp -implicitDefEqProofs only [go_sem, ↓reduceIte, Nat.reduceEqDiff, Nat.reduceAdd, Nat.reduceLeDiff, Nat.reduceMul, Nat.reduceSub, Int.reduceLE, Int.reduceLT, Int.reduceEq, Int.reduceToNat, Int.reducePow, Int.reduceNeg]
  refine dCallK_pure (wellLocs_pure hS0) rfl rfl ?_
  rw [hsl, hbd]
  simp -implicitDefEqProofs only [go_sem, ↓reduceIte, Nat.reduceEqDiff, Nat.reduceAdd, Nat.reduceLeDiff, Nat.reduceMul, Nat.reduceSub, Int.reduceLE, Int.reduceLT, Int.reduceEq, Int.reduceToNat, Int.reducePow, Int.reduceNeg, el, cw]
  refine dCallK_pure (refLocs_pure hS0) rfl rfl ?_
  rw [hbd]
  simp -implicitDefEqProofs only [go_sem, ↓reduceIte, Nat.reduceEqDiff, Nat.reduceAdd, Nat.reduceLeDiff, Nat.reduceMul, Nat.reduceSub, Int.reduceLE, Int.reduceLT, Int.reduceEq, Int.reduceToNat, Int.reducePow, Int.reduceNeg, el, cw]
  refine ⟨rfl, hK _ ?_⟩; clear hK
  refine bwp_cond false (by simp [ev, fget]) (fun h => nomatch h) (fun _ => ?_)
  refine bwp_skip ?_
  refine hK1 _ ?_; clear hK1
  refine bwp_seq fun K hK => bwp_region_draw rfl rfl ?_
  simp -implicitDefEqProofs only [go_sem, ↓reduceIte, Nat.reduceEqDiff, Nat.reduceAdd, Nat.reduceLeDiff, Nat.reduceMul, Nat.reduceSub, Int.reduceLE, Int.reduceLT, Int.reduceEq, Int.reduceToNat, Int.reducePow, Int.reduceNeg]
  refine dCallK_pure (check_pure hT0 hn hthl) rfl rfl ?_
  simp -implicitDefEqProofs only [go_sem, ↓reduceIte, Nat.reduceEqDiff, Nat.reduceAdd, Nat.reduceLeDiff, Nat.reduceMul, Nat.reduceSub, Int.reduceLE, Int.reduceLT, Int.reduceEq, Int.reduceToNat, Int.reducePow, Int.reduceNeg]
  refine dCallK_pure (refCheck_pure hT0 hn) rfl rfl ?_
  simp -implicitDefEqProofs only [go_sem, ↓reduceIte, Nat.reduceEqDiff, Nat.reduceAdd, Nat.reduceLeDiff, Nat.reduceMul, Nat.reduceSub, Int.reduceLE, Int.reduceLT, Int.reduceEq, Int.reduceToNat, Int.reducePow, Int.reduceNeg]
  refine dCallK_pure (refTest_pure hT0 hn) rfl rfl ?_
  cases hok : okB t
  · simp -implicitDefEqProofs only [go_sem, ↓reduceIte, Nat.reduceEqDiff, Nat.reduceAdd, Nat.reduceLeDiff, Nat.reduceMul, Nat.reduceSub, Int.reduceLE, Int.reduceLT, Int.reduceEq, Int.reduceToNat, Int.reducePow, Int.reduceNeg]
    refine dCallK_pure awake5_pure rfl rfl ?_
    simp -implicitDefEqProofs only [go_sem, ↓reduceIte, Nat.reduceEqDiff, Nat.reduceAdd, Nat.reduceLeDiff, Nat.reduceMul, Nat.reduceSub, Int.reduceLE, Int.reduceLT, Int.reduceEq, Int.reduceToNat, Int.reducePow, Int.reduceNeg]
    refine ⟨rfl, hK _ ?_⟩; clear hK
    refine bwp_ret ?_
    simp only [go_sem]
    refine aend_ret _ rfl rfl ⟨?_, rfl⟩
    rfl
  · have hlt := locs_same (okB_locs hok)
    have cw2 := cellBytes_all (refLocs t)
    have el2 : ((refLocs t).map fun b => DV.int .u8 b.toNat).length = (refLocs t).length := by simp
    simp -implicitDefEqProofs only [go_sem, ↓reduceIte, Nat.reduceEqDiff, Nat.reduceAdd, Nat.reduceLeDiff, Nat.reduceMul, Nat.reduceSub, Int.reduceLE, Int.reduceLT, Int.reduceEq, Int.reduceToNat, Int.reducePow, Int.reduceNeg]
    refine dCallK_pure (wellLocs_pure hT0) rfl rfl ?_
    rw [hlt, hbd]
    simp -implicitDefEqProofs only [go_sem, ↓reduceIte, Nat.reduceEqDiff, Nat.reduceAdd, Nat.reduceLeDiff, Nat.reduceMul, Nat.reduceSub, Int.reduceLE, Int.reduceLT, Int.reduceEq, Int.reduceToNat, Int.reducePow, Int.reduceNeg, el2, cw2]
    refine dCallK_pure (refLocs_pure hT0) rfl rfl ?_
    rw [hbd]
    simp -implicitDefEqProofs only [go_sem, ↓reduceIte, Nat.reduceEqDiff, Nat.reduceAdd, Nat.reduceLeDiff, Nat.reduceMul, Nat.reduceSub, Int.reduceLE, Int.reduceLT, Int.reduceEq, Int.reduceToNat, Int.reducePow, Int.reduceNeg, el2, cw2]
    refine dCallK_pure awake5_pure rfl rfl ?_
    simp -implicitDefEqProofs only [go_sem, ↓reduceIte, Nat.reduceEqDiff, Nat.reduceAdd, Nat.reduceLeDiff, Nat.reduceMul, Nat.reduceSub, Int.reduceLE, Int.reduceLT, Int.reduceEq, Int.reduceToNat, Int.reducePow, Int.reduceNeg]
    refine ⟨rfl, hK _ ?_⟩; clear hK
    refine bwp_ret ?_
    simp only [go_sem]
    refine aend_ret _ rfl rfl ⟨?_, rfl⟩
    rfl

/-- A test's cells' kinds. -/
def shTest : List Sh := [.str, .sl [.int .i64, .int .i64], .sl [.sl (List.replicate 9 (.int .i64))], .int .i64, .sl [.sl (List.replicate 4 (.int .i64))]]

theorem fits_test {ds : List DV} (h : FitsL shTest ds) : ∃ t : Test, IsTest t ds ∧ t.name.length ≤ 9223372036854775807 := by
  have hm : maxLen = 9223372036854775807 := rfl
  simp only [shTest, FitsL] at h
  obtain ⟨d0, r0, rfl, h0, d1, r1, rfl, h1, d2, r2, rfl, h2, d3, r3, rfl, h3, d4, r4, rfl, h4, rfl⟩ := h
  simp only [Fits] at h0 h3
  obtain ⟨nm, rfl, hnm⟩ := h0
  obtain ⟨kd, rfl, _⟩ := h3
  obtain ⟨inits, _, hI⟩ := fits_sl (enc := Init.cells) (p := fun _ => True) (fun r hr => by
    obtain ⟨f, hf, rfl⟩ := fits_ints (n := 2) hr
    match f, hf with
    | [a, b], _ => exact ⟨⟨a, b⟩, trivial, rfl⟩) h1
  obtain ⟨threads, _, hT⟩ := fits_sl2 (enc := Ins.cells) (p := fun _ => True) (fun r hr => by
    obtain ⟨f, hf, rfl⟩ := fits_ints hr
    match f, hf with
    | [a, b, c, d, e, g, i, j, k], _ => exact ⟨⟨a, b, c, ⟨d, e⟩, g, ⟨i, j⟩, k⟩, trivial, rfl⟩) h2
  obtain ⟨rows, _, hA⟩ := fits_sl2 (enc := Atom.cells) (p := fun _ => True) (fun r hr => by
    obtain ⟨f, hf, rfl⟩ := fits_ints hr
    match f, hf with
    | [a, b, c, d], _ => exact ⟨⟨a, b, c, d⟩, trivial, rfl⟩) h4
  exact ⟨⟨nm, inits, threads, kd, rows⟩, ⟨d1, d2, d4, rfl, hI, hT, hA⟩, by simp only; omega⟩

end Go.Proofs.Ytjfghjakpjfgpaa
