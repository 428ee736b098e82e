/- Which tests are small enough: the document's answer is the program's. -/
import Derived.Test.YtjfghjakpjfgpaaR6
namespace Go.Proofs.Ytjfghjakpjfgpaa
open Go Go.Jq
set_option maxRecDepth 100000
set_option linter.unusedSimpArgs false

theorem okB_locs {t : Test} (h : okB t = true) : ∀ x ∈ allLocs t, isLocB x = true ∨ x = 0 := by
  simp only [okB, Bool.and_eq_true, Bool.not_eq_true'] at h
  obtain ⟨⟨⟨_, h1⟩, h2⟩, h3⟩ := h
  intro x hx
  simp only [allLocs, List.mem_append, List.mem_map, List.mem_flatten] at hx
  rcases hx with ⟨i, hi, rfl⟩ | ⟨i, ⟨l, hl, hi⟩, rfl⟩ | ⟨a, ⟨l, hl, ha⟩, rfl⟩
  · unfold badInitB at h1
    rw [List.any_eq_false] at h1
    exact .inl (by simpa using h1 i hi)
  · rw [List.any_eq_false] at h2
    have h4 := h2 l hl
    unfold badThreadB at h4
    rw [Bool.not_eq_true, List.any_eq_false] at h4
    have h5 : okInsB i = true := by simpa using h4 i hi
    unfold okInsB at h5
    split at h5
    · exact .inl (by simp only [Bool.and_eq_true] at h5; exact h5.1.1)
    · split at h5
      · exact .inl (by simp only [Bool.and_eq_true] at h5; exact h5.1.1)
      · split at h5
        · exact .inr (by simp only [eqIns, Bool.and_eq_true, decide_eq_true_eq] at h5; exact h5.2.2.1)
        · split at h5
          · exact .inl (by simp only [Bool.and_eq_true] at h5; exact h5.1.1.1.1)
          · split at h5
            · exact .inr (by simp only [eqIns, Bool.and_eq_true, decide_eq_true_eq] at h5; exact h5.2.2.2.1)
            · split at h5
              · exact .inr (by simp only [eqIns, Bool.and_eq_true, decide_eq_true_eq] at h5; exact h5.2.2.2.1)
              · cases h5
  · unfold okCondB at h3
    split at h3
    · simp only [decide_eq_true_eq] at h3
      have : t.rows = [] := List.eq_nil_of_length_eq_zero h3
      rw [this] at hl; cases hl
    · simp only [Bool.and_eq_true, Bool.not_eq_true'] at h3
      have h4 := List.any_eq_false.1 h3.2 l hl
      unfold badRowB at h4
      simp only [Bool.not_eq_true, Bool.or_eq_false_iff] at h4
      have h5 : okAtomB a = true := by simpa using List.any_eq_false.1 h4.2 a ha
      unfold okAtomB at h5
      split at h5
      · exact .inl (by simp only [Bool.and_eq_true] at h5; exact h5.2)
      · exact .inr (by simp only [Bool.and_eq_true, decide_eq_true_eq] at h5; exact h5.1.2)

theorem okB_skip {t : Test} (h : okB t = true) : ∀ l ∈ t.threads, ∀ x ∈ l, x.kind = 6 → 0 ≤ x.n := by
  simp only [okB, Bool.and_eq_true, Bool.not_eq_true'] at h
  obtain ⟨⟨⟨_, _⟩, h2⟩, _⟩ := h
  intro l hl x hx hk
  rw [List.any_eq_false] at h2
  have h4 := h2 l hl
  unfold badThreadB at h4
  rw [Bool.not_eq_true, List.any_eq_false] at h4
  have h5 : okInsB x = true := by simpa using h4 x hx
  unfold okInsB at h5
  simp only [hk] at h5
  simp only [show ¬ (6 : Int) = 1 by decide, show ¬ (6 : Int) = 2 by decide, show ¬ (6 : Int) = 3 by decide, show ¬ (6 : Int) = 4 by decide, show ¬ (6 : Int) = 5 by decide, if_false, if_true, Bool.and_eq_true, decide_eq_true_eq] at h5
  exact h5.1.1.1

theorem refJumps_eq {l : List Ins} (h : ∀ x ∈ l, x.kind = 6 → 0 ≤ x.n) : refJumps l = !jumpsB l := by
  unfold refJumps jumpsB
  rw [Bool.not_not, Bool.eq_iff_iff, List.any_eq_true, List.any_eq_true]
  have key : ∀ k, k < l.length → (refJumpAt l k = true ↔ jumpBadAt l k = true) := by
    intro k hk
    unfold refJumpAt jumpBadAt refJumpBad
    rw [List.getElem?_eq_getElem hk]
    have hx := h l[k] (List.getElem_mem hk)
    generalize l[k] = x at hx
    simp only [Bool.and_eq_true, Bool.or_eq_true, decide_eq_true_eq]
    constructor
    · rintro ⟨h1, h2⟩
      have := hx h1
      exact ⟨h1, by omega⟩
    · rintro ⟨h1, h2⟩
      have := hx h1
      exact ⟨h1, by omega⟩
  constructor
  · rintro ⟨k, hk, hb⟩
    exact ⟨k, hk, (key k (List.mem_range.1 hk)).1 hb⟩
  · rintro ⟨k, hk, hb⟩
    exact ⟨k, hk, (key k (List.mem_range.1 hk)).2 hb⟩

theorem any_congr' {α : Type} {p q : α → Bool} : ∀ {l : List α}, (∀ x ∈ l, p x = q x) → l.any p = l.any q
  | [], _ => rfl
  | a :: l, h => by
    rw [List.any_cons, List.any_cons, h a List.mem_cons_self, any_congr' fun x hx => h x (List.mem_cons_of_mem _ hx)]

theorem refFar_eq (n : Nat) (a : Atom) : refFar n a = farB n a := by
  unfold refFar farB
  rw [Bool.eq_iff_iff]
  simp only [Bool.and_eq_true, Bool.not_eq_true', decide_eq_true_eq, decide_eq_false_iff_not]
  omega

theorem capLen_eq {T : List (List Ins)} (h : ∀ l ∈ T, l.length ≤ 10) : capLen T = sumLen T := by
  have : ∀ (T : List (List Ins)) (s : Nat), (∀ l ∈ T, l.length ≤ 10) → T.foldl (fun s x => s + min x.length 100) s = T.foldl (fun s x => s + x.length) s := by
    intro T
    induction T with
    | nil => intro s _; rfl
    | cons a T ih =>
      intro s hh
      rw [List.foldl_cons, List.foldl_cons]
      have := hh a List.mem_cons_self
      rw [Nat.min_eq_left (by omega)]
      exact ih _ fun l hl => hh l (List.mem_cons_of_mem _ hl)
  exact this T 0 h

def bigR0 (t : Test) : Bool := decide ((t.threads.length : Int) < 1) || (decide ((4 : Int) < t.threads.length) || (decide ((20 : Int) < t.name.length) || (decide ((8 : Int) < t.rows.length) || decide ((4 : Int) < (refLocs t).length))))

theorem refBig_eq {t : Test} (h : okB t = true) : (((bigR0 t || (t.threads.take 5).any fun l => decide (10 < l.length)) || t.rows.any longB) || decide (24 < capLen (t.threads.take 5))) = bigB t := by
  have hl := locs_same (okB_locs h)
  by_cases h4 : 4 < t.threads.length
  · have h4' : (4 : Int) < t.threads.length := by omega
    simp [bigR0, bigB, h4, h4']
  · have htk : t.threads.take 5 = t.threads := List.take_of_length_le (by omega)
    rw [htk]
    unfold bigR0 bigB
    rw [hl]
    have e1 : decide ((t.threads.length : Int) < 1) = decide (t.threads.length = 0) := by rw [decide_eq_decide]; omega
    have e2 : decide ((4 : Int) < t.threads.length) = decide (4 < t.threads.length) := by rw [decide_eq_decide]; omega
    have e3 : decide ((20 : Int) < t.name.length) = decide (20 < t.name.length) := by rw [decide_eq_decide]; omega
    have e4 : decide ((8 : Int) < t.rows.length) = decide (8 < t.rows.length) := by rw [decide_eq_decide]; omega
    have e5 : decide ((4 : Int) < (refLocs t).length) = decide (4 < (refLocs t).length) := by rw [decide_eq_decide]; omega
    rw [e1, e2, e3, e4, e5]
    cases h10 : t.threads.any (fun l => decide (10 < l.length))
    · have hle : ∀ l ∈ t.threads, l.length ≤ 10 := by
        intro l hl
        have := List.any_eq_false.1 h10 l hl
        simpa using this
      rw [capLen_eq hle]
      cases decide (t.threads.length = 0) <;> cases decide (4 < t.threads.length) <;> cases decide (20 < t.name.length) <;> cases decide (8 < t.rows.length) <;> cases decide (4 < (refLocs t).length) <;> cases t.rows.any longB <;> cases decide (24 < sumLen t.threads) <;> rfl
    · simp

theorem refCheck_pure {t : Test} {cs : List DV} (hT : IsTest t cs) (hn : t.name.length ≤ 9223372036854775807) : Pure Try.prog 21 [.agg (cs.map .d)] (.d (.int .i64 (checkW t))) := by
  have hT0 := hT
  obtain ⟨I, T, A, rfl, hI, hTh, hA⟩ := hT
  have hTl := hTh.len
  have hAl := hA.len
  have hln : ∀ l : List UInt8, lenA (.d (bytesD l)) = some l.length := fun l => rfl
  refine acalls_of Try.func21 ac21_ok Try.ntmps21 Try.results21 rfl ?_
  unfold ac21
  refine bwp_seq fun K hK => bwp_region rfl ?_
  simp -implicitDefEqProofs only [go_sem, ↓reduceIte, Nat.reduceEqDiff, Nat.reduceAdd, Nat.reduceLeDiff, Nat.reduceMul, Nat.reduceSub, Int.reduceLE, Int.reduceLT, Int.reduceEq, Int.reduceToNat, Int.reducePow, Int.reduceNeg]
  refine hK _ ?_; clear hK
  refine bwp_leads (S' := rkS [.str t.name, I, T, .int .i64 t.kind, A] []) (Leads.frz [] [(0, [.str t.name, I, T, .int .i64 t.kind, A])] ⟨?_, ?_, rfl, rfl, ?_⟩) ?_
  · simp [rkS, frzT, fget, AV.cv, cvL, zget, pget]
  · simp [rkS, frzM, pinv, zget, mget, cvL, AV.cv]
  · simp [zokFrom, mget, cvL, AV.cv]
  unfold rkS
  refine bwp_seq fun K1 hK1 => ?_
  refine bwp_seq fun K hK => bwp_region rfl ?_
  simp -implicitDefEqProofs only [go_sem, ↓reduceIte, Nat.reduceEqDiff, Nat.reduceAdd, Nat.reduceLeDiff, Nat.reduceMul, Nat.reduceSub, Int.reduceLE, Int.reduceLT, Int.reduceEq, Int.reduceToNat, Int.reducePow, Int.reduceNeg]
  refine callK_pure (refTest_pure hT0 hn) rfl rfl ?_
  simp -implicitDefEqProofs only [go_sem, ↓reduceIte, Nat.reduceEqDiff, Nat.reduceAdd, Nat.reduceLeDiff, Nat.reduceMul, Nat.reduceSub, Int.reduceLE, Int.reduceLT, Int.reduceEq, Int.reduceToNat, Int.reducePow, Int.reduceNeg]
  refine hK _ ?_; clear hK
  cases hok : okB t
  · refine bwp_cond true (by simp [ev, fget]) (fun _ => ?_) (fun h => nomatch h)
    refine bwp_seq fun K hK => bwp_region rfl ?_
    simp -implicitDefEqProofs only [go_sem, ↓reduceIte, Nat.reduceEqDiff, Nat.reduceAdd, Nat.reduceLeDiff, Nat.reduceMul, Nat.reduceSub, Int.reduceLE, Int.reduceLT, Int.reduceEq, Int.reduceToNat, Int.reducePow, Int.reduceNeg]
    refine hK _ ?_; clear hK
    refine bwp_ret ?_
    simp only [go_sem]
    refine aend_ret _ rfl rfl ⟨?_, rfl⟩
    simp [fget, checkW, hok]
  refine bwp_cond false (by simp [ev, fget]) (fun h => nomatch h) (fun _ => ?_)
  refine bwp_skip ?_
  refine hK1 _ ?_; clear hK1
  refine bwp_seq fun K hK => bwp_region rfl ?_
  simp -implicitDefEqProofs only [go_sem, ↓reduceIte, Nat.reduceEqDiff, Nat.reduceAdd, Nat.reduceLeDiff, Nat.reduceMul, Nat.reduceSub, Int.reduceLE, Int.reduceLT, Int.reduceEq, Int.reduceToNat, Int.reducePow, Int.reduceNeg]
  refine hK _ ?_; clear hK
  refine bwp_seq fun K hK => bwp_region rfl ?_
  have rest : ∀ (t' : Fr) (b : Bool), fget t' 4 = .d (.bool b) → b = bigR0 t → fget t' 1 = .dptr [.str t.name, I, T, .int .i64 t.kind, A] → fget t' 2 = .d (.int .i64 0) → fget t' 3 = .d (.int .i64 0) → K ⟨t', [], 0⟩ := by
    intro t' b h4 hb h1 h2 h3
    refine hK _ ?_; clear hK
    refine bwp_seq fun K1 hK1 => ?_
    refine bwp_seq fun K2 hK2 => ?_
    refine bwp_region rfl ?_
    simp -implicitDefEqProofs only [go_sem, ↓reduceIte, Nat.reduceEqDiff, Nat.reduceAdd, Nat.reduceLeDiff, Nat.reduceMul, Nat.reduceSub, Int.reduceLE, Int.reduceLT, Int.reduceEq, Int.reduceToNat, Int.reducePow, Int.reduceNeg]
    refine hK2 _ ?_; clear hK2
    refine bwp_block ?_
    refine bwp_leads (S' := rkS [.str t.name, I, T, .int .i64 t.kind, A] [(5, .d (.int .i64 (0 : Nat))), (4, .d (.bool b)), (3, .d (.int .i64 (0 : Nat)))]) (Leads.ent [] ⟨by simp [entT, fget, AV.ren, renL, pget, rkS, h1, h2, h3, h4], by simp [entM, pinv, mget, mset, renL, AV.ren, pget, renL_append, -List.map_map, rkS, h1, h2, h3, h4], rfl, rfl⟩) ?_
    refine rk_threads hTh ?_
    have hbig := refBig_eq hok
    rw [← hb] at hbig
    generalize (b || (t.threads.take 5).any fun l => decide (10 < l.length)) = b1 at hbig
    generalize capLen (t.threads.take 5) = s at hbig
    unfold rkS
    simp -implicitDefEqProofs only [go_sem, ↓reduceIte, Nat.reduceEqDiff, Nat.reduceAdd, Nat.reduceLeDiff, Nat.reduceMul, Nat.reduceSub, Int.reduceLE, Int.reduceLT, Int.reduceEq, Int.reduceToNat, Int.reducePow, Int.reduceNeg]
    refine hK1 _ ?_; clear hK1
    refine bwp_seq fun K1 hK1 => ?_
    refine bwp_seq fun K2 hK2 => ?_
    refine bwp_region rfl ?_
    simp -implicitDefEqProofs only [go_sem, ↓reduceIte, Nat.reduceEqDiff, Nat.reduceAdd, Nat.reduceLeDiff, Nat.reduceMul, Nat.reduceSub, Int.reduceLE, Int.reduceLT, Int.reduceEq, Int.reduceToNat, Int.reducePow, Int.reduceNeg]
    refine hK2 _ ?_; clear hK2
    refine bwp_block ?_
    refine bwp_leads (S' := rkS [.str t.name, I, T, .int .i64 t.kind, A] [(6, .d (.int .i64 (0 : Nat))), (4, .d (.bool b1)), (3, .d (.int .i64 s))]) (Leads.ent [] ⟨by simp [entT, fget, AV.ren, renL, pget, rkS], by simp [entM, pinv, mget, mset, renL, AV.ren, pget, renL_append, -List.map_map, rkS], rfl, rfl⟩) ?_
    refine rk_rows hA ?_
    generalize (b1 || t.rows.any longB) = b2 at hbig
    unfold rkS
    simp -implicitDefEqProofs only [go_sem, ↓reduceIte, Nat.reduceEqDiff, Nat.reduceAdd, Nat.reduceLeDiff, Nat.reduceMul, Nat.reduceSub, Int.reduceLE, Int.reduceLT, Int.reduceEq, Int.reduceToNat, Int.reducePow, Int.reduceNeg]
    refine hK1 _ ?_; clear hK1
    refine bwp_seq fun K1 hK1 => ?_
    refine bwp_seq fun K hK => bwp_region rfl ?_
    have hds : decide ((24 : Int) < (s : Int)) = decide (24 < s) := by rw [decide_eq_decide]; omega
    have rest2 : ∀ (t2 : Fr) (c : Bool), fget t2 99 = .d (.bool c) → c = bigB t → fget t2 1 = .dptr [.str t.name, I, T, .int .i64 t.kind, A] → fget t2 2 = .d (.int .i64 0) → K ⟨t2, [], 0⟩ := by
      intro t2 c h99 hc h1 h2
      refine hK _ ?_; clear hK
      cases hbb : bigB t
      · rw [hbb] at hc
        subst hc
        refine bwp_cond false (by simp [ev, fget, h99]) (fun h => nomatch h) (fun _ => ?_)
        refine bwp_skip ?_
        simp -implicitDefEqProofs only [go_sem, ↓reduceIte, Nat.reduceEqDiff, Nat.reduceAdd, Nat.reduceLeDiff, Nat.reduceMul, Nat.reduceSub, Int.reduceLE, Int.reduceLT, Int.reduceEq, Int.reduceToNat, Int.reducePow, Int.reduceNeg]
        refine hK1 _ ?_; clear hK1
        refine bwp_seq fun K1 hK1 => ?_
        refine bwp_seq fun K2 hK2 => ?_
        refine bwp_region rfl ?_
        simp -implicitDefEqProofs only [go_sem, ↓reduceIte, Nat.reduceEqDiff, Nat.reduceAdd, Nat.reduceLeDiff, Nat.reduceMul, Nat.reduceSub, Int.reduceLE, Int.reduceLT, Int.reduceEq, Int.reduceToNat, Int.reducePow, Int.reduceNeg]
        refine hK2 _ ?_; clear hK2
        refine bwp_block ?_
        refine bwp_leads (S' := rkS [.str t.name, I, T, .int .i64 t.kind, A] [(7, .d (.int .i64 (0 : Nat)))]) (Leads.ent [] ⟨by simp [entT, fget, AV.ren, renL, pget, rkS, h1, h2], by simp [entM, pinv, mget, mset, renL, AV.ren, pget, renL_append, -List.map_map, rkS, h1, h2], rfl, rfl⟩) ?_
        refine rk_inits hI ?_ ?_
        · intro htw S hS
          simp -implicitDefEqProofs only [go_sem, ↓reduceIte, Nat.reduceEqDiff, Nat.reduceAdd, Nat.reduceLeDiff, Nat.reduceMul, Nat.reduceSub, Int.reduceLE, Int.reduceLT, Int.reduceEq, Int.reduceToNat, Int.reducePow, Int.reduceNeg]
          exact aend_ret (.d (.int .i64 9)) (by simp [resA, resVs, resV, hS]) rfl ⟨by simp [checkW, hok, hbb, htw], rfl⟩
        · intro htw
          unfold rkS
          simp -implicitDefEqProofs only [go_sem, ↓reduceIte, Nat.reduceEqDiff, Nat.reduceAdd, Nat.reduceLeDiff, Nat.reduceMul, Nat.reduceSub, Int.reduceLE, Int.reduceLT, Int.reduceEq, Int.reduceToNat, Int.reducePow, Int.reduceNeg]
          refine hK1 _ ?_; clear hK1
          refine bwp_seq fun K1 hK1 => ?_
          refine bwp_seq fun K2 hK2 => ?_
          refine bwp_region rfl ?_
          simp -implicitDefEqProofs only [go_sem, ↓reduceIte, Nat.reduceEqDiff, Nat.reduceAdd, Nat.reduceLeDiff, Nat.reduceMul, Nat.reduceSub, Int.reduceLE, Int.reduceLT, Int.reduceEq, Int.reduceToNat, Int.reducePow, Int.reduceNeg]
          refine hK2 _ ?_; clear hK2
          refine bwp_block ?_
          refine bwp_leads (S' := rkS [.str t.name, I, T, .int .i64 t.kind, A] [(9, .d (.int .i64 (0 : Nat)))]) (Leads.ent [] ⟨by simp [entT, fget, AV.ren, renL, pget, rkS], by simp [entM, pinv, mget, mset, renL, AV.ren, pget, renL_append, -List.map_map, rkS], rfl, rfl⟩) ?_
          have hje : t.threads.any refJumps = t.threads.any (fun l => !jumpsB l) := any_congr' fun l hl => refJumps_eq (okB_skip hok l hl)
          have hfe : (t.rows.any fun l => l.any (refFar t.threads.length)) = t.rows.any (fun l => l.any (farB t.threads.length)) := any_congr' fun l hl => any_congr' fun a ha => refFar_eq _ a
          refine rk_jumps hTh ?_ ?_
          · intro hj S hS
            rw [hje] at hj
            simp -implicitDefEqProofs only [go_sem, ↓reduceIte, Nat.reduceEqDiff, Nat.reduceAdd, Nat.reduceLeDiff, Nat.reduceMul, Nat.reduceSub, Int.reduceLE, Int.reduceLT, Int.reduceEq, Int.reduceToNat, Int.reducePow, Int.reduceNeg]
            exact aend_ret (.d (.int .i64 10)) (by simp [resA, resVs, resV, hS]) rfl ⟨by simp [checkW, hok, hbb, htw, hj], rfl⟩
          · intro hj
            rw [hje] at hj
            unfold rkS
            simp -implicitDefEqProofs only [go_sem, ↓reduceIte, Nat.reduceEqDiff, Nat.reduceAdd, Nat.reduceLeDiff, Nat.reduceMul, Nat.reduceSub, Int.reduceLE, Int.reduceLT, Int.reduceEq, Int.reduceToNat, Int.reducePow, Int.reduceNeg]
            refine hK1 _ ?_; clear hK1
            refine bwp_seq fun K1 hK1 => ?_
            refine bwp_seq fun K2 hK2 => ?_
            refine bwp_region rfl ?_
            simp -implicitDefEqProofs only [go_sem, ↓reduceIte, Nat.reduceEqDiff, Nat.reduceAdd, Nat.reduceLeDiff, Nat.reduceMul, Nat.reduceSub, Int.reduceLE, Int.reduceLT, Int.reduceEq, Int.reduceToNat, Int.reducePow, Int.reduceNeg]
            refine hK2 _ ?_; clear hK2
            refine bwp_block ?_
            refine bwp_leads (S' := rkS [.str t.name, I, T, .int .i64 t.kind, A] [(12, .d (.int .i64 (0 : Nat)))]) (Leads.ent [] ⟨by simp [entT, fget, AV.ren, renL, pget, rkS], by simp [entM, pinv, mget, mset, renL, AV.ren, pget, renL_append, -List.map_map, rkS], rfl, rfl⟩) ?_
            refine rk_fars hTh hA ?_ ?_
            · intro hf S hS
              rw [hfe] at hf
              simp -implicitDefEqProofs only [go_sem, ↓reduceIte, Nat.reduceEqDiff, Nat.reduceAdd, Nat.reduceLeDiff, Nat.reduceMul, Nat.reduceSub, Int.reduceLE, Int.reduceLT, Int.reduceEq, Int.reduceToNat, Int.reducePow, Int.reduceNeg]
              exact aend_ret (.d (.int .i64 10)) (by simp [resA, resVs, resV, hS]) rfl ⟨by simp [checkW, hok, hbb, htw, hj, hf], rfl⟩
            · rintro hf ⟨t3, m3, n3⟩
              rw [hfe] at hf
              simp -implicitDefEqProofs only [go_sem, ↓reduceIte, Nat.reduceEqDiff, Nat.reduceAdd, Nat.reduceLeDiff, Nat.reduceMul, Nat.reduceSub, Int.reduceLE, Int.reduceLT, Int.reduceEq, Int.reduceToNat, Int.reducePow, Int.reduceNeg]
              refine hK1 _ ?_; clear hK1
              refine bwp_seq fun K hK => bwp_region (by simp [mbound]) ?_
              simp -implicitDefEqProofs only [go_sem, ↓reduceIte, Nat.reduceEqDiff, Nat.reduceAdd, Nat.reduceLeDiff, Nat.reduceMul, Nat.reduceSub, Int.reduceLE, Int.reduceLT, Int.reduceEq, Int.reduceToNat, Int.reducePow, Int.reduceNeg]
              refine hK _ ?_; clear hK
              refine bwp_ret ?_
              simp only [go_sem]
              refine aend_ret _ rfl rfl ⟨?_, rfl⟩
              simp [fget, checkW, hok, hbb, htw, hj, hf]
      · rw [hbb] at hc
        subst hc
        refine bwp_cond true (by simp [ev, fget, h99]) (fun _ => ?_) (fun h => nomatch h)
        refine bwp_seq fun K hK => bwp_region rfl ?_
        simp -implicitDefEqProofs only [go_sem, ↓reduceIte, Nat.reduceEqDiff, Nat.reduceAdd, Nat.reduceLeDiff, Nat.reduceMul, Nat.reduceSub, Int.reduceLE, Int.reduceLT, Int.reduceEq, Int.reduceToNat, Int.reducePow, Int.reduceNeg]
        refine hK _ ?_; clear hK
        refine bwp_ret ?_
        simp only [go_sem]
        refine aend_ret _ rfl rfl ⟨?_, rfl⟩
        simp [fget, checkW, hok, hbb]
    clear hK
    cases b2
    · simp -implicitDefEqProofs only [go_sem, ↓reduceIte, Nat.reduceEqDiff, Nat.reduceAdd, Nat.reduceLeDiff, Nat.reduceMul, Nat.reduceSub, Int.reduceLE, Int.reduceLT, Int.reduceEq, Int.reduceToNat, Int.reducePow, Int.reduceNeg, hds]
      exact rest2 _ _ rfl (by rw [← hbig]; simp) rfl rfl
    · simp -implicitDefEqProofs only [go_sem, ↓reduceIte, Nat.reduceEqDiff, Nat.reduceAdd, Nat.reduceLeDiff, Nat.reduceMul, Nat.reduceSub, Int.reduceLE, Int.reduceLT, Int.reduceEq, Int.reduceToNat, Int.reducePow, Int.reduceNeg]
      exact rest2 _ true rfl (by rw [← hbig]; simp) rfl rfl
  clear hK
  simp -implicitDefEqProofs only [go_sem, ↓reduceIte, Nat.reduceEqDiff, Nat.reduceAdd, Nat.reduceLeDiff, Nat.reduceMul, Nat.reduceSub, Int.reduceLE, Int.reduceLT, Int.reduceEq, Int.reduceToNat, Int.reducePow, Int.reduceNeg, hTl]
  repeat' (first
    | (refine gateK_split (fun hb => ?_) (fun hb => ?_) <;> simp -implicitDefEqProofs only [go_sem, ↓reduceIte, Nat.reduceEqDiff, Nat.reduceAdd, Nat.reduceLeDiff, Nat.reduceMul, Nat.reduceSub, Int.reduceLE, Int.reduceLT, Int.reduceEq, Int.reduceToNat, Int.reducePow, Int.reduceNeg, hb, hTl, hAl, hln])
    | (refine dGateK_split (fun hb => ?_) (fun hb => ?_) <;> simp -implicitDefEqProofs only [go_sem, ↓reduceIte, Nat.reduceEqDiff, Nat.reduceAdd, Nat.reduceLeDiff, Nat.reduceMul, Nat.reduceSub, Int.reduceLE, Int.reduceLT, Int.reduceEq, Int.reduceToNat, Int.reducePow, Int.reduceNeg, hb, hTl, hAl, hln])
    | (refine callK_pure (refLocs_pure hT0) rfl rfl ?_; simp -implicitDefEqProofs only [go_sem, ↓reduceIte, Nat.reduceEqDiff, Nat.reduceAdd, Nat.reduceLeDiff, Nat.reduceMul, Nat.reduceSub, Int.reduceLE, Int.reduceLT, Int.reduceEq, Int.reduceToNat, Int.reducePow, Int.reduceNeg, hTl, hAl, hln]))
  all_goals exact rest _ _ rfl (by clear rest; simp only [bigR0, *, Bool.false_or, Bool.true_or, Bool.or_true]) rfl rfl rfl

end Go.Proofs.Ytjfghjakpjfgpaa
