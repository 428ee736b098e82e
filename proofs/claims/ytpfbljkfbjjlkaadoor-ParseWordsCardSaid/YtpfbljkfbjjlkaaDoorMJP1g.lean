/- What the statement's proof leans on, part 7: the layer, the walks, the plain laws. -/
import Derived.Test.YtpfbljkfbjjlkaaDoorMJP1f
import Derived.Test.YtpfbljkfbjjlkaaDoorMJP1c

/- The document's reader: Tree. -/
namespace Go.Proofs.YtpfbljkfbjjlkaaDoor
open Go Go.Jq
set_option maxRecDepth 100000
set_option linter.unusedSimpArgs false

theorem RQ.fin {α : Type} {s : List UInt8} {σ : PR Nat} {t : PT α} {x : α} {q q' : RSt} {b : PR (α × Nat)} (h : RQ s b x q) (hl : RL s (posR b) q') (hσ : b = thn σ (t.run s)) : (q'.code = 0 ∧ ∃ c, b = .ok (x, c)) ∨ (∃ e, b = .error e ∧ q'.code = e.1 ∧ e.1 ≠ 0 ∧ q'.eat = e.2) := by
  cases b with
  | ok p =>
    obtain ⟨y, c⟩ := p
    obtain ⟨rfl, h⟩ := h
    exact .inl ⟨hl.code, c, rfl⟩
  | error e => exact .inr ⟨e, rfl, hl⟩

/-- Behind all of it. -/
def tzS (s : List UInt8) (t : Test) (r : RSt) : St :=
  ⟨[(4, .ptr 0 0), (5, .ptr 1 0), (2, .ptr 2 0), (3, .ptr 3 0)], [(0, rdC s r), (1, (testD t).map .d), (2, testD0.map .d), (3, [.d (.int .i64 0), .d (.int .i64 0)])], 4⟩

theorem trS_frz {n0 k : Nat} (hn : n0 ≤ 4 := by decide) (s nm : List UInt8) (I : List Init) (T : List (List Ins)) (kd : Int) (R : List (List Atom)) (r : RSt) (h0 : n0 = 0) : Leads n0 k (trS s nm I T kd R r) (tzS s ⟨nm, I, T, kd, R⟩ r) := by
  subst h0
  have h1 := init_take I
  have h2 : (thrC T).take T.length = thrC T := List.take_of_length_le (by rw [thrC_len]; omega)
  have h3 : (rowsC R).take R.length = rowsC R := List.take_of_length_le (by rw [rowsC_len]; omega)
  refine Leads.frz (S' := tzS s ⟨nm, I, T, kd, R⟩ r) [(0, 0), (1, 1), (2, 2), (3, 3)] [(4, I.flatMap Init.cells), (5, thrC T), (6, rowsC R)] ⟨?_, ?_, rfl, rfl, ?_⟩
  · simp [trS, tzS, frzT, fget, AV.cv, cvL, zget, pget]
  · simp [trS, tzS, frzM, pinv, zget, mget, cvL, AV.cv, rdC, testD, testD0, pget, cvL_d, slD, thrD, rowsD, h1, h2, h3]
  · simp [trS, zokFrom, mget, cvL_d]

set_option maxHeartbeats 64000000 in
theorem tree_pure {s : List UInt8} (hs : s.length ≤ maxLen) : Pure Tryd.prog 26 [.d (.str s)] (parseV (pTest s)) := by
  have h54 : ldk Tryd.prog 54 = some (some 5) := by kernel_rfl
  have h26 : ldk Tryd.prog 26 = some (some 2) := by kernel_rfl
  have hin : ∀ r, (parseV r).ren (fun _ => none) = parseV r := by
    intro r
    cases r <;> simp [parseV, AV.ren, renL, testD, testD0]
  refine acalls_of Tryd.func26 ac26_ok Tryd.ntmps26 Tryd.results26 rfl ?_
  unfold ac26
  refine bwp_seq fun K hK => bwp_region rfl ?_
  simp only [go_sem, ↓reduceIte, Nat.reduceEqDiff, Nat.reduceAdd]
  refine hK _ ?_; clear hK
  refine bwp_seq fun K1 hK1 => ?_
  by_cases hl : 4000 < s.length
  · have hl' : (4000 : Int) < s.length := by omega
    refine bwp_seq fun K hK => bwp_region rfl ?_
    simp only [go_sem, ↓reduceIte, Nat.reduceEqDiff, Nat.reduceAdd, eq_true hl', decide_true]
    refine hK _ ?_; clear hK
    refine bwp_cond true (by simp [ev, fget]) (fun _ => ?_) (fun h => nomatch h)
    refine bwp_seq fun K hK => bwp_region rfl ?_
    simp only [go_sem, ↓reduceIte, Nat.reduceEqDiff, Nat.reduceAdd]
    refine hK _ ?_; clear hK
    refine bwp_ret ?_
    simp only [go_sem, ↓reduceIte, Nat.reduceEqDiff, Nat.reduceAdd]
    refine aend_ret (parseV (pTest s)) ?_ (hin _) ⟨rfl, rfl⟩
    have : pTest s = .error (2, 4000) := by unfold pTest; rw [if_pos hl]
    rw [this]
    simp [resA, resVs, resV, fget, mget, mset, loadA, h54, h26, parseV, testD0]
  have hs4 : s.length ≤ 4000 := by omega
  have hs' : s.length ≤ 140737488351232 := by omega
  have hl' : ¬ (4000 : Int) < s.length := by omega
  refine bwp_seq fun K hK => bwp_region rfl ?_
  simp only [go_sem, ↓reduceIte, Nat.reduceEqDiff, Nat.reduceAdd, eq_false hl', decide_false]
  refine hK _ ?_; clear hK
  refine bwp_cond false (by simp [ev, fget]) (fun h => nomatch h) (fun _ => ?_)
  refine bwp_skip ?_
  refine hK1 _ ?_; clear hK1
  refine bwp_seq fun K hK => bwp_region rfl ?_
  simp only [go_sem, ↓reduceIte, Nat.reduceEqDiff, Nat.reduceAdd]
  refine hK _ ?_; clear hK
  refine bwp_seq fun K hK => bwp_region rfl ?_
  simp only [go_sem, ↓reduceIte, Nat.reduceEqDiff, Nat.reduceAdd]
  refine hK _ ?_; clear hK
  refine bwp_leads (S' := ⟨[(4, .ptr 0 0), (5, .ptr 1 0), (2, .ptr 2 0), (3, .ptr 3 0)], [(0, rdC s ⟨0, noTok, 0, 0, 0⟩), (1, testD0.map .d), (2, testD0.map .d), (3, [.d (.int .i64 0), .d (.int .i64 0)])], 4⟩) (Leads.ent [(2, 0), (3, 1), (0, 2), (1, 3)] ⟨by simp [entT, fget, AV.ren, renL, pget, rdC, noTok, testD0], by simp [entM, pinv, mget, mset, renL, AV.ren, pget, renL_append, -List.map_map, rdC, noTok, testD0], rfl, rfl⟩) ?_
  refine bwp_leads (Leads.nilCell 1 1 2 rfl rfl rfl rfl) ?_
  refine bwp_leads (Leads.nilCell 1 2 1 rfl rfl rfl rfl) ?_
  refine bwp_leads (Leads.nilCell 1 4 1 rfl rfl rfl rfl) ?_
  refine bwp_leads (S' := trS s [] [] [] 0 [] ⟨0, noTok, 0, 0, 0⟩) (Leads.ent [(0, 0), (1, 1), (2, 2), (3, 3), (4, 4), (5, 5), (6, 6)] ⟨by simp [trS, entT, fget, AV.ren, renL, pget], by simp [trS, entM, pinv, mget, mset, renL, AV.ren, pget, rdC, testD0, thrC, rowsC], rfl, rfl⟩) ?_
  have h0 : RS s (goW s 0) ⟨0, noTok, 0, 0, 0⟩ := .inl ⟨rfl, Nat.zero_le _, rfl⟩
  unfold trS
  refine bwp_seq fun K hK => bwp_region rfl ?_
  simp only [go_sem, ↓reduceIte, Nat.reduceEqDiff, Nat.reduceAdd]
  refine eat2_callK hs' h0 wTest rfl ?_
  intro q2 h2
  simp only [go_sem, ↓reduceIte, Nat.reduceEqDiff, Nat.reduceAdd, mset]
  refine hK _ ?_; clear hK
  refine bwp_seq fun K hK => bwp_region rfl ?_
  simp only [go_sem, ↓reduceIte, Nat.reduceEqDiff, Nat.reduceAdd]
  refine word2_callK hs' h2.rs rfl ?_
  intro nm q3 h3
  simp only [go_sem, ↓reduceIte, Nat.reduceEqDiff, Nat.reduceAdd, mset]
  refine hK _ ?_; clear hK
  refine bwp_seq fun K hK => bwp_region rfl ?_
  simp only [go_sem, ↓reduceIte, Nat.reduceEqDiff, Nat.reduceAdd]
  refine eat2_callK hs' h3.rs [123] rfl ?_
  intro q4 h4
  simp only [go_sem, ↓reduceIte, Nat.reduceEqDiff, Nat.reduceAdd, mset]
  refine hK _ ?_; clear hK
  generalize hσ4 : posR (thn (posR (thn (posR (thn (goW s 0) ((tMust wTest).run s))) (tWord.run s))) ((tMust [123]).run s)) = σ4
  have hps4 := h4.rs
  rw [hσ4] at hps4
  refine bwp_seq fun K1 hK1 => ?_
  have fin1 : ∀ (S : St) (I : List Init) (q : RSt), Leads (mbound []) Tryd.f26.ntmps S (trS s nm I [] 0 [] q) → RQ s (thn σ4 ((tTake wInit tInits (.ret [])).run s)) I q → K1 S := by
    intro S I q5 hS h5
    refine hK1 _ ?_; clear hK1
    refine bwp_leads hS ?_
    have hir : ∀ π, renL π ((I.flatMap Init.cells).map AV.d) = (I.flatMap Init.cells).map .d := fun π => renL_d _ _
    refine bwp_seq fun K2 hK2 => ?_
    refine bwp_block ?_
    refine tr2_loop hs4 h5.rs ?_
    intro T q6 hl6 h6
    have htr : ∀ π, renL π ((thrC T).map AV.d) = (thrC T).map .d := fun π => renL_d _ _
    unfold trS
    simp only [go_sem, ↓reduceIte, Nat.reduceEqDiff, Nat.reduceAdd]
    refine hK2 _ ?_; clear hK2
    refine bwp_seq fun K2 hK2 => ?_
    have fin2 : ∀ (S : St) (c : Int × List (List Atom)) (q : RSt), Leads (mbound []) Tryd.f26.ntmps S (trS s nm I T c.1 c.2 q) → RQ s (thn (posR (thn (posR (thn σ4 ((tTake wInit tInits (.ret [])).run s))) ((tThreads fuelP).run s))) (tCond.run s)) c q → K2 S := by
      intro S c q7 hS h7
      refine hK2 _ ?_; clear hK2
      refine bwp_leads hS ?_
      refine bwp_leads (trS_frz (by decide) s nm I T c.1 c.2 q7 rfl) ?_
      unfold tzS
      refine bwp_seq fun K hK => bwp_region rfl ?_
      simp only [go_sem, ↓reduceIte, Nat.reduceEqDiff, Nat.reduceAdd]
      refine eat2_callK hs' h7.rs [125] rfl ?_
      intro q8 h8
      simp only [go_sem, ↓reduceIte, Nat.reduceEqDiff, Nat.reduceAdd, mset]
      refine hK _ ?_; clear hK
      refine bwp_seq fun K3 hK3 => ?_
      refine bwp_seq fun K hK => bwp_region rfl ?_
      simp only [go_sem, ↓reduceIte, Nat.reduceEqDiff, Nat.reduceAdd]
      refine look_callK hs' h8.rs rfl ?_
      intro q9 h9
      have fin3 : ∀ (S : St) (q : RSt), Leads (mbound []) Tryd.f26.ntmps S (tzS s ⟨nm, I, T, c.1, c.2⟩ q) → RL s (posR (thn (posR (thn (posR (thn (posR (thn (posR (thn σ4 ((tTake wInit tInits (.ret [])).run s))) ((tThreads fuelP).run s))) (tCond.run s))) ((tMust [125]).run s))) ((PT.cur fun d _ => if d = 4 then .ret (⟨nm, I, T, c.1, c.2⟩ : Test) else .bad 6).run s))) q →
          RQ s (thn (posR (thn (posR (thn (posR (thn (posR (thn σ4 ((tTake wInit tInits (.ret [])).run s))) ((tThreads fuelP).run s))) (tCond.run s))) ((tMust [125]).run s))) ((PT.cur fun d _ => if d = 4 then .ret (⟨nm, I, T, c.1, c.2⟩ : Test) else .bad 6).run s)) ⟨nm, I, T, c.1, c.2⟩ q → K3 S := by
        intro S q10 hS h10 h10q
        refine hK3 _ ?_; clear hK3
        refine bwp_leads hS ?_
        subst hσ4
        have hall : RQ s (thn (goW s 0) (tTest.run s)) ⟨nm, I, T, c.1, c.2⟩ q10 := RQ.bind h2 (RQ.bind h3 (RQ.bind h4 (RQ.bind h5 (RQ.bind h6 (RQ.bind h7 (RQ.bind h8 h10q))))))
        have hpos : RL s (posR (thn (goW s 0) (tTest.run s))) q10 := by
          have e : ∀ {α β : Type} (σ : PR Nat) (t : PT α) (f : α → PT β) (x : α) (q : RSt), RQ s (thn σ (t.run s)) x q → posR (thn σ ((t.bind f).run s)) = posR (thn (posR (thn σ (t.run s))) ((f x).run s)) := by
            intro α β σ t f x q h
            cases σ with
            | error e => rfl
            | ok a =>
              simp only [thn] at h ⊢
              rw [PT.run_bind]
              cases ht : t.run s a with
              | error e => rfl
              | ok p =>
                obtain ⟨x', b⟩ := p
                rw [ht] at h
                obtain ⟨rfl, _⟩ := h
                rfl
          unfold tTest
          rw [e _ _ _ _ _ h2, e _ _ _ _ _ h3, e _ _ _ _ _ h4, e _ _ _ _ _ h5, e _ _ _ _ _ h6, e _ _ _ _ _ h7, e _ _ _ _ _ h8]
          exact h10
        unfold tzS
        refine bwp_seq fun K4 hK4 => ?_
        have heq := pTest_eq hs4
        rcases RQ.fin hall hpos rfl with ⟨hc, b, hb⟩ | ⟨e, he, hc, hne, hat⟩
        · rw [hb] at heq
          simp only at heq
          refine bwp_seq fun K hK => bwp_region rfl ?_
          simp only [go_sem, ↓reduceIte, Nat.reduceEqDiff, Nat.reduceAdd, rdC, eq_true hc, decide_true, decide_false]
          refine hK _ ?_; clear hK
          refine bwp_cond false (by simp [ev, fget]) (fun h => nomatch h) (fun _ => ?_)
          refine bwp_skip ?_
          refine hK4 _ ?_; clear hK4
          refine bwp_seq fun K hK => bwp_region rfl ?_
          simp only [go_sem, ↓reduceIte, Nat.reduceEqDiff, Nat.reduceAdd, testD]
          refine hK _ ?_; clear hK
          refine bwp_ret ?_
          simp only [go_sem, ↓reduceIte, Nat.reduceEqDiff, Nat.reduceAdd]
          refine aend_ret (parseV (pTest s)) ?_ (hin _) ⟨rfl, rfl⟩
          rw [heq]
          simp [resA, resVs, resV, fget, mget, mset, loadA, h54, h26, parseV, testD, testD0]
        · rw [he] at heq
          simp only at heq
          have hc0 : ¬ q10.code = 0 := by rw [hc]; exact hne
          refine bwp_seq fun K hK => bwp_region rfl ?_
          simp only [go_sem, ↓reduceIte, Nat.reduceEqDiff, Nat.reduceAdd, rdC, eq_false hc0, decide_false]
          refine hK _ ?_; clear hK
          refine bwp_cond true (by simp [ev, fget]) (fun _ => ?_) (fun h => nomatch h)
          refine bwp_seq fun K hK => bwp_region_draw rfl rfl ?_
          simp only [go_sem, ↓reduceIte, Nat.reduceEqDiff, Nat.reduceAdd, rdC]
          refine ⟨rfl, hK _ ?_⟩; clear hK
          refine bwp_ret ?_
          simp only [go_sem, ↓reduceIte, Nat.reduceEqDiff, Nat.reduceAdd]
          refine aend_ret (parseV (pTest s)) ?_ (hin _) ⟨rfl, rfl⟩
          rw [heq]
          simp [resA, resVs, resV, fget, mget, mset, loadA, h54, h26, parseV, testD0, hc, hat]
      generalize posR (thn (posR (thn (posR (thn (posR (thn σ4 ((tTake wInit tInits (.ret [])).run s))) ((tThreads fuelP).run s))) (tCond.run s))) ((tMust [125]).run s)) = σ9 at h9 fin3
      by_cases hc : q9.code = 0
      · obtain ⟨a, rfl⟩ : ∃ a, σ9 = .ok a := by
          cases σ9 with
          | ok a => exact ⟨a, rfl⟩
          | error e => exact absurd hc h9.codeE
        have ht := h9.2.2.2.2.1
        rw [lkT_ok hc]
        simp only [go_sem, ↓reduceIte, Nat.reduceEqDiff, Nat.reduceAdd, mset]
        refine hK _ ?_; clear hK
        by_cases h4 : q9.tok.kd = 4
        · have e : (PT.cur fun d _ => if d = 4 then .ret (⟨nm, I, T, c.1, c.2⟩ : Test) else .bad 6).run s a = .ok (⟨nm, I, T, c.1, c.2⟩, a) := by
            simp only [PT.run, ← ht, h4, if_true]
          simp only [thn, e, posR] at fin3
          refine bwp_seq fun K hK => bwp_region rfl ?_
          simp only [go_sem, ↓reduceIte, Nat.reduceEqDiff, Nat.reduceAdd, rdC, eq_true hc, eq_true h4, decide_true, decide_false]
          refine hK _ ?_; clear hK
          refine bwp_cond false (by simp [ev, fget]) (fun h => nomatch h) (fun _ => ?_)
          refine bwp_skip ?_
          refine fin3 _ q9 (Leads.ent [(0, 0), (1, 1), (2, 2), (3, 3)] ⟨by simp [tzS, entT, fget, AV.ren, renL, pget], by simp [tzS, entM, pinv, mget, mset, renL, AV.ren, pget, rdC, testD, testD0], rfl, rfl⟩) h9 ⟨rfl, h9.rs⟩
        · have e : (PT.cur fun d _ => if d = 4 then .ret (⟨nm, I, T, c.1, c.2⟩ : Test) else .bad 6).run s a = (PT.bad 6 : PT Test).run s a := by
            simp only [PT.run, ← ht, h4, if_false]
          simp only [thn, e] at fin3
          refine bwp_seq fun K hK => bwp_region rfl ?_
          simp only [go_sem, ↓reduceIte, Nat.reduceEqDiff, Nat.reduceAdd, rdC, eq_true hc, eq_false h4, decide_true, decide_false]
          refine hK _ ?_; clear hK
          refine bwp_cond true (by simp [ev, fget]) (fun _ => ?_) (fun h => nomatch h)
          refine bwp_region rfl ?_
          simp only [go_sem, ↓reduceIte, Nat.reduceEqDiff, Nat.reduceAdd]
          refine fail2_callK s q9 6 rfl ?_
          simp only [go_sem, ↓reduceIte, Nat.reduceEqDiff, Nat.reduceAdd, mset]
          refine fin3 _ (failR q9 6) (Leads.ent [(0, 0), (1, 1), (2, 2), (3, 3)] ⟨by simp [tzS, entT, fget, AV.ren, renL, pget], by simp [tzS, entM, pinv, mget, mset, renL, AV.ren, pget, rdC, testD, testD0], rfl, rfl⟩) (h9.fail (by decide) (α := Test)) (RQ.bad (σ := .ok a) h9 (by decide) _)
      · obtain ⟨e, rfl⟩ : ∃ e, σ9 = .error e := by
          cases σ9 with
          | ok a => exact absurd h9.code hc
          | error e => exact ⟨e, rfl⟩
        rw [lkT_no hc]
        simp only [go_sem, ↓reduceIte, Nat.reduceEqDiff, Nat.reduceAdd, mset]
        refine hK _ ?_; clear hK
        refine bwp_seq fun K hK => bwp_region rfl ?_
        simp only [go_sem, ↓reduceIte, Nat.reduceEqDiff, Nat.reduceAdd, rdC, eq_false hc, decide_false]
        refine hK _ ?_; clear hK
        refine bwp_cond false (by simp [ev, fget]) (fun h => nomatch h) (fun _ => ?_)
        refine bwp_skip ?_
        refine fin3 _ q9 (Leads.ent [(0, 0), (1, 1), (2, 2), (3, 3)] ⟨by simp [tzS, entT, fget, AV.ren, renL, pget], by simp [tzS, entM, pinv, mget, mset, renL, AV.ren, pget, rdC, testD, testD0], rfl, rfl⟩) h9 h9.rs
    generalize hσ6 : posR (thn (posR (thn σ4 ((tTake wInit tInits (.ret [])).run s))) ((tThreads fuelP).run s)) = σ6 at fin2
    have hr6 := h6.rs
    rw [hσ6] at hr6
    refine bwp_seq fun K3 hK3 => ?_
    have body : ∀ (S : St) (q : RSt), fget S.t 97 = .d (.bool true) → Leads (mbound []) Tryd.f26.ntmps S (trS s nm I T 0 [] q) → RL s σ6 q → (ikV s σ6 wExists = true ∨ (ikV s σ6 wExists = false ∧ ikV s σ6 wForall = true)) → K3 S := by
      intro S q g97 hS hq hor
      obtain ⟨a6, ha6⟩ : ∃ a, σ6 = .ok a := by
        rcases hor with h | h
        · obtain ⟨a, ha, _⟩ := ikV_ok h; exact ⟨a, ha⟩
        · obtain ⟨a, ha, _⟩ := ikV_ok h.2; exact ⟨a, ha⟩
      refine hK3 _ ?_; clear hK3
      refine bwp_cond true (by simp [ev, fget, g97]) (fun _ => ?_) (fun h => nomatch h)
      refine bwp_leads hS ?_
      unfold trS
      refine bwp_seq fun K hK => bwp_region rfl ?_
      simp only [go_sem, ↓reduceIte, Nat.reduceEqDiff, Nat.reduceAdd, mset]
      refine hK _ ?_; clear hK
      refine bwp_seq fun K4 hK4 => ?_
      have rest : ∀ (S : St) (kd : Int) (q : RSt), Leads (mbound []) Tryd.f26.ntmps S (trS s nm I T kd [] q) → RL s σ6 q →
          (∀ rows q', RQ s (thn (thn σ6 (eatW s)) ((tAsk kd).run s)) (kd, rows) q' → RQ s (thn σ6 (tCond.run s)) (kd, rows) q') → K4 S := by
        intro S kd q hS hq hup
        have hc : q.code = 0 := by subst ha6; exact hq.code
        have hg := hq.goT hc
        refine hK4 _ ?_; clear hK4
        refine bwp_leads hS ?_
        unfold trS
        refine bwp_seq fun K hK => bwp_region rfl ?_
        simp only [go_sem, ↓reduceIte, Nat.reduceEqDiff, Nat.reduceAdd]
        refine go_callK s q rfl ?_
        simp only [go_sem, ↓reduceIte, Nat.reduceEqDiff, Nat.reduceAdd, mset]
        refine hK _ ?_; clear hK
        refine bwp_seq fun K hK => bwp_region rfl ?_
        simp only [go_sem, ↓reduceIte, Nat.reduceEqDiff, Nat.reduceAdd]
        refine atom2_callK hs4 hg rfl ?_
        intro x q2 hx
        simp only [go_sem, ↓reduceIte, Nat.reduceEqDiff, Nat.reduceAdd, mset, atC, Atom.cells]
        refine hK _ ?_; clear hK
        refine bwp_seq fun K5 hK5 => ?_
        refine bwp_block ?_
        refine bwp_leads (S' := taS s nm I T kd [] [x] q2) (Leads.ent [(0, 0), (1, 1), (2, 2), (3, 3), (4, 4), (5, 5), (6, 6), (9, 7)] ⟨by simp [taS, entT, fget, AV.ren, renL, pget], by simp [taS, entM, pinv, mget, mset, renL, AV.ren, pget, renL_append, -List.map_map, rdC, testD0, hir, htr, rowsC, Atom.cells], rfl, rfl⟩) ?_
        refine tr3_loop hs4 hg hx ?_
        intro accs row q7 hacl h7
        have hacl2 : ((rowsC accs).map AV.d).length = accs.length := by rw [List.length_map, rowsC_len]
        have hacr : ∀ π, renL π ((rowsC accs).map AV.d) = (rowsC accs).map .d := fun π => renL_d _ _
        have hb2 : (accs.length + 1) * 24 ≤ 140737488351232 := by omega
        unfold taS
        simp only [go_sem, ↓reduceIte, Nat.reduceEqDiff, Nat.reduceAdd]
        refine hK5 _ ?_; clear hK5
        have htk := atom_take row
        have hsn := rowsC_snoc accs row
        generalize hds : row.flatMap Atom.cells = ds at htk
        refine bwp_leads (Leads.frz (S' := ⟨[(8, .d (.sl row.length ds)), (4, .ptr 0 0), (5, .ptr 1 0), (2, .ptr 2 0), (3, .ptr 3 0)], [(0, rdC s q7), (1, [.d (.str nm), .sl 4 2 0 I.length, .sl 5 1 0 T.length, .d (.int .i64 kd), .sl 6 1 0 accs.length]), (2, testD0.map .d), (3, [.d (.int .i64 0), .d (.int .i64 0)]), (4, (I.flatMap Init.cells).map .d), (5, (thrC T).map .d), (6, (rowsC accs).map .d)], 7⟩) [(0, 0), (1, 1), (2, 2), (3, 3), (4, 4), (5, 5), (6, 6)] [(7, ds)] ⟨?_, ?_, rfl, rfl, ?_⟩) ?_
        · simp [frzT, fget, AV.cv, cvL, zget, pget, htk]
        · simp [frzM, pinv, zget, mget, cvL, AV.cv, rdC, testD0, pget, cvL_d]
        · simp [zokFrom, mget, cvL_d]
        refine bwp_seq fun K hK => bwp_region rfl ?_
        simp only [go_sem, ↓reduceIte, Nat.reduceEqDiff, Nat.reduceAdd, hacl2, hb2, mset, List.length_append, List.length_map, List.length_cons, List.length_nil]
        refine hK _ ?_; clear hK
        refine bwp_region rfl ?_
        simp only [go_sem, ↓reduceIte, Nat.reduceEqDiff, Nat.reduceAdd]
        refine eat2_callK hs' h7.rs [59] rfl ?_
        intro q8 h8
        simp only [go_sem, ↓reduceIte, Nat.reduceEqDiff, Nat.reduceAdd, mset]
        refine fin2 _ (kd, accs ++ [row]) q8 (Leads.ent [(0, 0), (1, 1), (2, 2), (3, 3), (4, 4), (5, 5), (8, 6)] ⟨by simp [trS, entT, fget, AV.ren, renL, pget], ?_, rfl, rfl⟩) ?_
        · simp only [trS, hsn, List.map_append]
          simp [entM, pinv, mget, mset, renL, AV.ren, pget, renL_append, -List.map_map, rdC, testD0, hacr, hir, htr, slD, hds]
        · exact hup _ _ (RQ.bind h7 (RQ.bind h8 (RQ.ret h8.rs)))
      refine bwp_seq fun K hK => bwp_region rfl ?_
      simp only [go_sem, ↓reduceIte, Nat.reduceEqDiff, Nat.reduceAdd]
      refine is2_callK (r := q) hs' hq.rs wForall rfl ?_
      intro q2 hq2
      rw [hq2.ikV]
      rcases hor with he | ⟨he, hf⟩
      · rw [ikV_two he (y := wForall) (by decide)]
        simp only [go_sem, ↓reduceIte, Nat.reduceEqDiff, Nat.reduceAdd, mset]
        refine hK _ ?_; clear hK
        refine bwp_cond false (by simp [ev, fget]) (fun h => nomatch h) (fun _ => ?_)
        refine bwp_skip ?_
        refine rest _ 1 q2 (Leads.ent [(0, 0), (1, 1), (2, 2), (3, 3), (4, 4), (5, 5), (6, 6)] ⟨by simp [trS, entT, fget, AV.ren, renL, pget], by simp [trS, entM, pinv, mget, mset, renL, AV.ren, pget, renL_append, -List.map_map, rdC, testD0, hir, htr, rowsC], rfl, rfl⟩) hq2 ?_
        intro rows q' hr
        exact RQ.take_yes hq2 (by rw [hq2.ikV]; exact he) hr
      · rw [hf]
        simp only [go_sem, ↓reduceIte, Nat.reduceEqDiff, Nat.reduceAdd, mset]
        refine hK _ ?_; clear hK
        refine bwp_cond true (by simp [ev, fget]) (fun _ => ?_) (fun h => nomatch h)
        refine bwp_region rfl ?_
        simp only [go_sem, ↓reduceIte, Nat.reduceEqDiff, Nat.reduceAdd, Nat.reduceLeDiff, Nat.reduceMul, Int.reduceEq, mset]
        refine rest _ 2 q2 (Leads.ent [(0, 0), (1, 1), (2, 2), (3, 3), (4, 4), (5, 5), (6, 6)] ⟨by simp [trS, entT, fget, AV.ren, renL, pget], by simp [trS, entM, pinv, mget, mset, renL, AV.ren, pget, renL_append, -List.map_map, rdC, testD0, hir, htr, rowsC], rfl, rfl⟩) hq2 ?_
        intro rows q' hr
        exact RQ.take_no hq2 (by rw [hq2.ikV]; exact he) (RQ.take_yes hq2 (by rw [hq2.ikV]; exact hf) hr)
    refine bwp_region rfl ?_
    simp only [go_sem, ↓reduceIte, Nat.reduceEqDiff, Nat.reduceAdd]
    refine is2_callK hs' hr6 wExists rfl ?_
    intro q7 h7
    rw [h7.ikV]
    cases he : ikV s σ6 wExists with
    | true =>
      simp only [go_sem, ↓reduceIte, Nat.reduceEqDiff, Nat.reduceAdd, mset]
      refine body _ q7 rfl (Leads.ent [(0, 0), (1, 1), (2, 2), (3, 3), (4, 4), (5, 5), (6, 6)] ⟨by simp [trS, entT, fget, AV.ren, renL, pget], by simp [trS, entM, pinv, mget, mset, renL, AV.ren, pget, renL_append, -List.map_map, rdC, testD0, hir, htr, rowsC], rfl, rfl⟩) h7 (.inl he)
    | false =>
      simp only [go_sem, ↓reduceIte, Nat.reduceEqDiff, Nat.reduceAdd, mset]
      refine is2_callK (r := q7) hs' h7.rs wForall rfl ?_
      intro q8 h8
      rw [h8.ikV]
      cases hf : ikV s σ6 wForall with
      | true =>
        simp only [go_sem, ↓reduceIte, Nat.reduceEqDiff, Nat.reduceAdd, mset]
        refine body _ q8 rfl (Leads.ent [(0, 0), (1, 1), (2, 2), (3, 3), (4, 4), (5, 5), (6, 6)] ⟨by simp [trS, entT, fget, AV.ren, renL, pget], by simp [trS, entM, pinv, mget, mset, renL, AV.ren, pget, renL_append, -List.map_map, rdC, testD0, hir, htr, rowsC], rfl, rfl⟩) h8 (.inr ⟨he, hf⟩)
      | false =>
        simp only [go_sem, ↓reduceIte, Nat.reduceEqDiff, Nat.reduceAdd, mset]
        refine hK3 _ ?_; clear hK3
        refine bwp_cond false (by simp [ev, fget]) (fun h => nomatch h) (fun _ => ?_)
        refine bwp_skip ?_
        refine fin2 _ (0, []) q8 (Leads.ent [(0, 0), (1, 1), (2, 2), (3, 3), (4, 4), (5, 5), (6, 6)] ⟨by simp [trS, entT, fget, AV.ren, renL, pget], by simp [trS, entM, pinv, mget, mset, renL, AV.ren, pget, renL_append, -List.map_map, rdC, testD0, hir, htr, rowsC], rfl, rfl⟩) ?_
        exact RQ.take_no h8 (by rw [h8.ikV]; exact he) (RQ.take_no h8 (by rw [h8.ikV]; exact hf) (RQ.ret h8.rs))
  refine bwp_seq fun K hK => bwp_region rfl ?_
  simp only [go_sem, ↓reduceIte, Nat.reduceEqDiff, Nat.reduceAdd]
  refine is2_callK hs' hps4 wInit rfl ?_
  intro q5 h5
  simp only [go_sem, ↓reduceIte, Nat.reduceEqDiff, Nat.reduceAdd, mset]
  refine hK _ ?_; clear hK
  cases hb : ikB q5 wInit with
  | false =>
    refine bwp_cond false (by simp [ev, fget]) (fun h => nomatch h) (fun _ => ?_)
    refine bwp_skip ?_
    refine fin1 _ [] q5 (Leads.ent [(0, 0), (1, 1), (2, 2), (3, 3), (4, 4), (5, 5), (6, 6)] ⟨by simp [trS, entT, fget, AV.ren, renL, pget], by simp [trS, entM, pinv, mget, mset, renL, AV.ren, pget, renL_append, -List.map_map, rdC, testD0, thrC, rowsC], rfl, rfl⟩) ?_
    exact RQ.take_no h5 hb (RQ.ret h5.rs)
  | true =>
    have hg := h5.goT (ikB_code hb)
    refine bwp_cond true (by simp [ev, fget]) (fun _ => ?_) (fun h => nomatch h)
    refine bwp_seq fun K hK => bwp_region rfl ?_
    simp only [go_sem, ↓reduceIte, Nat.reduceEqDiff, Nat.reduceAdd]
    refine go_callK s q5 rfl ?_
    simp only [go_sem, ↓reduceIte, Nat.reduceEqDiff, Nat.reduceAdd, mset]
    refine hK _ ?_; clear hK
    refine bwp_seq fun K hK => bwp_region rfl ?_
    simp only [go_sem, ↓reduceIte, Nat.reduceEqDiff, Nat.reduceAdd]
    refine eat2_callK hs' hg [123] rfl ?_
    intro q6 h6
    simp only [go_sem, ↓reduceIte, Nat.reduceEqDiff, Nat.reduceAdd, mset]
    refine hK _ ?_; clear hK
    refine bwp_seq fun K2 hK2 => ?_
    refine bwp_block ?_
    refine bwp_leads (S' := trS s nm [] [] 0 [] q6) (Leads.ent [(0, 0), (1, 1), (2, 2), (3, 3), (4, 4), (5, 5), (6, 6)] ⟨by simp [trS, entT, fget, AV.ren, renL, pget], by simp [trS, entM, pinv, mget, mset, renL, AV.ren, pget, renL_append, -List.map_map, rdC, testD0, thrC, rowsC], rfl, rfl⟩) ?_
    refine tr0_loop hs4 h6.rs ?_
    intro I q7 hN
    obtain ⟨hl4, σ1, hr7, hto⟩ := hN
    have hir : ∀ π, renL π ((I.flatMap Init.cells).map AV.d) = (I.flatMap Init.cells).map .d := fun π => renL_d _ _
    unfold trS
    simp only [go_sem, ↓reduceIte, Nat.reduceEqDiff, Nat.reduceAdd]
    refine hK2 _ ?_; clear hK2
    refine bwp_region rfl ?_
    simp only [go_sem, ↓reduceIte, Nat.reduceEqDiff, Nat.reduceAdd]
    refine eat2_callK hs' hr7 [125] rfl ?_
    intro q8 h8
    have h9 := hto _ h8
    simp only [go_sem, ↓reduceIte, Nat.reduceEqDiff, Nat.reduceAdd, mset]
    refine fin1 _ I q8 (Leads.ent [(0, 0), (1, 1), (2, 2), (3, 3), (4, 4), (5, 5), (6, 6)] ⟨by simp [trS, entT, fget, AV.ren, renL, pget], by simp [trS, entM, pinv, mget, mset, renL, AV.ren, pget, renL_append, -List.map_map, rdC, testD0, thrC, rowsC, hir], rfl, rfl⟩) ?_
    exact RQ.take_yes h5 hb (RQ.bind h6 h9)

end Go.Proofs.YtpfbljkfbjjlkaaDoor

/- Two lists held against each other, plain. -/
namespace Go.Proofs.YtpfbljkfbjjlkaaDoor
open Go Go.Jq
set_option maxRecDepth 100000
set_option linter.unusedSimpArgs false

def eqL {α : Type} (e : α → α → Bool) : List α → List α → Bool
  | [], [] => true
  | a :: l, b :: l' => e a b && eqL e l l'
  | _, _ => false

theorem eqL_len {α : Type} (e : α → α → Bool) : ∀ (l l' : List α), l.length ≠ l'.length → eqL e l l' = false
  | [], [], h => absurd rfl h
  | [], _ :: _, _ => rfl
  | _ :: _, [], _ => rfl
  | a :: l, b :: l', h => by
    simp only [eqL, eqL_len e l l' (by simpa using h), Bool.and_false]

theorem eqL_at {α : Type} (e : α → α → Bool) : ∀ (l l' : List α) (i : Nat) (h : i < l.length) (h' : i < l'.length), e l[i] l'[i] = false → eqL e l l' = false
  | [], _, i, h, _, _ => by simp at h
  | _ :: _, [], i, _, h', _ => by simp at h'
  | a :: l, b :: l', 0, _, _, he => by simp only [List.getElem_cons_zero] at he; simp [eqL, he]
  | a :: l, b :: l', i + 1, h, h', he => by
    simp only [List.getElem_cons_succ] at he
    simp [eqL, eqL_at e l l' i (by simpa using h) (by simpa using h') he]

theorem eqL_all {α : Type} (e : α → α → Bool) : ∀ (l l' : List α), l.length = l'.length → (∀ i (h : i < l.length) (h' : i < l'.length), e l[i] l'[i] = true) → eqL e l l' = true
  | [], [], _, _ => rfl
  | [], _ :: _, h, _ => by simp at h
  | _ :: _, [], h, _ => by simp at h
  | a :: l, b :: l', h, he => by
    have h0 := he 0 (by simp) (by simp)
    simp only [List.getElem_cons_zero] at h0
    simp only [eqL, h0, Bool.true_and]
    exact eqL_all e l l' (by simpa using h) fun i hi hi' => by
      have := he (i + 1) (by simpa using hi) (by simpa using hi')
      simpa using this

theorem eqL_iff {α : Type} {e : α → α → Bool} (h : ∀ a b, e a b = true ↔ a = b) : ∀ (l l' : List α), eqL e l l' = true ↔ l = l'
  | [], [] => by simp [eqL]
  | [], _ :: _ => by simp [eqL]
  | _ :: _, [] => by simp [eqL]
  | a :: l, b :: l' => by simp [eqL, h, eqL_iff h l l']

def eqInit (x y : Init) : Bool := decide (x.loc = y.loc) && (decide (x.value = y.value) && true)
def eqAtom (x y : Atom) : Bool := decide (x.thread = y.thread) && (decide (x.reg = y.reg) && (decide (x.loc = y.loc) && (decide (x.value = y.value) && true)))

theorem eqInit_iff (x y : Init) : eqInit x y = true ↔ x = y := by
  cases x; cases y
  simp [eqInit]
theorem eqAtom_iff (x y : Atom) : eqAtom x y = true ↔ x = y := by
  cases x; cases y
  simp [eqAtom]
theorem eqIns_iff (x y : Ins) : eqIns x y = true ↔ x = y := by
  cases x with | mk k r l a o b n => cases y with | mk k' r' l' a' o' b' n' => cases a; cases b; cases a'; cases b'; simp [eqIns, and_assoc]

end Go.Proofs.YtpfbljkfbjjlkaaDoor

/- The document's Same: its loops. -/
namespace Go.Proofs.YtpfbljkfbjjlkaaDoor
open Go Go.Jq
set_option maxRecDepth 100000
set_option linter.unusedSimpArgs false

/-- The state in Same: both tests' cells. -/
def rsS (c1 c2 : List DV) (ex : Fr) : St := ⟨ex ++ [(2, .ptr 0 0), (3, .ptr 1 0)], [(0, c1.map .d), (1, c2.map .d)], 2⟩

set_option maxHeartbeats 4000000 in
theorem rs_inAtom {kd kd' : Int} {rows rows' : List (List Atom)} {T T' : DV} (hT : IsSl2 Atom.cells rows T) (hT' : IsSl2 Atom.cells rows' T') {i : Nat} (hi : i < rows.length) (hi' : i < rows'.length) (hln : rows[i].length = rows'[i].length) {Q : Exit → St → Prop}
    (hbad : eqL eqAtom rows[i] rows'[i] = false → ∀ S, fget S.t 4 = .d (.bool false) → Q .ret S) (hgood : eqL eqAtom rows[i] rows'[i] = true → Q (.exit 2) (rsS [.int .i64 kd, T] [.int .i64 kd', T'] [(5, .d (.int .i64 i))])) :
    BWP Tryd.prog (mbound []) 68 (.loop ac28L0) (rsS [.int .i64 kd, T] [.int .i64 kd', T'] [(6, .d (.int .i64 (0 : Nat))), (5, .d (.int .i64 i))]) Q := by
  obtain ⟨ts, d, rest0, hTe, hd1, hjc, hD⟩ := hT.at i hi
  obtain ⟨ts', d', rest0', hTe', hd1', hjc', hD'⟩ := hT'.at i hi'
  have hiT : (i : Int) < rows.length := by omega
  have hiT' : (i : Int) < rows'.length := by omega
  generalize rows[i] = l at *
  generalize rows'[i] = l' at *
  have hb := hD.1
  refine bwp_countI (fun k => rsS [.int .i64 kd, T] [.int .i64 kd', T'] [(6, .d (.int .i64 (k : Nat))), (5, .d (.int .i64 i))]) (fun k => ∀ j (h : j < l.length) (h' : j < l'.length), j < k → eqAtom l[j] l'[j] = true) l.length (fun j _ _ h => absurd h (Nat.not_lt_zero _)) ?_
  intro k hk hp
  unfold ac28L0 rsS
  simp only [List.cons_append, List.nil_append, List.map_cons, List.map_nil]
  refine bwp_seq fun K1 hK1 => ?_
  by_cases hlt : k < l.length
  · have hlt' : (k : Int) < l.length := by omega
    have hlt2 : (k : Int) < l'.length := by omega
    obtain ⟨cs, rest, hDe, hdrop, hcs⟩ := hD.at atom_len (by omega) k hlt
    obtain ⟨cs', rest', hDe', hdrop', hcs'⟩ := hD'.at atom_len (by omega) k (by omega)
    have hw : IntKind.i64.wrap ((k : Int) + 1) = ((k + 1 : Nat) : Int) := by rw [wrap_i64 (by omega) (by omega)]; rfl
    have hno := eqL_at eqAtom l l' k hlt (by omega)
    have hnext : eqAtom l[k] (l'[k]'(by omega)) = true → ∀ j (h : j < l.length) (h' : j < l'.length), j < k + 1 → eqAtom l[j] l'[j] = true := fun he j h h' hj => by
      rcases Nat.lt_succ_iff_lt_or_eq.1 hj with h1 | h1
      · exact hp j h h' h1
      · subst h1; exact he
    generalize l[k] = x at hdrop hno hnext
    generalize l'[k]'(by omega) = y at hdrop' hno hnext
    refine bwp_seq fun K hK => bwp_region rfl ?_
    simp -implicitDefEqProofs only [go_sem, ↓reduceIte, Nat.reduceEqDiff, Nat.reduceAdd, Nat.reduceLeDiff, Nat.reduceMul, Nat.reduceSub, Int.reduceLE, Int.reduceLT, Int.reduceEq, Int.reduceToNat, Int.reducePow, Int.reduceNeg, hTe, hiT, Int.natCast_nonneg, Int.toNat_natCast, hd1, hjc, hD.len, hlt']
    refine hK _ ?_; clear hK
    refine bwp_cond true (by simp [ev, fget, hlt']) (fun _ => ?_) (fun h => nomatch h)
    refine bwp_skip ?_
    refine hK1 _ ?_; clear hK1
    refine bwp_seq fun K1 hK1 => ?_
    refine bwp_block ?_
    refine bwp_seq fun K hK => bwp_region_draw rfl rfl ?_
    simp -implicitDefEqProofs only [go_sem, ↓reduceIte, Nat.reduceEqDiff, Nat.reduceAdd, Nat.reduceLeDiff, Nat.reduceMul, Nat.reduceSub, Int.reduceLE, Int.reduceLT, Int.reduceEq, Int.reduceToNat, Int.reducePow, Int.reduceNeg, hTe, hTe', hiT, hiT', Int.natCast_nonneg, Int.toNat_natCast, hd1, hjc, hd1', hjc', hDe, hDe', hlt', hlt2, hcs, hcs', hdrop, hdrop', Atom.cells]
    refine ⟨rfl, hK _ ?_⟩; clear hK
    cases he : eqAtom x y with
    | false =>
      have he' : ¬ (x.thread = y.thread ∧ x.reg = y.reg ∧ x.loc = y.loc ∧ x.value = y.value) := fun h => by
        have : eqAtom x y = true := by simp [eqAtom, h]
        rw [this] at he
        cases he
      refine bwp_cond true (by simp [ev, fget]; omega) (fun _ => ?_) (fun h => nomatch h)
      refine bwp_seq fun K hK => bwp_region rfl ?_
      simp -implicitDefEqProofs only [go_sem, ↓reduceIte, Nat.reduceEqDiff, Nat.reduceAdd, Nat.reduceLeDiff, Nat.reduceMul, Nat.reduceSub, Int.reduceLE, Int.reduceLT, Int.reduceEq, Int.reduceToNat, Int.reducePow, Int.reduceNeg]
      refine hK _ ?_; clear hK
      refine bwp_ret ?_
      simp -implicitDefEqProofs only [go_sem, ↓reduceIte, Nat.reduceEqDiff, Nat.reduceAdd, Nat.reduceLeDiff, Nat.reduceMul, Nat.reduceSub, Int.reduceLE, Int.reduceLT, Int.reduceEq, Int.reduceToNat, Int.reducePow, Int.reduceNeg]
      exact hbad (hno he) _ rfl
    | true =>
      have he' : x.thread = y.thread ∧ x.reg = y.reg ∧ x.loc = y.loc ∧ x.value = y.value := by simpa [eqAtom, and_assoc] using he
      refine bwp_cond false (by simp [ev, fget]; omega) (fun h => nomatch h) (fun _ => ?_)
      refine bwp_skip ?_
      simp -implicitDefEqProofs only [go_sem, ↓reduceIte, Nat.reduceEqDiff, Nat.reduceAdd, Nat.reduceLeDiff, Nat.reduceMul, Nat.reduceSub, Int.reduceLE, Int.reduceLT, Int.reduceEq, Int.reduceToNat, Int.reducePow, Int.reduceNeg]
      refine hK1 _ ?_; clear hK1
      refine bwp_region rfl ?_
      simp -implicitDefEqProofs only [go_sem, ↓reduceIte, Nat.reduceEqDiff, Nat.reduceAdd, Nat.reduceLeDiff, Nat.reduceMul, Nat.reduceSub, Int.reduceLE, Int.reduceLT, Int.reduceEq, Int.reduceToNat, Int.reducePow, Int.reduceNeg, hw]
      refine ⟨hlt, hnext he, Leads.ent [(0, 0), (1, 1)] ⟨by simp [entT, fget, AV.ren, renL, pget], by simp [entM, pinv, mget, renL, AV.ren, hTe, hTe', pget], rfl, rfl⟩⟩
  · have hlt' : ¬ (k : Int) < l.length := by omega
    have hin : k = l.length := by omega
    refine bwp_seq fun K hK => bwp_region rfl ?_
    simp -implicitDefEqProofs only [go_sem, ↓reduceIte, Nat.reduceEqDiff, Nat.reduceAdd, Nat.reduceLeDiff, Nat.reduceMul, Nat.reduceSub, Int.reduceLE, Int.reduceLT, Int.reduceEq, Int.reduceToNat, Int.reducePow, Int.reduceNeg, hTe, hiT, Int.natCast_nonneg, Int.toNat_natCast, hd1, hjc, hD.len, hlt']
    refine hK _ ?_; clear hK
    refine bwp_cond false (by simp [ev, fget, hlt']) (fun h => nomatch h) (fun _ => ?_)
    refine bwp_leads (S' := rsS [.int .i64 kd, T] [.int .i64 kd', T'] [(5, .d (.int .i64 i))]) (Leads.ent [(0, 0), (1, 1)] ⟨by simp [entT, fget, AV.ren, renL, pget, rsS, hTe, hTe'], by simp [entM, pinv, mget, mset, renL, AV.ren, pget, renL_append, -List.map_map, rsS, hTe, hTe'], rfl, rfl⟩) ?_
    exact bwp_exit (hgood (eqL_all eqAtom l l' hln fun j h h' => hp j h h' (by omega)))

set_option maxHeartbeats 4000000 in
theorem rs_outAtom {kd kd' : Int} {rows rows' : List (List Atom)} {T T' : DV} (hT : IsSl2 Atom.cells rows T) (hT' : IsSl2 Atom.cells rows' T') (hlr : rows.length = rows'.length) {Q : Exit → St → Prop}
    (hbad : eqL (eqL eqAtom) rows rows' = false → ∀ S, fget S.t 4 = .d (.bool false) → Q .ret S) (hgood : eqL (eqL eqAtom) rows rows' = true → Q (.exit 0) (rsS [.int .i64 kd, T] [.int .i64 kd', T'] [])) :
    BWP Tryd.prog (mbound []) 68 (.loop ac28L1) (rsS [.int .i64 kd, T] [.int .i64 kd', T'] [(5, .d (.int .i64 (0 : Nat)))]) Q := by
  have hb := hT.big
  refine bwp_countI (fun k => rsS [.int .i64 kd, T] [.int .i64 kd', T'] [(5, .d (.int .i64 (k : Nat)))]) (fun k => ∀ j (h : j < rows.length) (h' : j < rows'.length), j < k → eqL eqAtom rows[j] rows'[j] = true) rows.length (fun j _ _ h => absurd h (Nat.not_lt_zero _)) ?_
  intro i hi hp
  unfold ac28L1 rsS
  simp only [List.cons_append, List.nil_append, List.map_cons, List.map_nil]
  refine bwp_seq fun K1 hK1 => ?_
  by_cases hlt : i < rows.length
  · have hlt' : (i : Int) < rows.length := by omega
    have hlt2 : (i : Int) < rows'.length := by omega
    have hi2 : i < rows'.length := by omega
    obtain ⟨ts, d, rest0, hTe, hd1, hjc, hD⟩ := hT.at i hlt
    obtain ⟨ts', d', rest0', hTe', hd1', hjc', hD'⟩ := hT'.at i hi2
    have hw : IntKind.i64.wrap ((i : Int) + 1) = ((i + 1 : Nat) : Int) := by rw [wrap_i64 (by omega) (by omega)]; rfl
    have hno := eqL_at (eqL eqAtom) rows rows' i hlt hi2
    have hnext : eqL eqAtom rows[i] rows'[i] = true → ∀ j (h : j < rows.length) (h' : j < rows'.length), j < i + 1 → eqL eqAtom rows[j] rows'[j] = true := fun he j h h' hj => by
      rcases Nat.lt_succ_iff_lt_or_eq.1 hj with h1 | h1
      · exact hp j h h' h1
      · subst h1; exact he
    refine bwp_seq fun K hK => bwp_region rfl ?_
    simp -implicitDefEqProofs only [go_sem, ↓reduceIte, Nat.reduceEqDiff, Nat.reduceAdd, Nat.reduceLeDiff, Nat.reduceMul, Nat.reduceSub, Int.reduceLE, Int.reduceLT, Int.reduceEq, Int.reduceToNat, Int.reducePow, Int.reduceNeg, hT.len, hlt']
    refine hK _ ?_; clear hK
    refine bwp_cond true (by simp [ev, fget, hlt']) (fun _ => ?_) (fun h => nomatch h)
    refine bwp_skip ?_
    refine hK1 _ ?_; clear hK1
    refine bwp_seq fun K1 hK1 => ?_
    refine bwp_block ?_
    refine bwp_seq fun K2 hK2 => ?_
    refine bwp_seq fun K hK => bwp_region_draw rfl rfl ?_
    simp -implicitDefEqProofs only [go_sem, ↓reduceIte, Nat.reduceEqDiff, Nat.reduceAdd, Nat.reduceLeDiff, Nat.reduceMul, Nat.reduceSub, Int.reduceLE, Int.reduceLT, Int.reduceEq, Int.reduceToNat, Int.reducePow, Int.reduceNeg, hTe, hTe', hlt', hlt2, Int.natCast_nonneg, Int.toNat_natCast, hd1, hjc, hd1', hjc', hD.len, hD'.len]
    refine ⟨rfl, hK _ ?_⟩; clear hK
    by_cases hln : rows[i].length = rows'[i].length
    · have hln' : ((rows[i].length : Nat) : Int) = (rows'[i].length : Nat) := by omega
      refine bwp_cond false (by simp [ev, fget, hln']) (fun h => nomatch h) (fun _ => ?_)
      refine bwp_skip ?_
      refine hK2 _ ?_; clear hK2
      refine bwp_seq fun K hK => bwp_region rfl ?_
      simp -implicitDefEqProofs only [go_sem, ↓reduceIte, Nat.reduceEqDiff, Nat.reduceAdd, Nat.reduceLeDiff, Nat.reduceMul, Nat.reduceSub, Int.reduceLE, Int.reduceLT, Int.reduceEq, Int.reduceToNat, Int.reducePow, Int.reduceNeg]
      refine hK _ ?_; clear hK
      refine bwp_block ?_
      refine bwp_leads (S' := rsS [.int .i64 kd, T] [.int .i64 kd', T'] [(6, .d (.int .i64 (0 : Nat))), (5, .d (.int .i64 i))]) (Leads.ent [(0, 0), (1, 1)] ⟨by simp [entT, fget, AV.ren, renL, pget, rsS, hTe, hTe'], by simp [entM, pinv, mget, mset, renL, AV.ren, pget, renL_append, -List.map_map, rsS, hTe, hTe'], rfl, rfl⟩) ?_
      refine rs_inAtom hT hT' hlt hi2 hln ?_ ?_
      · intro he S hS
        simp -implicitDefEqProofs only [go_sem, ↓reduceIte, Nat.reduceEqDiff, Nat.reduceAdd, Nat.reduceLeDiff, Nat.reduceMul, Nat.reduceSub, Int.reduceLE, Int.reduceLT, Int.reduceEq, Int.reduceToNat, Int.reducePow, Int.reduceNeg]
        exact hbad (hno he) S hS
      · intro he
        unfold rsS
        simp only [List.cons_append, List.nil_append, List.map_cons, List.map_nil]
        simp -implicitDefEqProofs only [go_sem, ↓reduceIte, Nat.reduceEqDiff, Nat.reduceAdd, Nat.reduceLeDiff, Nat.reduceMul, Nat.reduceSub, Int.reduceLE, Int.reduceLT, Int.reduceEq, Int.reduceToNat, Int.reducePow, Int.reduceNeg]
        refine hK1 _ ?_; clear hK1
        refine bwp_region rfl ?_
        simp -implicitDefEqProofs only [go_sem, ↓reduceIte, Nat.reduceEqDiff, Nat.reduceAdd, Nat.reduceLeDiff, Nat.reduceMul, Nat.reduceSub, Int.reduceLE, Int.reduceLT, Int.reduceEq, Int.reduceToNat, Int.reducePow, Int.reduceNeg, hw]
        refine ⟨hlt, hnext he, Leads.ent [(0, 0), (1, 1)] ⟨by simp [entT, fget, AV.ren, renL, pget], by simp [entM, pinv, mget, renL, AV.ren, pget], rfl, rfl⟩⟩
    · have hln' : ¬ ((rows[i].length : Nat) : Int) = (rows'[i].length : Nat) := by omega
      refine bwp_cond true (by simp [ev, fget, hln']) (fun _ => ?_) (fun h => nomatch h)
      refine bwp_seq fun K hK => bwp_region rfl ?_
      simp -implicitDefEqProofs only [go_sem, ↓reduceIte, Nat.reduceEqDiff, Nat.reduceAdd, Nat.reduceLeDiff, Nat.reduceMul, Nat.reduceSub, Int.reduceLE, Int.reduceLT, Int.reduceEq, Int.reduceToNat, Int.reducePow, Int.reduceNeg]
      refine hK _ ?_; clear hK
      refine bwp_ret ?_
      simp -implicitDefEqProofs only [go_sem, ↓reduceIte, Nat.reduceEqDiff, Nat.reduceAdd, Nat.reduceLeDiff, Nat.reduceMul, Nat.reduceSub, Int.reduceLE, Int.reduceLT, Int.reduceEq, Int.reduceToNat, Int.reducePow, Int.reduceNeg]
      exact hbad (hno (eqL_len eqAtom _ _ hln)) _ rfl
  · have hlt' : ¬ (i : Int) < rows.length := by omega
    refine bwp_seq fun K hK => bwp_region rfl ?_
    simp -implicitDefEqProofs only [go_sem, ↓reduceIte, Nat.reduceEqDiff, Nat.reduceAdd, Nat.reduceLeDiff, Nat.reduceMul, Nat.reduceSub, Int.reduceLE, Int.reduceLT, Int.reduceEq, Int.reduceToNat, Int.reducePow, Int.reduceNeg, hT.len, hlt']
    refine hK _ ?_; clear hK
    refine bwp_cond false (by simp [ev, fget, hlt']) (fun h => nomatch h) (fun _ => ?_)
    refine bwp_leads (S' := rsS [.int .i64 kd, T] [.int .i64 kd', T'] []) (Leads.ent [(0, 0), (1, 1)] ⟨by simp [entT, fget, AV.ren, renL, pget, rsS], by simp [entM, pinv, mget, mset, renL, AV.ren, pget, renL_append, -List.map_map, rsS], rfl, rfl⟩) ?_
    exact bwp_exit (hgood (eqL_all (eqL eqAtom) rows rows' hlr fun j h h' => hp j h h' (by omega)))

set_option maxHeartbeats 4000000 in
theorem rs_inIns {nm nm' : List UInt8} {kd kd' : Int} {I I' A A' : DV} {rows rows' : List (List Ins)} {T T' : DV} (hT : IsSl2 Ins.cells rows T) (hT' : IsSl2 Ins.cells rows' T') {i : Nat} (hi : i < rows.length) (hi' : i < rows'.length) (hln : rows[i].length = rows'[i].length) {Q : Exit → St → Prop}
    (hbad : eqL eqIns rows[i] rows'[i] = false → ∀ S, fget S.t 4 = .d (.bool false) → Q .ret S) (hgood : eqL eqIns rows[i] rows'[i] = true → Q (.exit 4) (rsS [.str nm, I, T, .int .i64 kd, A] [.str nm', I', T', .int .i64 kd', A'] [(6, .d (.int .i64 i))])) :
    BWP Tryd.prog (mbound []) 104 (.loop ac27L1) (rsS [.str nm, I, T, .int .i64 kd, A] [.str nm', I', T', .int .i64 kd', A'] [(7, .d (.int .i64 (0 : Nat))), (6, .d (.int .i64 i))]) Q := by
  obtain ⟨ts, d, rest0, hTe, hd1, hjc, hD⟩ := hT.at i hi
  obtain ⟨ts', d', rest0', hTe', hd1', hjc', hD'⟩ := hT'.at i hi'
  have hiT : (i : Int) < rows.length := by omega
  have hiT' : (i : Int) < rows'.length := by omega
  generalize rows[i] = l at *
  generalize rows'[i] = l' at *
  have hb := hD.1
  refine bwp_countI (fun k => rsS [.str nm, I, T, .int .i64 kd, A] [.str nm', I', T', .int .i64 kd', A'] [(7, .d (.int .i64 (k : Nat))), (6, .d (.int .i64 i))]) (fun k => ∀ j (h : j < l.length) (h' : j < l'.length), j < k → eqIns l[j] l'[j] = true) l.length (fun j _ _ h => absurd h (Nat.not_lt_zero _)) ?_
  intro k hk hp
  unfold ac27L1 rsS
  simp only [List.cons_append, List.nil_append, List.map_cons, List.map_nil]
  refine bwp_seq fun K1 hK1 => ?_
  by_cases hlt : k < l.length
  · have hlt' : (k : Int) < l.length := by omega
    have hlt2 : (k : Int) < l'.length := by omega
    obtain ⟨cs, rest, hDe, hdrop, hcs⟩ := hD.at ins_len (by omega) k hlt
    obtain ⟨cs', rest', hDe', hdrop', hcs'⟩ := hD'.at ins_len (by omega) k (by omega)
    have hw : IntKind.i64.wrap ((k : Int) + 1) = ((k + 1 : Nat) : Int) := by rw [wrap_i64 (by omega) (by omega)]; rfl
    have hno := eqL_at eqIns l l' k hlt (by omega)
    have hnext : eqIns l[k] (l'[k]'(by omega)) = true → ∀ j (h : j < l.length) (h' : j < l'.length), j < k + 1 → eqIns l[j] l'[j] = true := fun he j h h' hj => by
      rcases Nat.lt_succ_iff_lt_or_eq.1 hj with h1 | h1
      · exact hp j h h' h1
      · subst h1; exact he
    generalize l[k] = x at hdrop hno hnext
    generalize l'[k]'(by omega) = y at hdrop' hno hnext
    refine bwp_seq fun K hK => bwp_region rfl ?_
    simp -implicitDefEqProofs only [go_sem, ↓reduceIte, Nat.reduceEqDiff, Nat.reduceAdd, Nat.reduceLeDiff, Nat.reduceMul, Nat.reduceSub, Int.reduceLE, Int.reduceLT, Int.reduceEq, Int.reduceToNat, Int.reducePow, Int.reduceNeg, hTe, hiT, Int.natCast_nonneg, Int.toNat_natCast, hd1, hjc, hD.len, hlt']
    refine hK _ ?_; clear hK
    refine bwp_cond true (by simp [ev, fget, hlt']) (fun _ => ?_) (fun h => nomatch h)
    refine bwp_skip ?_
    refine hK1 _ ?_; clear hK1
    refine bwp_seq fun K1 hK1 => ?_
    refine bwp_block ?_
    refine bwp_seq fun K hK => bwp_region_draw rfl rfl ?_
    simp -implicitDefEqProofs only [go_sem, ↓reduceIte, Nat.reduceEqDiff, Nat.reduceAdd, Nat.reduceLeDiff, Nat.reduceMul, Nat.reduceSub, Int.reduceLE, Int.reduceLT, Int.reduceEq, Int.reduceToNat, Int.reducePow, Int.reduceNeg, hTe, hTe', hiT, hiT', Int.natCast_nonneg, Int.toNat_natCast, hd1, hjc, hd1', hjc', hDe, hDe', hlt', hlt2, hcs, hcs', hdrop, hdrop', Ins.cells]
    refine ⟨rfl, hK _ ?_⟩; clear hK
    cases he : eqIns x y with
    | false =>
      have he' : ¬ (x.kind = y.kind ∧ x.reg = y.reg ∧ x.loc = y.loc ∧ x.a.reg = y.a.reg ∧ x.a.value = y.a.value ∧ x.op = y.op ∧ x.b.reg = y.b.reg ∧ x.b.value = y.b.value ∧ x.n = y.n) := fun h => by
        have : eqIns x y = true := by simp [eqIns, h]
        rw [this] at he
        cases he
      refine bwp_cond true (by simp [ev, fget]; omega) (fun _ => ?_) (fun h => nomatch h)
      refine bwp_seq fun K hK => bwp_region rfl ?_
      simp -implicitDefEqProofs only [go_sem, ↓reduceIte, Nat.reduceEqDiff, Nat.reduceAdd, Nat.reduceLeDiff, Nat.reduceMul, Nat.reduceSub, Int.reduceLE, Int.reduceLT, Int.reduceEq, Int.reduceToNat, Int.reducePow, Int.reduceNeg]
      refine hK _ ?_; clear hK
      refine bwp_ret ?_
      simp -implicitDefEqProofs only [go_sem, ↓reduceIte, Nat.reduceEqDiff, Nat.reduceAdd, Nat.reduceLeDiff, Nat.reduceMul, Nat.reduceSub, Int.reduceLE, Int.reduceLT, Int.reduceEq, Int.reduceToNat, Int.reducePow, Int.reduceNeg]
      exact hbad (hno he) _ rfl
    | true =>
      have he' : x.kind = y.kind ∧ x.reg = y.reg ∧ x.loc = y.loc ∧ x.a.reg = y.a.reg ∧ x.a.value = y.a.value ∧ x.op = y.op ∧ x.b.reg = y.b.reg ∧ x.b.value = y.b.value ∧ x.n = y.n := by simpa [eqIns, and_assoc] using he
      refine bwp_cond false (by simp [ev, fget]; omega) (fun h => nomatch h) (fun _ => ?_)
      refine bwp_skip ?_
      simp -implicitDefEqProofs only [go_sem, ↓reduceIte, Nat.reduceEqDiff, Nat.reduceAdd, Nat.reduceLeDiff, Nat.reduceMul, Nat.reduceSub, Int.reduceLE, Int.reduceLT, Int.reduceEq, Int.reduceToNat, Int.reducePow, Int.reduceNeg]
      refine hK1 _ ?_; clear hK1
      refine bwp_region rfl ?_
      simp -implicitDefEqProofs only [go_sem, ↓reduceIte, Nat.reduceEqDiff, Nat.reduceAdd, Nat.reduceLeDiff, Nat.reduceMul, Nat.reduceSub, Int.reduceLE, Int.reduceLT, Int.reduceEq, Int.reduceToNat, Int.reducePow, Int.reduceNeg, hw]
      refine ⟨hlt, hnext he, Leads.ent [(0, 0), (1, 1)] ⟨by simp [entT, fget, AV.ren, renL, pget], by simp [entM, pinv, mget, renL, AV.ren, hTe, hTe', pget], rfl, rfl⟩⟩
  · have hlt' : ¬ (k : Int) < l.length := by omega
    have hin : k = l.length := by omega
    refine bwp_seq fun K hK => bwp_region rfl ?_
    simp -implicitDefEqProofs only [go_sem, ↓reduceIte, Nat.reduceEqDiff, Nat.reduceAdd, Nat.reduceLeDiff, Nat.reduceMul, Nat.reduceSub, Int.reduceLE, Int.reduceLT, Int.reduceEq, Int.reduceToNat, Int.reducePow, Int.reduceNeg, hTe, hiT, Int.natCast_nonneg, Int.toNat_natCast, hd1, hjc, hD.len, hlt']
    refine hK _ ?_; clear hK
    refine bwp_cond false (by simp [ev, fget, hlt']) (fun h => nomatch h) (fun _ => ?_)
    refine bwp_leads (S' := rsS [.str nm, I, T, .int .i64 kd, A] [.str nm', I', T', .int .i64 kd', A'] [(6, .d (.int .i64 i))]) (Leads.ent [(0, 0), (1, 1)] ⟨by simp [entT, fget, AV.ren, renL, pget, rsS, hTe, hTe'], by simp [entM, pinv, mget, mset, renL, AV.ren, pget, renL_append, -List.map_map, rsS, hTe, hTe'], rfl, rfl⟩) ?_
    exact bwp_exit (hgood (eqL_all eqIns l l' hln fun j h h' => hp j h h' (by omega)))

set_option maxHeartbeats 4000000 in
theorem rs_outIns {nm nm' : List UInt8} {kd kd' : Int} {I I' A A' : DV} {rows rows' : List (List Ins)} {T T' : DV} (hT : IsSl2 Ins.cells rows T) (hT' : IsSl2 Ins.cells rows' T') (hlr : rows.length = rows'.length) {Q : Exit → St → Prop}
    (hbad : eqL (eqL eqIns) rows rows' = false → ∀ S, fget S.t 4 = .d (.bool false) → Q .ret S) (hgood : eqL (eqL eqIns) rows rows' = true → Q (.exit 2) (rsS [.str nm, I, T, .int .i64 kd, A] [.str nm', I', T', .int .i64 kd', A'] [])) :
    BWP Tryd.prog (mbound []) 104 (.loop ac27L2) (rsS [.str nm, I, T, .int .i64 kd, A] [.str nm', I', T', .int .i64 kd', A'] [(6, .d (.int .i64 (0 : Nat)))]) Q := by
  have hb := hT.big
  refine bwp_countI (fun k => rsS [.str nm, I, T, .int .i64 kd, A] [.str nm', I', T', .int .i64 kd', A'] [(6, .d (.int .i64 (k : Nat)))]) (fun k => ∀ j (h : j < rows.length) (h' : j < rows'.length), j < k → eqL eqIns rows[j] rows'[j] = true) rows.length (fun j _ _ h => absurd h (Nat.not_lt_zero _)) ?_
  intro i hi hp
  unfold ac27L2 rsS
  simp only [List.cons_append, List.nil_append, List.map_cons, List.map_nil]
  refine bwp_seq fun K1 hK1 => ?_
  by_cases hlt : i < rows.length
  · have hlt' : (i : Int) < rows.length := by omega
    have hlt2 : (i : Int) < rows'.length := by omega
    have hi2 : i < rows'.length := by omega
    obtain ⟨ts, d, rest0, hTe, hd1, hjc, hD⟩ := hT.at i hlt
    obtain ⟨ts', d', rest0', hTe', hd1', hjc', hD'⟩ := hT'.at i hi2
    have hw : IntKind.i64.wrap ((i : Int) + 1) = ((i + 1 : Nat) : Int) := by rw [wrap_i64 (by omega) (by omega)]; rfl
    have hno := eqL_at (eqL eqIns) rows rows' i hlt hi2
    have hnext : eqL eqIns rows[i] rows'[i] = true → ∀ j (h : j < rows.length) (h' : j < rows'.length), j < i + 1 → eqL eqIns rows[j] rows'[j] = true := fun he j h h' hj => by
      rcases Nat.lt_succ_iff_lt_or_eq.1 hj with h1 | h1
      · exact hp j h h' h1
      · subst h1; exact he
    refine bwp_seq fun K hK => bwp_region rfl ?_
    simp -implicitDefEqProofs only [go_sem, ↓reduceIte, Nat.reduceEqDiff, Nat.reduceAdd, Nat.reduceLeDiff, Nat.reduceMul, Nat.reduceSub, Int.reduceLE, Int.reduceLT, Int.reduceEq, Int.reduceToNat, Int.reducePow, Int.reduceNeg, hT.len, hlt']
    refine hK _ ?_; clear hK
    refine bwp_cond true (by simp [ev, fget, hlt']) (fun _ => ?_) (fun h => nomatch h)
    refine bwp_skip ?_
    refine hK1 _ ?_; clear hK1
    refine bwp_seq fun K1 hK1 => ?_
    refine bwp_block ?_
    refine bwp_seq fun K2 hK2 => ?_
    refine bwp_seq fun K hK => bwp_region_draw rfl rfl ?_
    simp -implicitDefEqProofs only [go_sem, ↓reduceIte, Nat.reduceEqDiff, Nat.reduceAdd, Nat.reduceLeDiff, Nat.reduceMul, Nat.reduceSub, Int.reduceLE, Int.reduceLT, Int.reduceEq, Int.reduceToNat, Int.reducePow, Int.reduceNeg, hTe, hTe', hlt', hlt2, Int.natCast_nonneg, Int.toNat_natCast, hd1, hjc, hd1', hjc', hD.len, hD'.len]
    refine ⟨rfl, hK _ ?_⟩; clear hK
    by_cases hln : rows[i].length = rows'[i].length
    · have hln' : ((rows[i].length : Nat) : Int) = (rows'[i].length : Nat) := by omega
      refine bwp_cond false (by simp [ev, fget, hln']) (fun h => nomatch h) (fun _ => ?_)
      refine bwp_skip ?_
      refine hK2 _ ?_; clear hK2
      refine bwp_seq fun K hK => bwp_region rfl ?_
      simp -implicitDefEqProofs only [go_sem, ↓reduceIte, Nat.reduceEqDiff, Nat.reduceAdd, Nat.reduceLeDiff, Nat.reduceMul, Nat.reduceSub, Int.reduceLE, Int.reduceLT, Int.reduceEq, Int.reduceToNat, Int.reducePow, Int.reduceNeg]
      refine hK _ ?_; clear hK
      refine bwp_block ?_
      refine bwp_leads (S' := rsS [.str nm, I, T, .int .i64 kd, A] [.str nm', I', T', .int .i64 kd', A'] [(7, .d (.int .i64 (0 : Nat))), (6, .d (.int .i64 i))]) (Leads.ent [(0, 0), (1, 1)] ⟨by simp [entT, fget, AV.ren, renL, pget, rsS, hTe, hTe'], by simp [entM, pinv, mget, mset, renL, AV.ren, pget, renL_append, -List.map_map, rsS, hTe, hTe'], rfl, rfl⟩) ?_
      refine rs_inIns hT hT' hlt hi2 hln ?_ ?_
      · intro he S hS
        simp -implicitDefEqProofs only [go_sem, ↓reduceIte, Nat.reduceEqDiff, Nat.reduceAdd, Nat.reduceLeDiff, Nat.reduceMul, Nat.reduceSub, Int.reduceLE, Int.reduceLT, Int.reduceEq, Int.reduceToNat, Int.reducePow, Int.reduceNeg]
        exact hbad (hno he) S hS
      · intro he
        unfold rsS
        simp only [List.cons_append, List.nil_append, List.map_cons, List.map_nil]
        simp -implicitDefEqProofs only [go_sem, ↓reduceIte, Nat.reduceEqDiff, Nat.reduceAdd, Nat.reduceLeDiff, Nat.reduceMul, Nat.reduceSub, Int.reduceLE, Int.reduceLT, Int.reduceEq, Int.reduceToNat, Int.reducePow, Int.reduceNeg]
        refine hK1 _ ?_; clear hK1
        refine bwp_region rfl ?_
        simp -implicitDefEqProofs only [go_sem, ↓reduceIte, Nat.reduceEqDiff, Nat.reduceAdd, Nat.reduceLeDiff, Nat.reduceMul, Nat.reduceSub, Int.reduceLE, Int.reduceLT, Int.reduceEq, Int.reduceToNat, Int.reducePow, Int.reduceNeg, hw]
        refine ⟨hlt, hnext he, Leads.ent [(0, 0), (1, 1)] ⟨by simp [entT, fget, AV.ren, renL, pget], by simp [entM, pinv, mget, renL, AV.ren, pget], rfl, rfl⟩⟩
    · have hln' : ¬ ((rows[i].length : Nat) : Int) = (rows'[i].length : Nat) := by omega
      refine bwp_cond true (by simp [ev, fget, hln']) (fun _ => ?_) (fun h => nomatch h)
      refine bwp_seq fun K hK => bwp_region rfl ?_
      simp -implicitDefEqProofs only [go_sem, ↓reduceIte, Nat.reduceEqDiff, Nat.reduceAdd, Nat.reduceLeDiff, Nat.reduceMul, Nat.reduceSub, Int.reduceLE, Int.reduceLT, Int.reduceEq, Int.reduceToNat, Int.reducePow, Int.reduceNeg]
      refine hK _ ?_; clear hK
      refine bwp_ret ?_
      simp -implicitDefEqProofs only [go_sem, ↓reduceIte, Nat.reduceEqDiff, Nat.reduceAdd, Nat.reduceLeDiff, Nat.reduceMul, Nat.reduceSub, Int.reduceLE, Int.reduceLT, Int.reduceEq, Int.reduceToNat, Int.reducePow, Int.reduceNeg]
      exact hbad (hno (eqL_len eqIns _ _ hln)) _ rfl
  · have hlt' : ¬ (i : Int) < rows.length := by omega
    refine bwp_seq fun K hK => bwp_region rfl ?_
    simp -implicitDefEqProofs only [go_sem, ↓reduceIte, Nat.reduceEqDiff, Nat.reduceAdd, Nat.reduceLeDiff, Nat.reduceMul, Nat.reduceSub, Int.reduceLE, Int.reduceLT, Int.reduceEq, Int.reduceToNat, Int.reducePow, Int.reduceNeg, hT.len, hlt']
    refine hK _ ?_; clear hK
    refine bwp_cond false (by simp [ev, fget, hlt']) (fun h => nomatch h) (fun _ => ?_)
    refine bwp_leads (S' := rsS [.str nm, I, T, .int .i64 kd, A] [.str nm', I', T', .int .i64 kd', A'] []) (Leads.ent [(0, 0), (1, 1)] ⟨by simp [entT, fget, AV.ren, renL, pget, rsS], by simp [entM, pinv, mget, mset, renL, AV.ren, pget, renL_append, -List.map_map, rsS], rfl, rfl⟩) ?_
    exact bwp_exit (hgood (eqL_all (eqL eqIns) rows rows' hlr fun j h h' => hp j h h' (by omega)))

end Go.Proofs.YtpfbljkfbjjlkaaDoor

/- The document's Same, over data. -/
namespace Go.Proofs.YtpfbljkfbjjlkaaDoor
open Go Go.Jq
set_option maxRecDepth 100000
set_option linter.unusedSimpArgs false

def sameB (t u : Test) : Bool := decide (t.name = u.name) && (eqL eqInit t.inits u.inits && (eqL (eqL eqIns) t.threads u.threads && (decide (t.kind = u.kind) && eqL (eqL eqAtom) t.rows u.rows)))

theorem sameB_iff (t u : Test) : sameB t u = true ↔ t = u := by
  cases t; cases u
  simp [sameB, eqL_iff eqInit_iff, eqL_iff (eqL_iff eqIns_iff), eqL_iff (eqL_iff eqAtom_iff)]

set_option maxHeartbeats 2000000 in
theorem refSameCond_pure {kd kd' : Int} {rows rows' : List (List Atom)} {A A' : DV} (hA : IsSl2 Atom.cells rows A) (hA' : IsSl2 Atom.cells rows' A') :
    Pure Tryd.prog 28 [.agg [.d (.int .i64 kd), .d A], .agg [.d (.int .i64 kd'), .d A']] (.d (.bool (decide (kd = kd') && eqL (eqL eqAtom) rows rows'))) := by
  have hb := hA.big
  refine acalls_of Tryd.func28 ac28_ok Tryd.ntmps28 Tryd.results28 rfl ?_
  unfold ac28
  refine bwp_seq fun K hK => bwp_region rfl ?_
  simp -implicitDefEqProofs only [go_sem, ↓reduceIte, Nat.reduceEqDiff, Nat.reduceAdd, Nat.reduceLeDiff, Nat.reduceMul, Nat.reduceSub, Int.reduceLE, Int.reduceLT, Int.reduceEq, Int.reduceToNat, Int.reducePow, Int.reduceNeg]
  refine hK _ ?_; clear hK
  refine bwp_seq fun K1 hK1 => ?_
  have no : ∀ S : St, (decide (kd = kd') && eqL (eqL eqAtom) rows rows') = false → decide (mbound [] ≤ S.n) = true → BWP Tryd.prog (mbound []) 68 ((ACode.region false [⟨some 4, .mv (.c (.d (.bool false))), none⟩] []).seq ACode.ret) S (Exit.thenA K1 (AEnd Tryd.prog #[.tmp 4] (mbound []) fun r m' => r = .d (.bool (decide (kd = kd') && eqL (eqL eqAtom) rows rows')) ∧ m' = [])) := by
    intro S h0 hn
    rw [h0]
    refine bwp_seq fun K hK => bwp_region hn ?_
    simp -implicitDefEqProofs only [go_sem, ↓reduceIte, Nat.reduceEqDiff, Nat.reduceAdd, Nat.reduceLeDiff, Nat.reduceMul, Nat.reduceSub, Int.reduceLE, Int.reduceLT, Int.reduceEq, Int.reduceToNat, Int.reducePow, Int.reduceNeg]
    refine hK _ ?_; clear hK
    refine bwp_ret ?_
    simp only [go_sem]
    refine aend_ret _ rfl rfl ⟨?_, rfl⟩
    simp [fget]
  by_cases h1 : kd = kd'
  · by_cases hl : rows.length = rows'.length
    · have hl1 : ((rows.length : Int) = (rows'.length : Int)) := by omega
      refine bwp_seq fun K hK => bwp_region rfl ?_
      simp -implicitDefEqProofs only [go_sem, ↓reduceIte, Nat.reduceEqDiff, Nat.reduceAdd, Nat.reduceLeDiff, Nat.reduceMul, Nat.reduceSub, Int.reduceLE, Int.reduceLT, Int.reduceEq, Int.reduceToNat, Int.reducePow, Int.reduceNeg, h1, hA.len, hA'.len, hl1]
      refine hK _ ?_; clear hK
      refine bwp_cond false (by simp [ev, fget, hl1]) (fun h => nomatch h) (fun _ => ?_)
      refine bwp_skip ?_
      refine hK1 _ ?_; clear hK1
      refine bwp_seq fun K2 hK2 => ?_
      refine bwp_seq fun K hK => bwp_region rfl ?_
      simp -implicitDefEqProofs only [go_sem, ↓reduceIte, Nat.reduceEqDiff, Nat.reduceAdd, Nat.reduceLeDiff, Nat.reduceMul, Nat.reduceSub, Int.reduceLE, Int.reduceLT, Int.reduceEq, Int.reduceToNat, Int.reducePow, Int.reduceNeg]
      refine hK _ ?_; clear hK
      refine bwp_block ?_
      refine bwp_leads (S' := rsS [.int .i64 kd, A] [.int .i64 kd', A'] [(5, .d (.int .i64 (0 : Nat)))]) (Leads.ent [(0, 0), (1, 1)] ⟨by simp [entT, fget, AV.ren, renL, pget, rsS, h1], by simp [entM, pinv, mget, mset, renL, AV.ren, pget, renL_append, -List.map_map, rsS, h1], rfl, rfl⟩) ?_
      refine rs_outAtom hA hA' hl ?_ ?_
      · intro he S hS
        simp -implicitDefEqProofs only [go_sem, ↓reduceIte, Nat.reduceEqDiff, Nat.reduceAdd, Nat.reduceLeDiff, Nat.reduceMul, Nat.reduceSub, Int.reduceLE, Int.reduceLT, Int.reduceEq, Int.reduceToNat, Int.reducePow, Int.reduceNeg]
        exact aend_ret (.d (.bool false)) (by simp [resA, resVs, resV, hS]) rfl ⟨by simp [he], rfl⟩
      · intro he
        simp -implicitDefEqProofs only [go_sem, ↓reduceIte, Nat.reduceEqDiff, Nat.reduceAdd, Nat.reduceLeDiff, Nat.reduceMul, Nat.reduceSub, Int.reduceLE, Int.reduceLT, Int.reduceEq, Int.reduceToNat, Int.reducePow, Int.reduceNeg]
        refine hK2 _ ?_; clear hK2
        unfold rsS
        refine bwp_seq fun K hK => bwp_region rfl ?_
        simp -implicitDefEqProofs only [go_sem, ↓reduceIte, Nat.reduceEqDiff, Nat.reduceAdd, Nat.reduceLeDiff, Nat.reduceMul, Nat.reduceSub, Int.reduceLE, Int.reduceLT, Int.reduceEq, Int.reduceToNat, Int.reducePow, Int.reduceNeg]
        refine hK _ ?_; clear hK
        refine bwp_ret ?_
        simp only [go_sem]
        refine aend_ret _ rfl rfl ⟨?_, rfl⟩
        simp [fget, he, h1]
    · have hl1 : ¬ ((rows.length : Int) = (rows'.length : Int)) := by omega
      refine bwp_seq fun K hK => bwp_region rfl ?_
      simp -implicitDefEqProofs only [go_sem, ↓reduceIte, Nat.reduceEqDiff, Nat.reduceAdd, Nat.reduceLeDiff, Nat.reduceMul, Nat.reduceSub, Int.reduceLE, Int.reduceLT, Int.reduceEq, Int.reduceToNat, Int.reducePow, Int.reduceNeg, h1, hA.len, hA'.len, hl1]
      refine hK _ ?_; clear hK
      refine bwp_cond true (by simp [ev, fget, h1, hl1]) (fun _ => ?_) (fun h => nomatch h)
      exact no _ (by rw [eqL_len _ _ _ hl]; simp) rfl
  · refine bwp_seq fun K hK => bwp_region rfl ?_
    simp -implicitDefEqProofs only [go_sem, ↓reduceIte, Nat.reduceEqDiff, Nat.reduceAdd, Nat.reduceLeDiff, Nat.reduceMul, Nat.reduceSub, Int.reduceLE, Int.reduceLT, Int.reduceEq, Int.reduceToNat, Int.reducePow, Int.reduceNeg, h1]
    refine hK _ ?_; clear hK
    refine bwp_cond true (by simp [ev, fget, h1]) (fun _ => ?_) (fun h => nomatch h)
    exact no _ (by simp [h1]) rfl

set_option maxHeartbeats 4000000 in
theorem rs_inits {nm nm' : List UInt8} {kd kd' : Int} {T T' A A' : DV} {l l' : List Init} {I I' : DV} (hI : IsSl Init.cells l I) (hI' : IsSl Init.cells l' I') (hln : l.length = l'.length) {Q : Exit → St → Prop}
    (hbad : eqL eqInit l l' = false → ∀ S, fget S.t 4 = .d (.bool false) → Q .ret S) (hgood : eqL eqInit l l' = true → Q (.exit 0) (rsS [.str nm, I, T, .int .i64 kd, A] [.str nm', I', T', .int .i64 kd', A'] [])) :
    BWP Tryd.prog (mbound []) 104 (.loop ac27L0) (rsS [.str nm, I, T, .int .i64 kd, A] [.str nm', I', T', .int .i64 kd', A'] [(5, .d (.int .i64 (0 : Nat)))]) Q := by
  have hb := hI.1
  refine bwp_countI (fun k => rsS [.str nm, I, T, .int .i64 kd, A] [.str nm', I', T', .int .i64 kd', A'] [(5, .d (.int .i64 (k : Nat)))]) (fun k => ∀ j (h : j < l.length) (h' : j < l'.length), j < k → eqInit l[j] l'[j] = true) l.length (fun j _ _ h => absurd h (Nat.not_lt_zero _)) ?_
  intro k hk hp
  unfold ac27L0 rsS
  simp only [List.cons_append, List.nil_append, List.map_cons, List.map_nil]
  refine bwp_seq fun K1 hK1 => ?_
  by_cases hlt : k < l.length
  · have hlt' : (k : Int) < l.length := by omega
    have hlt2 : (k : Int) < l'.length := by omega
    obtain ⟨cs, rest, hDe, hdrop, hcs⟩ := hI.at init_len (by omega) k hlt
    obtain ⟨cs', rest', hDe', hdrop', hcs'⟩ := hI'.at init_len (by omega) k (by omega)
    have hw : IntKind.i64.wrap ((k : Int) + 1) = ((k + 1 : Nat) : Int) := by rw [wrap_i64 (by omega) (by omega)]; rfl
    have hno := eqL_at eqInit l l' k hlt (by omega)
    have hnext : eqInit l[k] (l'[k]'(by omega)) = true → ∀ j (h : j < l.length) (h' : j < l'.length), j < k + 1 → eqInit l[j] l'[j] = true := fun he j h h' hj => by
      rcases Nat.lt_succ_iff_lt_or_eq.1 hj with h1 | h1
      · exact hp j h h' h1
      · subst h1; exact he
    generalize l[k] = x at hdrop hno hnext
    generalize l'[k]'(by omega) = y at hdrop' hno hnext
    refine bwp_seq fun K hK => bwp_region rfl ?_
    simp -implicitDefEqProofs only [go_sem, ↓reduceIte, Nat.reduceEqDiff, Nat.reduceAdd, Nat.reduceLeDiff, Nat.reduceMul, Nat.reduceSub, Int.reduceLE, Int.reduceLT, Int.reduceEq, Int.reduceToNat, Int.reducePow, Int.reduceNeg, hI.len, hlt']
    refine hK _ ?_; clear hK
    refine bwp_cond true (by simp [ev, fget, hlt']) (fun _ => ?_) (fun h => nomatch h)
    refine bwp_skip ?_
    refine hK1 _ ?_; clear hK1
    refine bwp_seq fun K1 hK1 => ?_
    refine bwp_block ?_
    refine bwp_seq fun K hK => bwp_region_draw rfl rfl ?_
    simp -implicitDefEqProofs only [go_sem, ↓reduceIte, Nat.reduceEqDiff, Nat.reduceAdd, Nat.reduceLeDiff, Nat.reduceMul, Nat.reduceSub, Int.reduceLE, Int.reduceLT, Int.reduceEq, Int.reduceToNat, Int.reducePow, Int.reduceNeg, hDe, hDe', hlt', hlt2, Int.natCast_nonneg, Int.toNat_natCast, hcs, hcs', hdrop, hdrop', Init.cells]
    refine ⟨rfl, hK _ ?_⟩; clear hK
    cases he : eqInit x y with
    | false =>
      have he' : ¬ (x.loc = y.loc ∧ x.value = y.value) := fun h => by
        have : eqInit x y = true := by simp [eqInit, h]
        rw [this] at he
        cases he
      refine bwp_cond true (by simp [ev, fget]; omega) (fun _ => ?_) (fun h => nomatch h)
      refine bwp_seq fun K hK => bwp_region rfl ?_
      simp -implicitDefEqProofs only [go_sem, ↓reduceIte, Nat.reduceEqDiff, Nat.reduceAdd, Nat.reduceLeDiff, Nat.reduceMul, Nat.reduceSub, Int.reduceLE, Int.reduceLT, Int.reduceEq, Int.reduceToNat, Int.reducePow, Int.reduceNeg]
      refine hK _ ?_; clear hK
      refine bwp_ret ?_
      simp -implicitDefEqProofs only [go_sem, ↓reduceIte, Nat.reduceEqDiff, Nat.reduceAdd, Nat.reduceLeDiff, Nat.reduceMul, Nat.reduceSub, Int.reduceLE, Int.reduceLT, Int.reduceEq, Int.reduceToNat, Int.reducePow, Int.reduceNeg]
      exact hbad (hno he) _ rfl
    | true =>
      have he' : x.loc = y.loc ∧ x.value = y.value := by simpa [eqInit, and_assoc] using he
      refine bwp_cond false (by simp [ev, fget]; omega) (fun h => nomatch h) (fun _ => ?_)
      refine bwp_skip ?_
      simp -implicitDefEqProofs only [go_sem, ↓reduceIte, Nat.reduceEqDiff, Nat.reduceAdd, Nat.reduceLeDiff, Nat.reduceMul, Nat.reduceSub, Int.reduceLE, Int.reduceLT, Int.reduceEq, Int.reduceToNat, Int.reducePow, Int.reduceNeg]
      refine hK1 _ ?_; clear hK1
      refine bwp_region rfl ?_
      simp -implicitDefEqProofs only [go_sem, ↓reduceIte, Nat.reduceEqDiff, Nat.reduceAdd, Nat.reduceLeDiff, Nat.reduceMul, Nat.reduceSub, Int.reduceLE, Int.reduceLT, Int.reduceEq, Int.reduceToNat, Int.reducePow, Int.reduceNeg, hw]
      refine ⟨hlt, hnext he, Leads.ent [(0, 0), (1, 1)] ⟨by simp [entT, fget, AV.ren, renL, pget], by simp [entM, pinv, mget, renL, AV.ren, hDe, hDe', pget], rfl, rfl⟩⟩
  · have hlt' : ¬ (k : Int) < l.length := by omega
    have hin : k = l.length := by omega
    refine bwp_seq fun K hK => bwp_region rfl ?_
    simp -implicitDefEqProofs only [go_sem, ↓reduceIte, Nat.reduceEqDiff, Nat.reduceAdd, Nat.reduceLeDiff, Nat.reduceMul, Nat.reduceSub, Int.reduceLE, Int.reduceLT, Int.reduceEq, Int.reduceToNat, Int.reducePow, Int.reduceNeg, hI.len, hlt']
    refine hK _ ?_; clear hK
    refine bwp_cond false (by simp [ev, fget, hlt']) (fun h => nomatch h) (fun _ => ?_)
    refine bwp_leads (S' := rsS [.str nm, I, T, .int .i64 kd, A] [.str nm', I', T', .int .i64 kd', A'] []) (Leads.ent [(0, 0), (1, 1)] ⟨by simp [entT, fget, AV.ren, renL, pget, rsS], by simp [entM, pinv, mget, mset, renL, AV.ren, pget, renL_append, -List.map_map, rsS], rfl, rfl⟩) ?_
    exact bwp_exit (hgood (eqL_all eqInit l l' hln fun j h h' => hp j h h' (by omega)))

set_option maxHeartbeats 4000000 in
theorem refSame_pure {t u : Test} {cs cu : List DV} (hT : IsTest t cs) (hU : IsTest u cu) : Pure Tryd.prog 27 [.agg (cs.map .d), .agg (cu.map .d)] (.d (.bool (sameB t u))) := by
  obtain ⟨I, T, A, rfl, hI, hTh, hA⟩ := hT
  obtain ⟨I', T', A', rfl, hI', hTh', hA'⟩ := hU
  have kc := refSameCond_pure (kd := t.kind) (kd' := u.kind) hA hA'
  have hs : sameB t u = (decide (t.name = u.name) && (eqL eqInit t.inits u.inits && (eqL (eqL eqIns) t.threads u.threads && (decide (t.kind = u.kind) && eqL (eqL eqAtom) t.rows u.rows)))) := rfl
  generalize (decide (t.kind = u.kind) && eqL (eqL eqAtom) t.rows u.rows) = e3 at *
  simp only [List.map_cons, List.map_nil]
  refine acalls_of Tryd.func27 ac27_ok Tryd.ntmps27 Tryd.results27 rfl ?_
  unfold ac27
  refine bwp_seq fun K hK => bwp_region rfl ?_
  simp -implicitDefEqProofs only [go_sem, ↓reduceIte, Nat.reduceEqDiff, Nat.reduceAdd, Nat.reduceLeDiff, Nat.reduceMul, Nat.reduceSub, Int.reduceLE, Int.reduceLT, Int.reduceEq, Int.reduceToNat, Int.reducePow, Int.reduceNeg]
  refine hK _ ?_; clear hK
  refine bwp_seq fun K1 hK1 => ?_
  have no : ∀ S : St, sameB t u = false → decide (mbound [] ≤ S.n) = true → BWP Tryd.prog (mbound []) 104 ((ACode.region false [⟨some 4, .mv (.c (.d (.bool false))), none⟩] []).seq ACode.ret) S (Exit.thenA K1 (AEnd Tryd.prog #[.tmp 4] (mbound []) fun r m' => r = .d (.bool (sameB t u)) ∧ m' = [])) := by
    intro S h0 hn
    rw [h0]
    refine bwp_seq fun K hK => bwp_region hn ?_
    simp -implicitDefEqProofs only [go_sem, ↓reduceIte, Nat.reduceEqDiff, Nat.reduceAdd, Nat.reduceLeDiff, Nat.reduceMul, Nat.reduceSub, Int.reduceLE, Int.reduceLT, Int.reduceEq, Int.reduceToNat, Int.reducePow, Int.reduceNeg]
    refine hK _ ?_; clear hK
    refine bwp_ret ?_
    simp only [go_sem]
    refine aend_ret _ rfl rfl ⟨?_, rfl⟩
    simp [fget]
  by_cases h1 : t.name = u.name
  · by_cases h2 : t.inits.length = u.inits.length
    · have h2' : (t.inits.length : Int) = u.inits.length := by omega
      by_cases h3 : t.threads.length = u.threads.length
      · have h3' : (t.threads.length : Int) = u.threads.length := by omega
        refine bwp_seq fun K hK => bwp_region rfl ?_
        simp -implicitDefEqProofs only [go_sem, ↓reduceIte, Nat.reduceEqDiff, Nat.reduceAdd, Nat.reduceLeDiff, Nat.reduceMul, Nat.reduceSub, Int.reduceLE, Int.reduceLT, Int.reduceEq, Int.reduceToNat, Int.reducePow, Int.reduceNeg, h1, hI.len, hI'.len, h2', hTh.len, hTh'.len, h3']
        refine callK_pure kc rfl rfl ?_
        cases e3 with
        | false =>
          simp -implicitDefEqProofs only [go_sem, ↓reduceIte, Nat.reduceEqDiff, Nat.reduceAdd, Nat.reduceLeDiff, Nat.reduceMul, Nat.reduceSub, Int.reduceLE, Int.reduceLT, Int.reduceEq, Int.reduceToNat, Int.reducePow, Int.reduceNeg]
          refine hK _ ?_; clear hK
          refine bwp_cond true (by simp [ev, fget]) (fun _ => ?_) (fun h => nomatch h)
          exact no _ (by simp [hs]) rfl
        | true =>
          simp -implicitDefEqProofs only [go_sem, ↓reduceIte, Nat.reduceEqDiff, Nat.reduceAdd, Nat.reduceLeDiff, Nat.reduceMul, Nat.reduceSub, Int.reduceLE, Int.reduceLT, Int.reduceEq, Int.reduceToNat, Int.reducePow, Int.reduceNeg]
          refine hK _ ?_; clear hK
          refine bwp_cond false (by simp [ev, fget]) (fun h => nomatch h) (fun _ => ?_)
          refine bwp_skip ?_
          refine hK1 _ ?_; clear hK1
          refine bwp_seq fun K2 hK2 => ?_
          refine bwp_seq fun K hK => bwp_region rfl ?_
          simp -implicitDefEqProofs only [go_sem, ↓reduceIte, Nat.reduceEqDiff, Nat.reduceAdd, Nat.reduceLeDiff, Nat.reduceMul, Nat.reduceSub, Int.reduceLE, Int.reduceLT, Int.reduceEq, Int.reduceToNat, Int.reducePow, Int.reduceNeg]
          refine hK _ ?_; clear hK
          refine bwp_block ?_
          refine bwp_leads (S' := rsS [.str t.name, I, T, .int .i64 t.kind, A] [.str u.name, I', T', .int .i64 u.kind, A'] [(5, .d (.int .i64 (0 : Nat)))]) (Leads.ent [(0, 0), (1, 1)] ⟨by simp [entT, fget, AV.ren, renL, pget, rsS, h1], by simp [entM, pinv, mget, mset, renL, AV.ren, pget, renL_append, -List.map_map, rsS, h1], rfl, rfl⟩) ?_
          refine rs_inits hI hI' h2 ?_ ?_
          · intro he S hS
            simp -implicitDefEqProofs only [go_sem, ↓reduceIte, Nat.reduceEqDiff, Nat.reduceAdd, Nat.reduceLeDiff, Nat.reduceMul, Nat.reduceSub, Int.reduceLE, Int.reduceLT, Int.reduceEq, Int.reduceToNat, Int.reducePow, Int.reduceNeg]
            exact aend_ret (.d (.bool false)) (by simp [resA, resVs, resV, hS]) rfl ⟨by simp [hs, he], rfl⟩
          · intro he1
            simp -implicitDefEqProofs only [go_sem, ↓reduceIte, Nat.reduceEqDiff, Nat.reduceAdd, Nat.reduceLeDiff, Nat.reduceMul, Nat.reduceSub, Int.reduceLE, Int.reduceLT, Int.reduceEq, Int.reduceToNat, Int.reducePow, Int.reduceNeg]
            refine hK2 _ ?_; clear hK2
            unfold rsS
            simp only [List.nil_append, List.map_cons, List.map_nil]
            refine bwp_seq fun K2 hK2 => ?_
            refine bwp_seq fun K hK => bwp_region rfl ?_
            simp -implicitDefEqProofs only [go_sem, ↓reduceIte, Nat.reduceEqDiff, Nat.reduceAdd, Nat.reduceLeDiff, Nat.reduceMul, Nat.reduceSub, Int.reduceLE, Int.reduceLT, Int.reduceEq, Int.reduceToNat, Int.reducePow, Int.reduceNeg]
            refine hK _ ?_; clear hK
            refine bwp_block ?_
            refine bwp_leads (S' := rsS [.str t.name, I, T, .int .i64 t.kind, A] [.str u.name, I', T', .int .i64 u.kind, A'] [(6, .d (.int .i64 (0 : Nat)))]) (Leads.ent [(0, 0), (1, 1)] ⟨by simp [entT, fget, AV.ren, renL, pget, rsS], by simp [entM, pinv, mget, mset, renL, AV.ren, pget, renL_append, -List.map_map, rsS], rfl, rfl⟩) ?_
            refine rs_outIns hTh hTh' h3 ?_ ?_
            · intro he S hS
              simp -implicitDefEqProofs only [go_sem, ↓reduceIte, Nat.reduceEqDiff, Nat.reduceAdd, Nat.reduceLeDiff, Nat.reduceMul, Nat.reduceSub, Int.reduceLE, Int.reduceLT, Int.reduceEq, Int.reduceToNat, Int.reducePow, Int.reduceNeg]
              exact aend_ret (.d (.bool false)) (by simp [resA, resVs, resV, hS]) rfl ⟨by simp [hs, he], rfl⟩
            · intro he2
              simp -implicitDefEqProofs only [go_sem, ↓reduceIte, Nat.reduceEqDiff, Nat.reduceAdd, Nat.reduceLeDiff, Nat.reduceMul, Nat.reduceSub, Int.reduceLE, Int.reduceLT, Int.reduceEq, Int.reduceToNat, Int.reducePow, Int.reduceNeg]
              refine hK2 _ ?_; clear hK2
              unfold rsS
              refine bwp_seq fun K hK => bwp_region rfl ?_
              simp -implicitDefEqProofs only [go_sem, ↓reduceIte, Nat.reduceEqDiff, Nat.reduceAdd, Nat.reduceLeDiff, Nat.reduceMul, Nat.reduceSub, Int.reduceLE, Int.reduceLT, Int.reduceEq, Int.reduceToNat, Int.reducePow, Int.reduceNeg]
              refine hK _ ?_; clear hK
              refine bwp_ret ?_
              simp only [go_sem]
              refine aend_ret _ rfl rfl ⟨?_, rfl⟩
              simp [fget, hs, he1, he2, h1]
      · have h3' : ¬ (t.threads.length : Int) = u.threads.length := by omega
        refine bwp_seq fun K hK => bwp_region rfl ?_
        simp -implicitDefEqProofs only [go_sem, ↓reduceIte, Nat.reduceEqDiff, Nat.reduceAdd, Nat.reduceLeDiff, Nat.reduceMul, Nat.reduceSub, Int.reduceLE, Int.reduceLT, Int.reduceEq, Int.reduceToNat, Int.reducePow, Int.reduceNeg, h1, hI.len, hI'.len, h2', hTh.len, hTh'.len, h3']
        refine hK _ ?_; clear hK
        refine bwp_cond true (by simp [ev, fget, h3', h1, h2']) (fun _ => ?_) (fun h => nomatch h)
        exact no _ (by simp [hs, eqL_len (eqL eqIns) _ _ h3]) rfl
    · have h2' : ¬ (t.inits.length : Int) = u.inits.length := by omega
      refine bwp_seq fun K hK => bwp_region rfl ?_
      simp -implicitDefEqProofs only [go_sem, ↓reduceIte, Nat.reduceEqDiff, Nat.reduceAdd, Nat.reduceLeDiff, Nat.reduceMul, Nat.reduceSub, Int.reduceLE, Int.reduceLT, Int.reduceEq, Int.reduceToNat, Int.reducePow, Int.reduceNeg, h1, hI.len, hI'.len, h2']
      refine hK _ ?_; clear hK
      refine bwp_cond true (by simp [ev, fget, h2', h1]) (fun _ => ?_) (fun h => nomatch h)
      exact no _ (by simp [hs, eqL_len eqInit _ _ h2]) rfl
  · refine bwp_seq fun K hK => bwp_region rfl ?_
    simp -implicitDefEqProofs only [go_sem, ↓reduceIte, Nat.reduceEqDiff, Nat.reduceAdd, Nat.reduceLeDiff, Nat.reduceMul, Nat.reduceSub, Int.reduceLE, Int.reduceLT, Int.reduceEq, Int.reduceToNat, Int.reducePow, Int.reduceNeg, h1]
    refine hK _ ?_; clear hK
    refine bwp_cond true (by simp [ev, fget, h1]) (fun _ => ?_) (fun h => nomatch h)
    exact no _ (by simp [hs, h1]) rfl

end Go.Proofs.YtpfbljkfbjjlkaaDoor

/- What Parse and Tree come to, as tests; Same of them; what the document fixes. -/
namespace Go.Proofs.YtpfbljkfbjjlkaaDoor
open Go Go.Jq
set_option maxRecDepth 100000
set_option linter.unusedSimpArgs false

/-! ### What a tree's values are like -/

def PT.Post {α : Type} (t : PT α) (P : α → Prop) : Prop := ∀ (s : List UInt8) (a : Nat) (x : α) (b : Nat), t.run s a = .ok (x, b) → P x

theorem post_bind {α β : Type} {t : PT α} {f : α → PT β} {P : α → Prop} {Q : β → Prop} (h : t.Post P) (h' : ∀ x, P x → (f x).Post Q) : (t.bind f).Post Q := by
  intro s a y b hr
  rw [PT.run_bind] at hr
  cases ht : t.run s a with
  | error e => rw [ht] at hr; cases hr
  | ok p =>
    obtain ⟨x, c⟩ := p
    rw [ht] at hr
    exact h' x (h s a x c ht) s c y b hr

theorem post_true {α : Type} (t : PT α) : t.Post fun _ => True := fun _ _ _ _ _ => trivial

theorem post_ret {α : Type} {x : α} {P : α → Prop} (h : P x) : (PT.ret x).Post P := by
  intro s a y b hr
  simp only [PT.run, Except.ok.injEq, Prod.mk.injEq] at hr
  rw [← hr.1]; exact h

theorem post_bad {α : Type} {c : Int} {P : α → Prop} : (PT.bad c : PT α).Post P := by
  intro s a y b hr
  cases hr

theorem post_eat {α : Type} {k : PT α} {P : α → Prop} (h : k.Post P) : (PT.eat k).Post P := by
  intro s a y b hr
  simp only [PT.run] at hr
  split at hr
  · exact h _ _ _ _ hr
  · cases hr

theorem post_cur {α : Type} {k : Int → List UInt8 → PT α} {P : α → Prop} (h : ∀ d x, (k d x).Post P) : (PT.cur k).Post P := fun s a y b hr => h _ _ s a y b hr

theorem post_take {α : Type} {x : List UInt8} {yes no : PT α} {P : α → Prop} (h : yes.Post P) (h' : no.Post P) : (tTake x yes no).Post P := by
  refine post_cur fun d y => ?_
  split
  · exact post_eat h
  · exact h'

theorem post_many {α : Type} {one : PT α} {P : α → Prop} (h : one.Post P) : ∀ f, (tMany one f).Post fun l => l.length < f ∧ ∀ x ∈ l, P x
  | 0 => post_bad
  | f + 1 => post_take (post_ret ⟨by simp, by simp⟩) (post_bind h fun x hx => post_bind (post_many h f) fun l hl => post_ret ⟨by simp; exact hl.1, fun y hy => by
      rcases List.mem_cons.1 hy with rfl | hy
      · exact hx
      · exact hl.2 y hy⟩)

theorem post_threads {P : Ins → Prop} (h : tInsE.Post P) : ∀ f, (tThreads f).Post fun l => l.length < f ∧ ∀ t ∈ l, t.length < fuelP ∧ ∀ x ∈ t, P x
  | 0 => post_bad
  | f + 1 => post_take (post_bind (post_bind (post_true _) fun _ _ => post_many h fuelP) fun x hx => post_bind (post_threads h f) fun l hl => post_ret ⟨by simp; exact hl.1, fun y hy => by
      rcases List.mem_cons.1 hy with rfl | hy
      · exact hx
      · exact hl.2 y hy⟩) (post_ret ⟨by simp, by simp⟩)

theorem post_row {P : Atom → Prop} (h : tAtom.Post P) : ∀ f, (tRow f).Post fun l => l.length < f ∧ ∀ x ∈ l, P x
  | 0 => post_bad
  | f + 1 => post_take (post_bind h fun x hx => post_bind (post_row h f) fun l hl => post_ret ⟨by simp; exact hl.1, fun y hy => by
      rcases List.mem_cons.1 hy with rfl | hy
      · exact hx
      · exact hl.2 y hy⟩) (post_ret ⟨by simp, by simp⟩)

theorem post_rows {P : Atom → Prop} (h : tAtom.Post P) : ∀ f, (tRows f).Post fun l => (l.length ≤ f ∧ l ≠ []) ∧ ∀ t ∈ l, (t.length ≤ fuelP ∧ t ≠ []) ∧ ∀ x ∈ t, P x
  | 0 => post_bad
  | f + 1 => post_bind h fun x hx => post_bind (post_row h fuelP) fun l hl => by
      have hxl : ((x :: l).length ≤ fuelP ∧ (x :: l) ≠ []) ∧ ∀ y ∈ x :: l, P y := ⟨⟨by simp only [List.length_cons]; omega, by simp⟩, fun y hy => by
        rcases List.mem_cons.1 hy with rfl | hy
        · exact hx
        · exact hl.2 y hy⟩
      exact post_take (post_bind (post_rows h f) fun r hr => post_ret ⟨⟨by simp only [List.length_cons]; omega, by simp⟩, fun y hy => by
        rcases List.mem_cons.1 hy with rfl | hy
        · exact hxl
        · exact hr.2 y hy⟩) (post_ret ⟨⟨by simp, by simp⟩, fun y hy => by
          simp only [List.mem_cons, List.not_mem_nil, or_false] at hy
          subst hy
          exact hxl⟩)

/-- How long a test's lists are. -/
structure Lens (t : Test) : Prop where
  inits : t.inits.length < fuelP
  threads : t.threads.length < fuelP
  ins : ∀ l ∈ t.threads, l.length < fuelP
  rows : t.rows.length ≤ fuelP
  atoms : ∀ l ∈ t.rows, l.length ≤ fuelP

theorem lens_run : tTest.Post Lens := by
  refine post_bind (post_true _) fun _ _ => post_bind (post_true _) fun n _ => post_bind (post_true _) fun _ _ => ?_
  refine post_bind (P := fun l => l.length < fuelP) (post_take (post_bind (post_true _) fun _ _ => fun s a x b h => (post_many (post_true tInit) fuelP s a x b h).1) (post_ret (by decide))) fun i hi => ?_
  refine post_bind (post_threads (post_true _) fuelP) fun th hth => ?_
  refine post_bind (P := fun c => c.2.length ≤ fuelP ∧ ∀ l ∈ c.2, l.length ≤ fuelP) ?_ fun c hc => post_bind (post_true _) fun _ _ => post_cur fun d y => ?_
  · have ask : ∀ k, (tAsk k).Post fun c => c.2.length ≤ fuelP ∧ ∀ l ∈ c.2, l.length ≤ fuelP := fun k => post_bind (post_rows (post_true _) fuelP) fun r hr => post_bind (post_true _) fun _ _ => post_ret ⟨hr.1.1, fun l hl => (hr.2 l hl).1.1⟩
    exact post_take (ask 1) (post_take (ask 2) (post_ret ⟨by simp, by simp⟩))
  · split
    · exact post_ret ⟨hi, hth.1, fun l hl => (hth.2 l hl).1, hc.1, hc.2⟩
    · exact post_bad

theorem pTest_post {P : Test → Prop} (h : tTest.Post P) {s : List UInt8} {t : Test} (ht : pTest s = .ok t) : P t := by
  unfold pTest at ht
  split at ht
  · cases ht
  · split at ht
    · rename_i a _
      split at ht
      · rename_i t' b hb
        cases ht
        exact h s a t b hb
      · cases ht
    · cases ht

/-! ### Parse's values -/

def pT (r : PR Test) : Test := match r with
  | .ok t => t
  | .error _ => ⟨[], [], [], 0, []⟩
def pCells (r : PR Test) : List DV := match r with
  | .ok t => testD t
  | .error _ => testD0
def pCode (r : PR Test) : Int := match r with
  | .ok _ => 0
  | .error e => e.1
def pAt (r : PR Test) : Nat := match r with
  | .ok _ => 0
  | .error e => e.2

theorem parseV_eq (r : PR Test) : parseV r = .tup [.agg ((pCells r).map .d), .agg [.d (.int .i64 (pCode r)), .d (.int .i64 (pAt r))]] := by
  cases r <;> rfl

theorem isSl_d {α : Type} (enc : α → List DV) {l : List α} (h : l.length ≤ fuelP) : IsSl enc l (slD enc l) := ⟨by unfold fuelP at h; omega, .inr rfl⟩

theorem isSls_d {α : Type} (enc : α → List DV) : ∀ {ls : List (List α)}, (∀ l ∈ ls, l.length ≤ fuelP) → IsSls enc ls (ls.map (slD enc))
  | [], _ => trivial
  | l :: ls, h => ⟨isSl_d enc (h l List.mem_cons_self), isSls_d enc fun l' h' => h l' (List.mem_cons_of_mem _ h')⟩

theorem isSl2_d {α : Type} (enc : α → List DV) {ls : List (List α)} (h : ls.length ≤ fuelP) (h' : ∀ l ∈ ls, l.length ≤ fuelP) : IsSl2 enc ls (.sl ls.length (ls.map (slD enc))) := by
  refine ⟨ls.map (slD enc), ⟨by simp; unfold fuelP at h; omega, .inr ?_⟩, isSls_d enc h'⟩
  have e : ∀ l : List DV, l.flatMap (fun d => [d]) = l := by
    intro l
    induction l with
    | nil => rfl
    | cons x l ih => simp [ih]
  rw [e, List.length_map]

theorem Lens.isTest {t : Test} (h : Lens t) : IsTest t (testD t) :=
  ⟨_, _, _, rfl, isSl_d _ (Nat.le_of_lt h.inits), isSl2_d _ (Nat.le_of_lt h.threads) fun l hl => Nat.le_of_lt (h.ins l hl), isSl2_d _ h.rows h.atoms⟩

theorem isTest_p (s : List UInt8) : IsTest (pT (pTest s)) (pCells (pTest s)) := by
  cases h : pTest s with
  | ok t => exact (pTest_post lens_run h).isTest
  | error e =>
    have hN : ∀ {α : Type} (f : α → List DV), IsSl f [] .nsl := fun f => ⟨by simp, .inl ⟨rfl, rfl⟩⟩
    exact ⟨.nsl, .nsl, .nsl, rfl, hN _, ⟨[], hN _, trivial⟩, ⟨[], hN _, trivial⟩⟩

theorem parse2_pure {s : List UInt8} (hs : s.length ≤ maxLen) : Pure Tryd.prog 25 [.d (.str s)] (.tup [.agg ((pCells (pTest s)).map .d), .agg [.d (.int .i64 (pCode (pTest s))), .d (.int .i64 (pAt (pTest s)))]]) := by
  rw [← parseV_eq]; exact parse1_pure hs
theorem tree2_pure {s : List UInt8} (hs : s.length ≤ maxLen) : Pure Tryd.prog 26 [.d (.str s)] (.tup [.agg ((pCells (pTest s)).map .d), .agg [.d (.int .i64 (pCode (pTest s))), .d (.int .i64 (pAt (pTest s)))]]) := by
  rw [← parseV_eq]; exact tree_pure hs

/-- A parsed test's cells, one by one. -/
theorem pCells_split (r : PR Test) : ∃ I T A, pCells r = [.str (pT r).name, I, T, .int .i64 (pT r).kind, A] := by
  cases r with
  | ok t => exact ⟨_, _, _, rfl⟩
  | error e => exact ⟨_, _, _, rfl⟩

/-! ### What the document fixes -/

def awT : List UInt8 := [116, 101, 115, 116, 32, 97, 32, 123, 32, 116, 104, 114, 101, 97, 100, 32, 123, 32, 102, 101, 110, 99, 101, 32, 59, 32, 125, 32, 125]

theorem awake_test : pTest awT = .ok ⟨[97], [], [[⟨3, 0, 0, ⟨0, 0⟩, 0, ⟨0, 0⟩, 0⟩]], 0, []⟩ := by kernel_rfl

set_option maxHeartbeats 4000000 in
theorem awake3_pure : Pure Tryd.prog 24 [] (.d (.bool true)) := by
  have k := parse1_pure (s := awT) (by decide)
  rw [awake_test] at k
  simp only [parseV, testD, slD, thrD, thrC, rowsD, rowsC, awT, Ins.cells, List.length_cons, List.length_nil, List.flatMap_cons, List.flatMap_nil, List.map_cons, List.map_nil, List.cons_append, List.nil_append, List.append_nil, Nat.zero_add, Nat.reduceAdd] at k
  refine acalls_of Tryd.func24 ac24_ok Tryd.ntmps24 Tryd.results24 rfl ?_
  unfold ac24
  refine bwp_seq fun K hK => bwp_region rfl ?_
  simp -implicitDefEqProofs only [go_sem, ↓reduceIte, Nat.reduceEqDiff, Nat.reduceAdd, Nat.reduceLeDiff, Nat.reduceMul, Nat.reduceSub, Int.reduceLE, Int.reduceLT, Int.reduceEq, Int.reduceToNat, Int.reducePow, Int.reduceNeg]
  refine hK _ ?_; clear hK
  refine bwp_seq fun K hK => bwp_region rfl ?_
  simp -implicitDefEqProofs only [go_sem, ↓reduceIte, Nat.reduceEqDiff, Nat.reduceAdd, Nat.reduceLeDiff, Nat.reduceMul, Nat.reduceSub, Int.reduceLE, Int.reduceLT, Int.reduceEq, Int.reduceToNat, Int.reducePow, Int.reduceNeg]
  repeat' (first
    | (refine gateK_split (fun hb => ?_) (fun hb => ?_) <;> simp -implicitDefEqProofs only [go_sem, ↓reduceIte, Nat.reduceEqDiff, Nat.reduceAdd, Nat.reduceLeDiff, Nat.reduceMul, Nat.reduceSub, Int.reduceLE, Int.reduceLT, Int.reduceEq, Int.reduceToNat, Int.reducePow, Int.reduceNeg, hb])
    | (refine dGateK_split (fun hb => ?_) (fun hb => ?_) <;> simp -implicitDefEqProofs only [go_sem, ↓reduceIte, Nat.reduceEqDiff, Nat.reduceAdd, Nat.reduceLeDiff, Nat.reduceMul, Nat.reduceSub, Int.reduceLE, Int.reduceLT, Int.reduceEq, Int.reduceToNat, Int.reducePow, Int.reduceNeg, hb])
    | (refine callK_pure (k) rfl rfl ?_; simp -implicitDefEqProofs only [go_sem, ↓reduceIte, Nat.reduceEqDiff, Nat.reduceAdd, Nat.reduceLeDiff, Nat.reduceMul, Nat.reduceSub, Int.reduceLE, Int.reduceLT, Int.reduceEq, Int.reduceToNat, Int.reducePow, Int.reduceNeg])
    | (refine dCallK_pure (k) rfl rfl ?_; simp -implicitDefEqProofs only [go_sem, ↓reduceIte, Nat.reduceEqDiff, Nat.reduceAdd, Nat.reduceLeDiff, Nat.reduceMul, Nat.reduceSub, Int.reduceLE, Int.reduceLT, Int.reduceEq, Int.reduceToNat, Int.reducePow, Int.reduceNeg])
    | (rw [if_pos (by (try simp only [List.length_append, List.length_cons, List.length_nil, List.length_map]); omega)]; simp -implicitDefEqProofs only [go_sem, ↓reduceIte, Nat.reduceEqDiff, Nat.reduceAdd, Nat.reduceLeDiff, Nat.reduceMul, Nat.reduceSub, Int.reduceLE, Int.reduceLT, Int.reduceEq, Int.reduceToNat, Int.reducePow, Int.reduceNeg]))
  refine hK _ ?_; clear hK
  refine bwp_seq fun K hK => bwp_region rfl ?_
  simp -implicitDefEqProofs only [go_sem, ↓reduceIte, Nat.reduceEqDiff, Nat.reduceAdd, Nat.reduceLeDiff, Nat.reduceMul, Nat.reduceSub, Int.reduceLE, Int.reduceLT, Int.reduceEq, Int.reduceToNat, Int.reducePow, Int.reduceNeg]
  refine hK _ ?_; clear hK
  refine bwp_ret ?_
  simp only [go_sem]
  refine aend_ret _ rfl rfl ⟨?_, rfl⟩
  simp [fget]

end Go.Proofs.YtpfbljkfbjjlkaaDoor

/- ParseWords comes to true. -/
namespace Go.Proofs.YtpfbljkfbjjlkaaDoor
open Go Go.Jq
set_option maxRecDepth 100000
set_option linter.unusedSimpArgs false

def pwPre : List UInt8 := [116, 101, 115, 116, 32]
def pwPost : List UInt8 := [32, 123, 32, 116, 104, 114, 101, 97, 100, 32, 123, 32, 125, 32, 125]
def pwWs : List (List UInt8) := [[116, 101, 115, 116], [116, 104, 114, 101, 97, 100], [115, 116, 111, 114, 101], [101, 120, 105, 115, 116, 115], [120], [114, 48]]
def pwC : List AV := pwWs.map fun x => .d (.str x)

theorem pw_at {i : Nat} (hi : i < 6) : pwC[i]? = some (.d (.str (pwWs.getD i []))) ∧ pTest (pwPre ++ pwWs.getD i [] ++ pwPost) = .ok ⟨pwWs.getD i [], [], [[]], 0, []⟩ ∧ (pwWs.getD i []).length ≤ 6 := by
  have key : ∀ q : Fin 6, pwC[q.1]? = some (.d (.str (pwWs.getD q.1 []))) ∧ pTest (pwPre ++ pwWs.getD q.1 [] ++ pwPost) = .ok ⟨pwWs.getD q.1 [], [], [[]], 0, []⟩ ∧ (pwWs.getD q.1 []).length ≤ 6 := by
    intro q
    match q with
    | ⟨0, _⟩ => exact ⟨rfl, by kernel_rfl, Nat.le_of_ble_eq_true rfl⟩
    | ⟨1, _⟩ => exact ⟨rfl, by kernel_rfl, Nat.le_of_ble_eq_true rfl⟩
    | ⟨2, _⟩ => exact ⟨rfl, by kernel_rfl, Nat.le_of_ble_eq_true rfl⟩
    | ⟨3, _⟩ => exact ⟨rfl, by kernel_rfl, Nat.le_of_ble_eq_true rfl⟩
    | ⟨4, _⟩ => exact ⟨rfl, by kernel_rfl, Nat.le_of_ble_eq_true rfl⟩
    | ⟨5, _⟩ => exact ⟨rfl, by kernel_rfl, Nat.le_of_ble_eq_true rfl⟩
  exact key ⟨i, hi⟩

def pwS (c : List DV) (e1 e2 : Int) (i : Nat) : St := ⟨[(31, .d (.int .i64 i)), (30, .d (.int .i64 6)), (29, .sl 4 1 0 6), (3, .ptr 0 0), (4, .ptr 1 0), (5, .ptr 2 0), (6, .ptr 3 0)], [(0, c.map .d), (1, [.d (.int .i64 e1), .d (.int .i64 e2)]), (2, c.map .d), (3, [.d (.int .i64 e1), .d (.int .i64 e2)]), (4, pwC)], 5⟩

set_option maxHeartbeats 8000000 in
theorem pw_loop {nm : List UInt8} {I T A : DV} {kd e1 e2 : Int} {Q : Exit → St → Prop} (hQ : Q (.exit 0) (pwS [.str nm, I, T, .int .i64 kd, A] e1 e2 6)) :
    BWP Tryd.prog (mbound []) Tryd.f11.ntmps (.loop ac11L0) (pwS [.str nm, I, T, .int .i64 kd, A] e1 e2 0) Q := by
  refine bwp_countI (fun i => pwS [.str nm, I, T, .int .i64 kd, A] e1 e2 i) (fun _ => True) 6 trivial ?_
  intro i hi _
  unfold ac11L0 pwS
  have hren : ∀ f, renL f pwC = pwC := fun _ => rfl
  by_cases hlt : i < 6
  · have hlt' : (i : Int) < 6 := by omega
    have hi0 : (0 : Int) ≤ (i : Int) := Int.natCast_nonneg _
    have hw2 : IntKind.i64.wrap ((i : Int) + 1) = ((i + 1 : Nat) : Int) := by rw [wrap_i64 (by omega) (by omega)]; rfl
    obtain ⟨hcell, hp, hlen⟩ := pw_at hlt
    generalize pwWs.getD i [] = w at hcell hp hlen
    have hln : (pwPre ++ w ++ pwPost).length ≤ maxLen := by
      have : maxLen = 9223372036854775807 := rfl
      simp only [pwPre, pwPost, List.length_append, List.length_cons, List.length_nil]
      omega
    have k := parse1_pure hln
    rw [hp] at k
    simp only [parseV, testD, slD, thrD, thrC, rowsD, rowsC, pwPre, pwPost, List.length_cons, List.length_nil, List.flatMap_nil, List.map_cons, List.map_nil, Nat.zero_add] at k
    refine bwp_seq fun K hK => bwp_region rfl ?_
    simp only [go_sem, ↓reduceIte, Nat.reduceEqDiff, Nat.reduceAdd, hlt']
    refine hK _ ?_; clear hK
    refine bwp_seq fun K1 hK1 => ?_
    refine bwp_cond true (by simp [ev, fget]) (fun _ => ?_) (fun h => nomatch h)
    refine bwp_skip ?_
    refine hK1 _ ?_; clear hK1
    refine bwp_seq fun K1 hK1 => ?_
    refine bwp_block ?_
    refine bwp_seq fun K hK => bwp_region rfl ?_
    simp only [go_sem, ↓reduceIte, Nat.reduceEqDiff, Nat.reduceAdd, hi0, hlt', hlt, Int.toNat_natCast, Nat.mul_one, Nat.zero_add, Nat.add_zero, List.getElem?_drop, hcell, Option.map_some]
    refine hK _ ?_; clear hK
    refine bwp_seq fun K hK => bwp_region rfl ?_
    simp only [go_sem, ↓reduceIte, Nat.reduceEqDiff, Nat.reduceAdd]
    repeat' (first
      | (refine gateK_split (fun hb => ?_) (fun hb => ?_) <;> simp only [go_sem, ↓reduceIte, Nat.reduceEqDiff, Nat.reduceAdd, hb])
      | (refine dGateK_split (fun hb => ?_) (fun hb => ?_) <;> simp only [go_sem, ↓reduceIte, Nat.reduceEqDiff, Nat.reduceAdd, hb])
      | (refine callK_pure (k) rfl rfl ?_; simp only [go_sem, ↓reduceIte, Nat.reduceEqDiff, Nat.reduceAdd])
      | (refine dCallK_pure (k) rfl rfl ?_; simp only [go_sem, ↓reduceIte, Nat.reduceEqDiff, Nat.reduceAdd])
      | (rw [if_pos (by (try simp only [List.length_append, List.length_cons, List.length_nil, List.length_map]); omega)]; simp only [go_sem, ↓reduceIte, Nat.reduceEqDiff, Nat.reduceAdd]))
    refine hK _ ?_; clear hK
    refine bwp_seq fun K hK => bwp_region rfl ?_
    simp only [go_sem, ↓reduceIte, Nat.reduceEqDiff, Nat.reduceAdd]
    refine hK _ ?_; clear hK
    refine bwp_cond false (by simp [ev, fget]) (fun h => nomatch h) (fun _ => ?_)
    refine bwp_skip ?_
    refine hK1 _ ?_; clear hK1
    refine bwp_region rfl ?_
    simp only [go_sem, ↓reduceIte, Nat.reduceEqDiff, Nat.reduceAdd, hw2]
    refine ⟨hlt, Leads.ent [(0, 0), (1, 1), (2, 2), (3, 3), (4, 4)] ⟨by simp [pwS, entT, fget, AV.ren, renL, pget], by simp [pwS, entM, pinv, mget, renL, AV.ren, pget, hren], rfl, rfl⟩⟩
  · have hlt' : ¬ (i : Int) < 6 := by omega
    have hin : i = 6 := by omega
    subst hin
    refine bwp_seq fun K hK => bwp_region rfl ?_
    simp only [go_sem, ↓reduceIte, Nat.reduceEqDiff, Nat.reduceAdd, hlt']
    refine hK _ ?_; clear hK
    refine bwp_seq fun K1 hK1 => ?_
    refine bwp_cond false (by simp [ev, fget]) (fun h => nomatch h) (fun _ => ?_)
    refine bwp_leads (S' := pwS [.str nm, I, T, .int .i64 kd, A] e1 e2 6) (Leads.ent [(0, 0), (1, 1), (2, 2), (3, 3), (4, 4)] ⟨by simp [entT, fget, AV.ren, renL, pget, pwS, hren], by simp [entM, pinv, mget, mset, renL, AV.ren, pget, renL_append, -List.map_map, pwS, hren], rfl, rfl⟩) ?_
    exact bwp_exit hQ

set_option maxHeartbeats 8000000 in
theorem parseWords_pure {s : List UInt8} (hs : s.length ≤ maxLen) : Pure Tryd.prog 11 [.d (.str s)] (.d (.bool true)) := by
  have hm : maxLen = 9223372036854775807 := rfl
  have haw := awake3_pure
  refine acalls_of Tryd.func11 ac11_ok Tryd.ntmps11 Tryd.results11 rfl ?_
  unfold ac11
  refine bwp_seq fun K hK => bwp_region rfl ?_
  simp only [go_sem, ↓reduceIte, Nat.reduceEqDiff, Nat.reduceAdd]
  refine hK _ ?_; clear hK
  refine bwp_seq fun K1 hK1 => ?_
  by_cases hl : 200 < s.length
  · have hl' : (200 : Int) < s.length := by omega
    refine bwp_seq fun K hK => bwp_region rfl ?_
    simp only [go_sem, ↓reduceIte, Nat.reduceEqDiff, Nat.reduceAdd, eq_true hl', decide_true]
    refine hK _ ?_; clear hK
    refine bwp_cond true (by simp [ev, fget]) (fun _ => ?_) (fun h => nomatch h)
    refine bwp_seq fun K hK => bwp_region rfl ?_
    simp only [go_sem, ↓reduceIte, Nat.reduceEqDiff, Nat.reduceAdd]
    repeat' (first
      | (refine gateK_split (fun hb => ?_) (fun hb => ?_) <;> simp only [go_sem, ↓reduceIte, Nat.reduceEqDiff, Nat.reduceAdd, hb])
      | (refine dGateK_split (fun hb => ?_) (fun hb => ?_) <;> simp only [go_sem, ↓reduceIte, Nat.reduceEqDiff, Nat.reduceAdd, hb])
      | (refine callK_pure (haw) rfl rfl ?_; simp only [go_sem, ↓reduceIte, Nat.reduceEqDiff, Nat.reduceAdd])
      | (refine dCallK_pure (haw) rfl rfl ?_; simp only [go_sem, ↓reduceIte, Nat.reduceEqDiff, Nat.reduceAdd])
      | (rw [if_pos (by (try simp only [List.length_append, List.length_cons, List.length_nil, List.length_map]); omega)]; simp only [go_sem, ↓reduceIte, Nat.reduceEqDiff, Nat.reduceAdd]))
    refine hK _ ?_; clear hK
    refine bwp_ret ?_
    simp only [go_sem]
    refine aend_ret _ rfl rfl ⟨?_, rfl⟩
    simp [fget]
  · have hl' : ¬ (200 : Int) < s.length := by omega
    refine bwp_seq fun K hK => bwp_region rfl ?_
    simp only [go_sem, ↓reduceIte, Nat.reduceEqDiff, Nat.reduceAdd, eq_false hl', decide_false]
    refine hK _ ?_; clear hK
    refine bwp_cond false (by simp [ev, fget]) (fun h => nomatch h) (fun _ => ?_)
    refine bwp_skip ?_
    refine hK1 _ ?_; clear hK1
    have hln : (pwPre ++ s ++ pwPost).length ≤ maxLen := by
      simp only [pwPre, pwPost, List.length_append, List.length_cons, List.length_nil]
      omega
    have k1 := parse2_pure hln
    have k2 := tree2_pure hln
    have k3 := refSame_pure (isTest_p (pwPre ++ s ++ pwPost)) (isTest_p (pwPre ++ s ++ pwPost))
    rw [(sameB_iff _ _).2 rfl] at k3
    obtain ⟨I, T, A, hc⟩ := pCells_split (pTest (pwPre ++ s ++ pwPost))
    rw [hc] at k1 k2 k3
    generalize (pT (pTest (pwPre ++ s ++ pwPost))).name = nm at *
    generalize (pT (pTest (pwPre ++ s ++ pwPost))).kind = kd at *
    generalize pCode (pTest (pwPre ++ s ++ pwPost)) = e1 at *
    generalize ((pAt (pTest (pwPre ++ s ++ pwPost)) : Nat) : Int) = e2 at *
    simp only [pwPre, pwPost, List.map_cons, List.map_nil] at k1 k2 k3
    refine bwp_seq fun K hK => bwp_region rfl ?_
    simp only [go_sem, ↓reduceIte, Nat.reduceEqDiff, Nat.reduceAdd]
    repeat' (first
      | (refine gateK_split (fun hb => ?_) (fun hb => ?_) <;> simp only [go_sem, ↓reduceIte, Nat.reduceEqDiff, Nat.reduceAdd, hb])
      | (refine dGateK_split (fun hb => ?_) (fun hb => ?_) <;> simp only [go_sem, ↓reduceIte, Nat.reduceEqDiff, Nat.reduceAdd, hb])
      | (refine callK_pure (k1) rfl rfl ?_; simp only [go_sem, ↓reduceIte, Nat.reduceEqDiff, Nat.reduceAdd])
      | (refine dCallK_pure (k1) rfl rfl ?_; simp only [go_sem, ↓reduceIte, Nat.reduceEqDiff, Nat.reduceAdd])
      | (rw [if_pos (by (try simp only [List.length_append, List.length_cons, List.length_nil, List.length_map]); omega)]; simp only [go_sem, ↓reduceIte, Nat.reduceEqDiff, Nat.reduceAdd]))
    refine hK _ ?_; clear hK
    refine bwp_seq fun K hK => bwp_region rfl ?_
    simp only [go_sem, ↓reduceIte, Nat.reduceEqDiff, Nat.reduceAdd]
    repeat' (first
      | (refine gateK_split (fun hb => ?_) (fun hb => ?_) <;> simp only [go_sem, ↓reduceIte, Nat.reduceEqDiff, Nat.reduceAdd, hb])
      | (refine dGateK_split (fun hb => ?_) (fun hb => ?_) <;> simp only [go_sem, ↓reduceIte, Nat.reduceEqDiff, Nat.reduceAdd, hb])
      | (refine callK_pure (k2) rfl rfl ?_; simp only [go_sem, ↓reduceIte, Nat.reduceEqDiff, Nat.reduceAdd])
      | (refine dCallK_pure (k2) rfl rfl ?_; simp only [go_sem, ↓reduceIte, Nat.reduceEqDiff, Nat.reduceAdd])
      | (rw [if_pos (by (try simp only [List.length_append, List.length_cons, List.length_nil, List.length_map]); omega)]; simp only [go_sem, ↓reduceIte, Nat.reduceEqDiff, Nat.reduceAdd]))
    refine hK _ ?_; clear hK
    refine bwp_seq fun K1 hK1 => ?_
    refine bwp_seq fun K hK => bwp_region rfl ?_
    simp only [go_sem, ↓reduceIte, Nat.reduceEqDiff, Nat.reduceAdd, Nat.reduceLeDiff, Nat.reduceMul, Int.reduceEq]
    refine hK _ ?_; clear hK
    refine bwp_block ?_
    refine bwp_leads (S' := pwS [.str nm, I, T, .int .i64 kd, A] e1 e2 0) (Leads.ent [(0, 0), (1, 1), (2, 2), (3, 3), (4, 4)] ⟨by simp [entT, fget, AV.ren, renL, pget, pwS, pwC, pwWs], by simp [entM, pinv, mget, mset, renL, AV.ren, pget, renL_append, -List.map_map, pwS, pwC, pwWs], rfl, rfl⟩) ?_
    refine pw_loop ?_
    unfold pwS
    simp only [go_sem, ↓reduceIte, Nat.reduceEqDiff, Nat.reduceAdd]
    refine hK1 _ ?_; clear hK1
    refine bwp_seq fun K hK => bwp_region rfl ?_
    simp only [go_sem, ↓reduceIte, Nat.reduceEqDiff, Nat.reduceAdd]
    repeat' (first
      | (refine gateK_split (fun hb => ?_) (fun hb => ?_) <;> simp only [go_sem, ↓reduceIte, Nat.reduceEqDiff, Nat.reduceAdd, hb])
      | (refine dGateK_split (fun hb => ?_) (fun hb => ?_) <;> simp only [go_sem, ↓reduceIte, Nat.reduceEqDiff, Nat.reduceAdd, hb])
      | (refine callK_pure (k3) rfl rfl ?_; simp only [go_sem, ↓reduceIte, Nat.reduceEqDiff, Nat.reduceAdd])
      | (refine dCallK_pure (k3) rfl rfl ?_; simp only [go_sem, ↓reduceIte, Nat.reduceEqDiff, Nat.reduceAdd])
      | (refine callK_pure (haw) rfl rfl ?_; simp only [go_sem, ↓reduceIte, Nat.reduceEqDiff, Nat.reduceAdd])
      | (refine dCallK_pure (haw) rfl rfl ?_; simp only [go_sem, ↓reduceIte, Nat.reduceEqDiff, Nat.reduceAdd])
      | (rw [if_pos (by (try simp only [List.length_append, List.length_cons, List.length_nil, List.length_map]); omega)]; simp only [go_sem, ↓reduceIte, Nat.reduceEqDiff, Nat.reduceAdd]))
    refine hK _ ?_; clear hK
    refine bwp_ret ?_
    simp only [go_sem]
    refine aend_ret _ rfl rfl ⟨?_, rfl⟩
    simp [fget]

end Go.Proofs.YtpfbljkfbjjlkaaDoor
