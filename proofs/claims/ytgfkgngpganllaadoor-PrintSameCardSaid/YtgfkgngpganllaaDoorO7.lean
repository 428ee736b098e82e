/- PrintSame comes to true, whatever it is given. -/
import Derived.Test.YtgfkgngpganllaaDoorO5
import Derived.Test.YtgfkgngpganllaaDoorO6
import Derived.Test.YtgfkgngpganllaaDoorP8
import Derived.Test.YtgfkgngpganllaaDoorV3
namespace Go.Proofs.YtgfkgngpganllaaDoor
open Go Go.Jq
set_option maxRecDepth 100000
set_option linter.unusedSimpArgs false

theorem sls_cells {α : Type} {enc : α → List DV} {w : Nat} (hk : ∀ a, (enc a).length = w) (l : List α) : (l.flatMap enc).take (l.length * w) = l.flatMap enc := by
  refine List.take_of_length_le ?_
  induction l with
  | nil => simp
  | cons a l ih =>
    simp only [List.flatMap_cons, List.length_append, List.length_cons, Nat.succ_mul, hk]
    omega

/-- The state in PrintSame: the other test's cells own. -/
def psS (cs : List DV) (ni N l0 : Nat) (kd : Int) (Av : DV) (ds e5 ei : List DV) (kind : Int) : St :=
  ⟨[(5, .ptr 0 0), (6, .ptr 1 0), (1, .d (.int .i64 kind))], [(0, cs.map .d), (1, [.d (.str [116]), .sl 4 2 0 ni, .sl 2 1 0 N, .d (.int .i64 kd), .d Av]), (2, .sl 3 9 0 l0 :: ds.map .d), (3, e5.map .d), (4, ei.map .d)], 5⟩

/-- Behind the turn. -/
def pqS (cs cu : List DV) : St := ⟨[(5, .ptr 0 0), (6, .ptr 1 0)], [(0, cs.map .d), (1, cu.map .d)], 2⟩

set_option maxHeartbeats 8000000 in
theorem printSame_pure {ls : List Int} {X : DV} (hX : IsInts ls X) {kind : Int} (hkd : I64 kind) : Pure Tryd.prog 6 [.d X, .d (.int .i64 kind)] (.d (.bool true)) := by
  have hf := small_few ls 8
  have hnm : (small ls 8).name = [116] := rfl
  refine acalls_of Tryd.func6 ac6_ok Tryd.ntmps6 Tryd.results6 rfl ?_
  unfold ac6
  refine bwp_seq fun K hK => bwp_region rfl ?_
  simp -implicitDefEqProofs only [go_sem, ↓reduceIte, Nat.reduceEqDiff, Nat.reduceAdd, Nat.reduceLeDiff, Nat.reduceMul, Nat.reduceSub, Int.reduceLE, Int.reduceLT, Int.reduceEq, Int.reduceToNat, Int.reducePow, Int.reduceNeg]
  refine hK _ ?_; clear hK
  refine bwp_seq fun K hK => bwp_region rfl ?_
  simp -implicitDefEqProofs only [go_sem, ↓reduceIte, Nat.reduceEqDiff, Nat.reduceAdd, Nat.reduceLeDiff, Nat.reduceMul, Nat.reduceSub, Int.reduceLE, Int.reduceLT, Int.reduceEq, Int.reduceToNat, Int.reducePow, Int.reduceNeg]
  refine callK_pureQ (small_calls hX (most := 8) (by omega)) rfl (fun v ⟨cs, h, _⟩ => by subst h; exact inL_data cs) ?_
  rintro v ⟨cs, rfl, hT⟩
  have hT1 := hT
  obtain ⟨I, T, A, rfl, hI, hTh, hA⟩ := hT1
  simp -implicitDefEqProofs only [go_sem, ↓reduceIte, Nat.reduceEqDiff, Nat.reduceAdd, Nat.reduceLeDiff, Nat.reduceMul, Nat.reduceSub, Int.reduceLE, Int.reduceLT, Int.reduceEq, Int.reduceToNat, Int.reducePow, Int.reduceNeg]
  refine callK_gen [] [.d X, .d (.int .i64 (8 : Nat))] [] (nb := 0) (small_own hX (by omega)) rfl rfl rfl trivial rfl ?_
  rintro r0 m' ⟨s0, ts', ds, Av, h1, hd, hAv, rfl, rfl⟩
  have hth : (small ls 8).threads.length = ts'.length + 1 := by rw [h1]; rfl
  have hdl := hd.length
  generalize hs5 : s0.flatMap Ins.cells = e5
  generalize hsi : (small ls 8).inits.flatMap Init.cells = ei
  have htk0 : e5.take (s0.length * 9) = e5 := by rw [← hs5]; exact sls_cells ins_len s0
  have htki : ei.take ((small ls 8).inits.length * 2) = ei := by rw [← hsi]; exact sls_cells init_len _
  simp -implicitDefEqProofs only [go_sem, ↓reduceIte, Nat.reduceEqDiff, Nat.reduceAdd, Nat.reduceLeDiff, Nat.reduceMul, Nat.reduceSub, Int.reduceLE, Int.reduceLT, Int.reduceEq, Int.reduceToNat, Int.reducePow, Int.reduceNeg, ownV, ownM, callMem, updNew, updOld, mget, mset, renOf, pget, renL, AV.ren, Option.isSome_some, Option.isSome_none, Bool.and_self, Bool.false_and, renL_d, mbound, List.foldr_cons, List.foldr_nil, Nat.max_def]
  refine hK _ ?_; clear hK
  have hni : (small ls 8).inits.length ≤ 1 := (small_goodTest ls 8).once
  have hN3 : (small ls 8).threads.length ≤ 3 := by rw [small_len]; exact smallN_le ls
  have hIu : IsSl Init.cells (small ls 8).inits (.sl (small ls 8).inits.length ei) := ⟨by omega, .inr (by rw [hsi])⟩
  have hs6 : s0.length ≤ 6 := ((small_goodTest ls 8).threads s0 (by rw [h1]; simp)).len
  have hSu : IsSls Ins.cells (small ls 8).threads (.sl s0.length e5 :: ds) := by
    rw [h1]
    exact ⟨⟨by omega, .inr (by rw [hs5])⟩, hd⟩
  have hTu : IsSl2 Ins.cells (small ls 8).threads (.sl (small ls 8).threads.length (.sl s0.length e5 :: ds)) :=
    ⟨.sl s0.length e5 :: ds, ⟨by simp only [List.length_cons]; omega, .inr (by rw [flatMap_one]; simp [hth, hdl])⟩, hSu⟩
  have hU0 : IsTest (small ls 8) [.str [116], .sl (small ls 8).inits.length ei, .sl (small ls 8).threads.length (.sl s0.length e5 :: ds), .int .i64 (small ls 8).kind, Av] := ⟨_, _, _, rfl, hIu, hTu, hAv⟩
  have htkN : (DV.sl s0.length e5 :: ds).take ((small ls 8).threads.length * 1) = DV.sl s0.length e5 :: ds := by
    refine List.take_of_length_le ?_
    simp only [List.length_cons]; omega
  have hT' := hT
  generalize hcs : [DV.str (small ls 8).name, I, T, DV.int IntKind.i64 (small ls 8).kind, A] = cs at hT'
  refine bwp_leads (S' := psS cs (small ls 8).inits.length (small ls 8).threads.length s0.length (small ls 8).kind Av ds e5 ei kind) (Leads.ent [(3, 0), (4, 1), (0, 2), (1, 3), (2, 4)] ⟨by simp [entT, fget, AV.ren, renL, pget, psS, ← hcs], by simp [entM, pinv, mget, mset, renL, AV.ren, pget, renL_append, -List.map_map, psS, ← hcs], rfl, rfl⟩) ?_
  have hap1 := apart_name ls 8
  have hap2 := apart_threads ls 8
  have hap3 := apart_inits ls 8
  have hap4 := apart_cond ls 8
  have hsame := same_pure hT' hU0
  rw [(sameB_iff (small ls 8) (small ls 8)).2 rfl] at hsame
  generalize hts : small ls 8 = t at *
  -- behind the turn
  have fin : ∀ (u : Test) (cu : List DV), IsTest u cu → Apart t u → ∀ (S : St) (K : St → Prop), Leads (mbound []) 70 S (pqS cs cu) →
      (∀ S', BWP Tryd.prog (mbound []) 70 (dropSeq 4 ac6) S' (AEnd Tryd.prog #[.tmp 4] (mbound []) fun r m' => r = .d (.bool true) ∧ m' = []) → K S') → K S := by
    intro u cu hU hap S K hS hK
    refine hK _ ?_; clear hK
    refine bwp_leads hS ?_
    have k1 := same_pure hT' hU
    have k2 := same_pure hU hT'
    rw [same_ne hap.ne] at k1
    rw [same_ne (fun h => hap.ne h.symm)] at k2
    have k3 := test_pure hT' hf
    have k4 := test_pure hU hap.few
    have k5 := refPrint_pure hU hap.few
    have hne := hap.text
    obtain ⟨I1, T1, A1, rfl, _⟩ := hT'
    obtain ⟨I2, T2, A2, rfl, _⟩ := hU
    unfold ac6 pqS
    simp only [dropSeq, List.map_cons, List.map_nil] at k1 k2 k3 k4 k5 ⊢
    refine bwp_seq fun K hK => bwp_region_draw rfl rfl ?_
    simp -implicitDefEqProofs only [go_sem, ↓reduceIte, Nat.reduceEqDiff, Nat.reduceAdd, Nat.reduceLeDiff, Nat.reduceMul, Nat.reduceSub, Int.reduceLE, Int.reduceLT, Int.reduceEq, Int.reduceToNat, Int.reducePow, Int.reduceNeg]
    repeat' (first
      | (refine gateK_split (fun hb => ?_) (fun hb => ?_) <;> simp -implicitDefEqProofs only [go_sem, ↓reduceIte, Nat.reduceEqDiff, Nat.reduceAdd, Nat.reduceLeDiff, Nat.reduceMul, Nat.reduceSub, Int.reduceLE, Int.reduceLT, Int.reduceEq, Int.reduceToNat, Int.reducePow, Int.reduceNeg, hb, hne])
      | (refine dGateK_split (fun hb => ?_) (fun hb => ?_) <;> simp -implicitDefEqProofs only [go_sem, ↓reduceIte, Nat.reduceEqDiff, Nat.reduceAdd, Nat.reduceLeDiff, Nat.reduceMul, Nat.reduceSub, Int.reduceLE, Int.reduceLT, Int.reduceEq, Int.reduceToNat, Int.reducePow, Int.reduceNeg, hb, hne])
      | (refine callK_pure (k1) rfl rfl ?_; simp -implicitDefEqProofs only [go_sem, ↓reduceIte, Nat.reduceEqDiff, Nat.reduceAdd, Nat.reduceLeDiff, Nat.reduceMul, Nat.reduceSub, Int.reduceLE, Int.reduceLT, Int.reduceEq, Int.reduceToNat, Int.reducePow, Int.reduceNeg, hne])
      | (refine dCallK_pure (k1) rfl rfl ?_; simp -implicitDefEqProofs only [go_sem, ↓reduceIte, Nat.reduceEqDiff, Nat.reduceAdd, Nat.reduceLeDiff, Nat.reduceMul, Nat.reduceSub, Int.reduceLE, Int.reduceLT, Int.reduceEq, Int.reduceToNat, Int.reducePow, Int.reduceNeg, hne])
      | (refine callK_pure (k2) rfl rfl ?_; simp -implicitDefEqProofs only [go_sem, ↓reduceIte, Nat.reduceEqDiff, Nat.reduceAdd, Nat.reduceLeDiff, Nat.reduceMul, Nat.reduceSub, Int.reduceLE, Int.reduceLT, Int.reduceEq, Int.reduceToNat, Int.reducePow, Int.reduceNeg, hne])
      | (refine dCallK_pure (k2) rfl rfl ?_; simp -implicitDefEqProofs only [go_sem, ↓reduceIte, Nat.reduceEqDiff, Nat.reduceAdd, Nat.reduceLeDiff, Nat.reduceMul, Nat.reduceSub, Int.reduceLE, Int.reduceLT, Int.reduceEq, Int.reduceToNat, Int.reducePow, Int.reduceNeg, hne])
      | (refine callK_pure (k3) rfl rfl ?_; simp -implicitDefEqProofs only [go_sem, ↓reduceIte, Nat.reduceEqDiff, Nat.reduceAdd, Nat.reduceLeDiff, Nat.reduceMul, Nat.reduceSub, Int.reduceLE, Int.reduceLT, Int.reduceEq, Int.reduceToNat, Int.reducePow, Int.reduceNeg, hne])
      | (refine dCallK_pure (k3) rfl rfl ?_; simp -implicitDefEqProofs only [go_sem, ↓reduceIte, Nat.reduceEqDiff, Nat.reduceAdd, Nat.reduceLeDiff, Nat.reduceMul, Nat.reduceSub, Int.reduceLE, Int.reduceLT, Int.reduceEq, Int.reduceToNat, Int.reducePow, Int.reduceNeg, hne])
      | (refine callK_pure (k4) rfl rfl ?_; simp -implicitDefEqProofs only [go_sem, ↓reduceIte, Nat.reduceEqDiff, Nat.reduceAdd, Nat.reduceLeDiff, Nat.reduceMul, Nat.reduceSub, Int.reduceLE, Int.reduceLT, Int.reduceEq, Int.reduceToNat, Int.reducePow, Int.reduceNeg, hne])
      | (refine dCallK_pure (k4) rfl rfl ?_; simp -implicitDefEqProofs only [go_sem, ↓reduceIte, Nat.reduceEqDiff, Nat.reduceAdd, Nat.reduceLeDiff, Nat.reduceMul, Nat.reduceSub, Int.reduceLE, Int.reduceLT, Int.reduceEq, Int.reduceToNat, Int.reducePow, Int.reduceNeg, hne])
      | (refine callK_pure (k5) rfl rfl ?_; simp -implicitDefEqProofs only [go_sem, ↓reduceIte, Nat.reduceEqDiff, Nat.reduceAdd, Nat.reduceLeDiff, Nat.reduceMul, Nat.reduceSub, Int.reduceLE, Int.reduceLT, Int.reduceEq, Int.reduceToNat, Int.reducePow, Int.reduceNeg, hne])
      | (refine dCallK_pure (k5) rfl rfl ?_; simp -implicitDefEqProofs only [go_sem, ↓reduceIte, Nat.reduceEqDiff, Nat.reduceAdd, Nat.reduceLeDiff, Nat.reduceMul, Nat.reduceSub, Int.reduceLE, Int.reduceLT, Int.reduceEq, Int.reduceToNat, Int.reducePow, Int.reduceNeg, hne])
      | (refine callK_pure (awake_pure) rfl rfl ?_; simp -implicitDefEqProofs only [go_sem, ↓reduceIte, Nat.reduceEqDiff, Nat.reduceAdd, Nat.reduceLeDiff, Nat.reduceMul, Nat.reduceSub, Int.reduceLE, Int.reduceLT, Int.reduceEq, Int.reduceToNat, Int.reducePow, Int.reduceNeg, hne])
      | (refine dCallK_pure (awake_pure) rfl rfl ?_; simp -implicitDefEqProofs only [go_sem, ↓reduceIte, Nat.reduceEqDiff, Nat.reduceAdd, Nat.reduceLeDiff, Nat.reduceMul, Nat.reduceSub, Int.reduceLE, Int.reduceLT, Int.reduceEq, Int.reduceToNat, Int.reducePow, Int.reduceNeg, hne])
      | (rw [if_pos (by (try simp only [List.length_append, List.length_cons, List.length_nil, List.length_map]); omega)]; simp -implicitDefEqProofs only [go_sem, ↓reduceIte, Nat.reduceEqDiff, Nat.reduceAdd, Nat.reduceLeDiff, Nat.reduceMul, Nat.reduceSub, Int.reduceLE, Int.reduceLT, Int.reduceEq, Int.reduceToNat, Int.reducePow, Int.reduceNeg, hne]))
    refine ⟨rfl, hK _ ?_⟩; clear hK
    refine bwp_ret ?_
    simp only [go_sem]
    refine aend_ret _ rfl rfl ⟨?_, rfl⟩
    simp [fget]
  subst hcs
  obtain ⟨q, hq3, hq⟩ := bits_and_le kind 3 (by omega)
  have hq' : bits .and .i64 kind 3 = (q : Int) := hq
  unfold psS
  simp only [List.map_cons, List.map_nil] at hsame ⊢
  refine bwp_seq fun K1 hK1 => ?_
  refine bwp_seq fun K hK => bwp_region rfl ?_
  simp -implicitDefEqProofs only [go_sem, ↓reduceIte, Nat.reduceEqDiff, Nat.reduceAdd, Nat.reduceLeDiff, Nat.reduceMul, Nat.reduceSub, Int.reduceLE, Int.reduceLT, Int.reduceEq, Int.reduceToNat, Int.reducePow, Int.reduceNeg]
  refine callK_lend [(3, e5), (2, .sl s0.length e5 :: ds), (4, ei)] _ hsame ?_ ?_ (fun v h => by subst h; rfl) ?_
  · simp [zokFrom, mget, cvL, AV.cv, zget, cvL_d, htk0]
  · have htkN' := htkN
    rw [Nat.mul_one] at htkN'
    simp [cvL, AV.cv, zget, htki, htkN']
  rintro v rfl
  simp -implicitDefEqProofs only [go_sem, ↓reduceIte, Nat.reduceEqDiff, Nat.reduceAdd, Nat.reduceLeDiff, Nat.reduceMul, Nat.reduceSub, Int.reduceLE, Int.reduceLT, Int.reduceEq, Int.reduceToNat, Int.reducePow, Int.reduceNeg]
  refine hK _ ?_; clear hK
  refine bwp_cond false (by simp [ev, fget]) (fun h => nomatch h) (fun _ => ?_)
  refine bwp_skip ?_
  refine hK1 _ ?_; clear hK1
  refine bwp_seq fun K1 hK1 => ?_
  refine bwp_seq fun K hK => bwp_region rfl ?_
  simp -implicitDefEqProofs only [go_sem, ↓reduceIte, Nat.reduceEqDiff, Nat.reduceAdd, Nat.reduceLeDiff, Nat.reduceMul, Nat.reduceSub, Int.reduceLE, Int.reduceLT, Int.reduceEq, Int.reduceToNat, Int.reducePow, Int.reduceNeg, hq']
  refine hK _ ?_; clear hK
  refine bwp_block ?_
  by_cases c0 : (q : Int) = 0
  · refine bwp_seq fun K hK => bwp_region rfl ?_
    simp -implicitDefEqProofs only [go_sem, ↓reduceIte, Nat.reduceEqDiff, Nat.reduceAdd, Nat.reduceLeDiff, Nat.reduceMul, Nat.reduceSub, Int.reduceLE, Int.reduceLT, Int.reduceEq, Int.reduceToNat, Int.reducePow, Int.reduceNeg, c0]
    refine hK _ ?_; clear hK
    refine bwp_cond true (by simp [ev, fget, c0]) (fun _ => ?_) (fun h => nomatch h)
    refine bwp_region rfl ?_
    simp -implicitDefEqProofs only [go_sem, ↓reduceIte, Nat.reduceEqDiff, Nat.reduceAdd, Nat.reduceLeDiff, Nat.reduceMul, Nat.reduceSub, Int.reduceLE, Int.reduceLT, Int.reduceEq, Int.reduceToNat, Int.reducePow, Int.reduceNeg]
    repeat' (first
      | (refine gateK_split (fun hb => ?_) (fun hb => ?_) <;> simp -implicitDefEqProofs only [go_sem, ↓reduceIte, Nat.reduceEqDiff, Nat.reduceAdd, Nat.reduceLeDiff, Nat.reduceMul, Nat.reduceSub, Int.reduceLE, Int.reduceLT, Int.reduceEq, Int.reduceToNat, Int.reducePow, Int.reduceNeg, hb])
      | (refine dGateK_split (fun hb => ?_) (fun hb => ?_) <;> simp -implicitDefEqProofs only [go_sem, ↓reduceIte, Nat.reduceEqDiff, Nat.reduceAdd, Nat.reduceLeDiff, Nat.reduceMul, Nat.reduceSub, Int.reduceLE, Int.reduceLT, Int.reduceEq, Int.reduceToNat, Int.reducePow, Int.reduceNeg, hb])
      | (rw [if_pos (by (try simp only [List.length_append, List.length_cons, List.length_nil, List.length_map]); omega)]; simp -implicitDefEqProofs only [go_sem, ↓reduceIte, Nat.reduceEqDiff, Nat.reduceAdd, Nat.reduceLeDiff, Nat.reduceMul, Nat.reduceSub, Int.reduceLE, Int.reduceLT, Int.reduceEq, Int.reduceToNat, Int.reducePow, Int.reduceNeg]))
    refine fin (uName t) [.str [116, 120], .sl t.inits.length ei, .sl t.threads.length (.sl s0.length e5 :: ds), .int .i64 t.kind, Av] ?_ hap1 _ K1 ?_ hK1
    · exact ⟨_, _, _, by simp [uName, hnm], hIu, hTu, hAv⟩
    · refine Leads.frz [(0, 0), (1, 1)] [(3, e5), (2, .sl s0.length e5 :: ds), (4, ei)] ⟨?_, ?_, rfl, rfl, ?_⟩
      · simp [pqS, frzT, fget, AV.cv, zget, pget]
      · have htkN' := htkN
        rw [Nat.mul_one] at htkN'
        simp [pqS, frzM, pinv, zget, mget, cvL, AV.cv, cvL_d, htki, htkN']
      · simp [zokFrom, mget, cvL, AV.cv, zget, cvL_d, htk0]
  have heil : ei.length = t.inits.length * 2 := by
    rw [← hsi]
    have : ∀ l : List Init, (l.flatMap Init.cells).length = l.length * 2 := fun l => by
      induction l with
      | nil => rfl
      | cons a l ih => simp only [List.flatMap_cons, List.length_append, List.length_cons, ih, init_len]; omega
    exact this _
  have htkN' := htkN
  rw [Nat.mul_one] at htkN'
  by_cases c1 : (q : Int) = 1
  · refine bwp_seq fun K hK => bwp_region rfl ?_
    simp -implicitDefEqProofs only [go_sem, ↓reduceIte, Nat.reduceEqDiff, Nat.reduceAdd, Nat.reduceLeDiff, Nat.reduceMul, Nat.reduceSub, Int.reduceLE, Int.reduceLT, Int.reduceEq, Int.reduceToNat, Int.reducePow, Int.reduceNeg, c1]
    refine hK _ ?_; clear hK
    refine bwp_cond false (by simp [ev, fget]) (fun h => nomatch h) (fun _ => ?_)
    refine bwp_seq fun K hK => bwp_region rfl ?_
    simp -implicitDefEqProofs only [go_sem, ↓reduceIte, Nat.reduceEqDiff, Nat.reduceAdd, Nat.reduceLeDiff, Nat.reduceMul, Nat.reduceSub, Int.reduceLE, Int.reduceLT, Int.reduceEq, Int.reduceToNat, Int.reducePow, Int.reduceNeg, c1]
    refine hK _ ?_; clear hK
    refine bwp_cond true (by simp [ev, fget, c1]) (fun _ => ?_) (fun h => nomatch h)
    refine bwp_region rfl ?_
    simp -implicitDefEqProofs only [go_sem, ↓reduceIte, Nat.reduceEqDiff, Nat.reduceAdd, Nat.reduceLeDiff, Nat.reduceMul, Nat.reduceSub, Int.reduceLE, Int.reduceLT, Int.reduceEq, Int.reduceToNat, Int.reducePow, Int.reduceNeg]
    repeat' (first
      | (refine gateK_split (fun hb => ?_) (fun hb => ?_) <;> simp -implicitDefEqProofs only [go_sem, ↓reduceIte, Nat.reduceEqDiff, Nat.reduceAdd, Nat.reduceLeDiff, Nat.reduceMul, Nat.reduceSub, Int.reduceLE, Int.reduceLT, Int.reduceEq, Int.reduceToNat, Int.reducePow, Int.reduceNeg, hb])
      | (refine dGateK_split (fun hb => ?_) (fun hb => ?_) <;> simp -implicitDefEqProofs only [go_sem, ↓reduceIte, Nat.reduceEqDiff, Nat.reduceAdd, Nat.reduceLeDiff, Nat.reduceMul, Nat.reduceSub, Int.reduceLE, Int.reduceLT, Int.reduceEq, Int.reduceToNat, Int.reducePow, Int.reduceNeg, hb])
      | (rw [if_pos (by (try simp only [List.length_append, List.length_cons, List.length_nil, List.length_map]); omega)]; simp -implicitDefEqProofs only [go_sem, ↓reduceIte, Nat.reduceEqDiff, Nat.reduceAdd, Nat.reduceLeDiff, Nat.reduceMul, Nat.reduceSub, Int.reduceLE, Int.reduceLT, Int.reduceEq, Int.reduceToNat, Int.reducePow, Int.reduceNeg]))
    have hS2 := hSu.append (l := []) (d := .nsl) ⟨by simp, .inl ⟨rfl, rfl⟩⟩
    have htk2 : ((DV.sl s0.length e5 :: ds) ++ [DV.nsl]).take (t.threads.length + 1) = (DV.sl s0.length e5 :: ds) ++ [DV.nsl] := List.take_of_length_le (by simp; omega)
    refine fin (uThreads t) [.str [116], .sl t.inits.length ei, .sl (t.threads.length + 1) ((.sl s0.length e5 :: ds) ++ [.nsl]), .int .i64 t.kind, Av] ?_ hap2 _ K1 ?_ hK1
    · refine ⟨.sl t.inits.length ei, .sl (t.threads.length + 1) ((.sl s0.length e5 :: ds) ++ [.nsl]), Av, by simp only [uThreads, hnm], hIu, ⟨_, ⟨by simp only [List.length_append, List.length_cons, List.length_nil]; omega, .inr ?_⟩, hS2⟩, hAv⟩
      rw [flatMap_one]; simp [hth, hdl]
    · refine Leads.frz [(0, 0), (1, 1)] [(3, e5), (6, (.sl s0.length e5 :: ds) ++ [.nsl]), (4, ei)] ⟨?_, ?_, rfl, rfl, ?_⟩
      · simp [pqS, frzT, fget, AV.cv, zget, pget]
      · simp at htk2
        simp [pqS, frzM, pinv, zget, mget, cvL, AV.cv, cvL_d, htki, htk2]
      · simp [zokFrom, mget, cvL, AV.cv, zget, cvL_d, htk0, cvL_append]
  by_cases c2 : (q : Int) = 2
  · refine bwp_seq fun K hK => bwp_region rfl ?_
    simp -implicitDefEqProofs only [go_sem, ↓reduceIte, Nat.reduceEqDiff, Nat.reduceAdd, Nat.reduceLeDiff, Nat.reduceMul, Nat.reduceSub, Int.reduceLE, Int.reduceLT, Int.reduceEq, Int.reduceToNat, Int.reducePow, Int.reduceNeg, c2]
    refine hK _ ?_; clear hK
    refine bwp_cond false (by simp [ev, fget]) (fun h => nomatch h) (fun _ => ?_)
    refine bwp_seq fun K hK => bwp_region rfl ?_
    simp -implicitDefEqProofs only [go_sem, ↓reduceIte, Nat.reduceEqDiff, Nat.reduceAdd, Nat.reduceLeDiff, Nat.reduceMul, Nat.reduceSub, Int.reduceLE, Int.reduceLT, Int.reduceEq, Int.reduceToNat, Int.reducePow, Int.reduceNeg, c2]
    refine hK _ ?_; clear hK
    refine bwp_cond false (by simp [ev, fget]) (fun h => nomatch h) (fun _ => ?_)
    refine bwp_seq fun K hK => bwp_region rfl ?_
    simp -implicitDefEqProofs only [go_sem, ↓reduceIte, Nat.reduceEqDiff, Nat.reduceAdd, Nat.reduceLeDiff, Nat.reduceMul, Nat.reduceSub, Int.reduceLE, Int.reduceLT, Int.reduceEq, Int.reduceToNat, Int.reducePow, Int.reduceNeg, c2]
    refine hK _ ?_; clear hK
    refine bwp_cond true (by simp [ev, fget, c2]) (fun _ => ?_) (fun h => nomatch h)
    refine bwp_region rfl ?_
    simp -implicitDefEqProofs only [go_sem, ↓reduceIte, Nat.reduceEqDiff, Nat.reduceAdd, Nat.reduceLeDiff, Nat.reduceMul, Nat.reduceSub, Int.reduceLE, Int.reduceLT, Int.reduceEq, Int.reduceToNat, Int.reducePow, Int.reduceNeg]
    repeat' (first
      | (refine gateK_split (fun hb => ?_) (fun hb => ?_) <;> simp -implicitDefEqProofs only [go_sem, ↓reduceIte, Nat.reduceEqDiff, Nat.reduceAdd, Nat.reduceLeDiff, Nat.reduceMul, Nat.reduceSub, Int.reduceLE, Int.reduceLT, Int.reduceEq, Int.reduceToNat, Int.reducePow, Int.reduceNeg, hb])
      | (refine dGateK_split (fun hb => ?_) (fun hb => ?_) <;> simp -implicitDefEqProofs only [go_sem, ↓reduceIte, Nat.reduceEqDiff, Nat.reduceAdd, Nat.reduceLeDiff, Nat.reduceMul, Nat.reduceSub, Int.reduceLE, Int.reduceLT, Int.reduceEq, Int.reduceToNat, Int.reducePow, Int.reduceNeg, hb])
      | (rw [if_pos (by (try simp only [List.length_append, List.length_cons, List.length_nil, List.length_map]); omega)]; simp -implicitDefEqProofs only [go_sem, ↓reduceIte, Nat.reduceEqDiff, Nat.reduceAdd, Nat.reduceLeDiff, Nat.reduceMul, Nat.reduceSub, Int.reduceLE, Int.reduceLT, Int.reduceEq, Int.reduceToNat, Int.reducePow, Int.reduceNeg]))
    have htk2 : (ei ++ [DV.int .i64 122, DV.int .i64 1]).take ((t.inits.length + 1) * 2) = ei ++ [DV.int .i64 122, DV.int .i64 1] := List.take_of_length_le (by simp; omega)
    refine fin (uInits t) [.str [116], .sl (t.inits.length + 1) (ei ++ [.int .i64 122, .int .i64 1]), .sl t.threads.length (.sl s0.length e5 :: ds), .int .i64 t.kind, Av] ?_ hap3 _ K1 ?_ hK1
    · refine ⟨.sl (t.inits.length + 1) (ei ++ [.int .i64 122, .int .i64 1]), .sl t.threads.length (.sl s0.length e5 :: ds), Av, by simp only [uInits, hnm], ⟨by simp only [uInits, List.length_append, List.length_cons, List.length_nil]; omega, .inr ?_⟩, hTu, hAv⟩
      simp [uInits, ← hsi, Init.cells]
    · refine Leads.frz [(0, 0), (1, 1)] [(3, e5), (2, .sl s0.length e5 :: ds), (6, ei ++ [.int .i64 122, .int .i64 1])] ⟨?_, ?_, rfl, rfl, ?_⟩
      · simp [pqS, frzT, fget, AV.cv, zget, pget]
      · simp [pqS, frzM, pinv, zget, mget, cvL, AV.cv, cvL_d, htkN', htk2]
      · simp [zokFrom, mget, cvL, AV.cv, zget, cvL_d, htk0, cvL_append]
  · refine bwp_seq fun K hK => bwp_region rfl ?_
    simp -implicitDefEqProofs only [go_sem, ↓reduceIte, Nat.reduceEqDiff, Nat.reduceAdd, Nat.reduceLeDiff, Nat.reduceMul, Nat.reduceSub, Int.reduceLE, Int.reduceLT, Int.reduceEq, Int.reduceToNat, Int.reducePow, Int.reduceNeg, c0]
    refine hK _ ?_; clear hK
    refine bwp_cond false (by simp [ev, fget, c0]) (fun h => nomatch h) (fun _ => ?_)
    refine bwp_seq fun K hK => bwp_region rfl ?_
    simp -implicitDefEqProofs only [go_sem, ↓reduceIte, Nat.reduceEqDiff, Nat.reduceAdd, Nat.reduceLeDiff, Nat.reduceMul, Nat.reduceSub, Int.reduceLE, Int.reduceLT, Int.reduceEq, Int.reduceToNat, Int.reducePow, Int.reduceNeg, c1]
    refine hK _ ?_; clear hK
    refine bwp_cond false (by simp [ev, fget, c1]) (fun h => nomatch h) (fun _ => ?_)
    refine bwp_seq fun K hK => bwp_region rfl ?_
    simp -implicitDefEqProofs only [go_sem, ↓reduceIte, Nat.reduceEqDiff, Nat.reduceAdd, Nat.reduceLeDiff, Nat.reduceMul, Nat.reduceSub, Int.reduceLE, Int.reduceLT, Int.reduceEq, Int.reduceToNat, Int.reducePow, Int.reduceNeg, c2]
    refine hK _ ?_; clear hK
    refine bwp_cond false (by simp [ev, fget, c2]) (fun h => nomatch h) (fun _ => ?_)
    refine bwp_region rfl ?_
    simp -implicitDefEqProofs only [go_sem, ↓reduceIte, Nat.reduceEqDiff, Nat.reduceAdd, Nat.reduceLeDiff, Nat.reduceMul, Nat.reduceSub, Int.reduceLE, Int.reduceLT, Int.reduceEq, Int.reduceToNat, Int.reducePow, Int.reduceNeg]
    repeat' (first
      | (refine gateK_split (fun hb => ?_) (fun hb => ?_) <;> simp -implicitDefEqProofs only [go_sem, ↓reduceIte, Nat.reduceEqDiff, Nat.reduceAdd, Nat.reduceLeDiff, Nat.reduceMul, Nat.reduceSub, Int.reduceLE, Int.reduceLT, Int.reduceEq, Int.reduceToNat, Int.reducePow, Int.reduceNeg, hb])
      | (refine dGateK_split (fun hb => ?_) (fun hb => ?_) <;> simp -implicitDefEqProofs only [go_sem, ↓reduceIte, Nat.reduceEqDiff, Nat.reduceAdd, Nat.reduceLeDiff, Nat.reduceMul, Nat.reduceSub, Int.reduceLE, Int.reduceLT, Int.reduceEq, Int.reduceToNat, Int.reducePow, Int.reduceNeg, hb])
      | (rw [if_pos (by (try simp only [List.length_append, List.length_cons, List.length_nil, List.length_map]); omega)]; simp -implicitDefEqProofs only [go_sem, ↓reduceIte, Nat.reduceEqDiff, Nat.reduceAdd, Nat.reduceLeDiff, Nat.reduceMul, Nat.reduceSub, Int.reduceLE, Int.reduceLT, Int.reduceEq, Int.reduceToNat, Int.reducePow, Int.reduceNeg]))
    refine fin (uCond t) [.str [116], .sl t.inits.length ei, .sl t.threads.length (.sl s0.length e5 :: ds), .int .i64 1, .sl 1 [.sl 1 [.int .i64 (-1), .int .i64 0, .int .i64 113, .int .i64 77]]] ?_ hap4 _ K1 ?_ hK1
    · refine ⟨_, _, _, by simp [uCond, hnm], hIu, hTu, ⟨[.sl 1 [.int .i64 (-1), .int .i64 0, .int .i64 113, .int .i64 77]], ⟨by simp [uCond], .inr rfl⟩, ⟨by simp, .inr rfl⟩, trivial⟩⟩
    · refine Leads.frz [(0, 0), (1, 1)] [(3, e5), (2, .sl s0.length e5 :: ds), (4, ei), (5, [.int .i64 (-1), .int .i64 0, .int .i64 113, .int .i64 77]), (6, [.sl 1 [.int .i64 (-1), .int .i64 0, .int .i64 113, .int .i64 77]])] ⟨?_, ?_, rfl, rfl, ?_⟩
      · simp [pqS, frzT, fget, AV.cv, zget, pget]
      · simp [pqS, frzM, pinv, zget, mget, cvL, AV.cv, cvL_d, htki, htkN']
      · simp [zokFrom, mget, cvL, AV.cv, zget, cvL_d, htk0]

end Go.Proofs.YtgfkgngpganllaaDoor
