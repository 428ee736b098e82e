/- PrintOks comes to true, whatever it is given: the walk. -/
import Derived.Test.YtgfkgngpganllaaDoorO8
namespace Go.Proofs.YtgfkgngpganllaaDoor
open Go Go.Jq
set_option maxRecDepth 100000
set_option linter.unusedSimpArgs false

/-- The state in PrintOks: the test's cells own. -/
def poS (ni N l0 : Nat) (kd : Int) (Av : DV) (ds e5 ei : List DV) (ex : Fr) (mx : Mem) (n : Nat) : St :=
  ⟨ex ++ [(7, .ptr 0 0)], [(0, [.d (.str [116]), .sl 3 2 0 ni, .sl 1 1 0 N, .d (.int .i64 kd), .d Av]), (1, .sl 2 9 0 l0 :: ds.map .d), (2, e5.map .d), (3, ei.map .d)] ++ mx, n⟩

set_option maxHeartbeats 8000000 in
theorem printOks_pure {ls : List Int} {X : DV} (hX : IsInts ls X) {at' : Int} (_ : I64 at') {kind : Int} (_ : I64 kind) : Pure Tryd.prog 3 [.d X, .d (.int .i64 at'), .d (.int .i64 kind)] (.d (.bool true)) := by
  have hf := small_few ls 8
  have hnm : (small ls 8).name = [116] := rfl
  have hokt := (small_goodTest ls 8).ok
  refine acalls_of Tryd.func3 ac3_ok Tryd.ntmps3 Tryd.results3 rfl ?_
  unfold ac3
  refine bwp_seq fun K hK => bwp_region rfl ?_
  simp -implicitDefEqProofs only [go_sem, ↓reduceIte, Nat.reduceEqDiff, Nat.reduceAdd, Nat.reduceLeDiff, Nat.reduceMul, Nat.reduceSub, Int.reduceLE, Int.reduceLT, Int.reduceEq, Int.reduceToNat, Int.reducePow, Int.reduceNeg]
  refine hK _ ?_; clear hK
  refine bwp_seq fun K hK => bwp_region rfl ?_
  simp -implicitDefEqProofs only [go_sem, ↓reduceIte, Nat.reduceEqDiff, Nat.reduceAdd, Nat.reduceLeDiff, Nat.reduceMul, Nat.reduceSub, Int.reduceLE, Int.reduceLT, Int.reduceEq, Int.reduceToNat, Int.reducePow, Int.reduceNeg]
  refine callK_gen [] [.d X, .d (.int .i64 (8 : Nat))] [] (nb := 0) (small_own hX (by omega)) rfl rfl rfl trivial rfl ?_
  rintro r0 m' ⟨s0, ts', ds, Av, h1, hd, hAv, rfl, rfl⟩
  have hth : (small ls 8).threads.length = ts'.length + 1 := by rw [h1]; rfl
  have hdl := hd.length
  have hni : (small ls 8).inits.length ≤ 1 := (small_goodTest ls 8).once
  have hN3 : (small ls 8).threads.length ≤ 3 := by rw [small_len]; exact smallN_le ls
  have hs6 : s0.length ≤ 6 := ((small_goodTest ls 8).threads s0 (by rw [h1]; simp)).len
  have hsi64 : ∀ x ∈ s0, I64i x := (hf.ins s0 (by rw [h1]; simp)).2
  generalize hei : (small ls 8).inits.flatMap Init.cells = ei
  have htki : ei.take ((small ls 8).inits.length * 2) = ei := by rw [← hei]; exact sls_cells' init_len _
  have hIu : IsSl Init.cells (small ls 8).inits (.sl (small ls 8).inits.length ei) := ⟨by omega, .inr (by rw [hei])⟩
  simp -implicitDefEqProofs only [go_sem, ↓reduceIte, Nat.reduceEqDiff, Nat.reduceAdd, Nat.reduceLeDiff, Nat.reduceMul, Nat.reduceSub, Int.reduceLE, Int.reduceLT, Int.reduceEq, Int.reduceToNat, Int.reducePow, Int.reduceNeg, ownV, ownM, callMem, updNew, updOld, mget, mset, renOf, pget, renL, AV.ren, Option.isSome_some, Option.isSome_none, Bool.and_self, Bool.false_and, renL_d, mbound, List.foldr_cons, List.foldr_nil, Nat.max_def]
  refine hK _ ?_; clear hK
  generalize hts : small ls 8 = t at *
  refine bwp_leads (S' := poS t.inits.length t.threads.length s0.length t.kind Av ds (s0.flatMap Ins.cells) ei [(1, .d (.int .i64 at')), (2, .d (.int .i64 kind))] [] 4) (Leads.ent [(3, 0), (0, 1), (1, 2), (2, 3)] ⟨by simp [entT, fget, AV.ren, renL, pget, poS], by simp [entM, pinv, mget, mset, renL, AV.ren, pget, renL_append, -List.map_map, poS], rfl, rfl⟩) ?_
  -- the test whose first thread is s, told as data
  have tests : ∀ s : List Ins, s.length = s0.length → IsTest ⟨[116], t.inits, s :: ts', t.kind, t.rows⟩ [.str [116], .sl t.inits.length ei, .sl t.threads.length (.sl s0.length (s.flatMap Ins.cells) :: ds), .int .i64 t.kind, Av] := fun s hs => by
    refine ⟨.sl t.inits.length ei, .sl t.threads.length (.sl s0.length (s.flatMap Ins.cells) :: ds), Av, rfl, hIu, ⟨.sl s0.length (s.flatMap Ins.cells) :: ds, ⟨by simp only [List.length_cons]; omega, .inr (by rw [flatMap_one]; simp [hth, hdl])⟩, ⟨⟨by omega, .inr (by rw [← hs])⟩, hd⟩⟩, hAv⟩
  have ht0 : (⟨[116], t.inits, s0 :: ts', t.kind, t.rows⟩ : Test) = t := by rw [← h1, ← hnm]
  have tk9 : ∀ s : List Ins, s.length = s0.length → (s.flatMap Ins.cells).take (s0.length * 9) = s.flatMap Ins.cells := fun s hs => by rw [← hs]; exact sls_cells' ins_len s
  have tkN : ∀ c : DV, (c :: ds).take t.threads.length = c :: ds := fun c => List.take_of_length_le (by simp only [List.length_cons]; omega)
  have hT0 := tests s0 rfl
  rw [ht0] at hT0
  have hok0 := ok_pure hT0 (by rw [hnm]; decide)
  rw [hokt] at hok0
  unfold poS
  simp only [List.map_cons, List.map_nil, List.cons_append, List.nil_append, List.append_nil] at hok0 ⊢
  have lend0 : ∀ (dst : Option Nat) (r : List AOper) (K : St → Prop) (f : Fr) (mx : Mem) (n : Nat), runOps Tryd.prog r ⟨putF f dst (.d (.bool true)), [(0, [.d (.str [116]), .sl 3 2 0 t.inits.length, .sl 1 1 0 t.threads.length, .d (.int .i64 t.kind), .d Av]), (1, .sl 2 9 0 s0.length :: ds.map .d), (2, (s0.flatMap Ins.cells).map .d), (3, ei.map .d)] ++ mx, n⟩ K →
      callK Tryd.prog 9 [.agg [.d (.str [116]), .sl 3 2 0 t.inits.length, .sl 1 1 0 t.threads.length, .d (.int .i64 t.kind), .d Av]] dst r K f ([(0, [.d (.str [116]), .sl 3 2 0 t.inits.length, .sl 1 1 0 t.threads.length, .d (.int .i64 t.kind), .d Av]), (1, .sl 2 9 0 s0.length :: ds.map .d), (2, (s0.flatMap Ins.cells).map .d), (3, ei.map .d)] ++ mx) n := by
    intro dst r K f mx n h
    refine callK_lend [(2, s0.flatMap Ins.cells), (1, .sl s0.length (s0.flatMap Ins.cells) :: ds), (3, ei)] _ hok0 ?_ ?_ (fun v h => by subst h; rfl) ?_
    · simp [zokFrom, mget, cvL, AV.cv, zget, cvL_d, tk9 s0 rfl]
    · simp [cvL, AV.cv, zget, htki, tkN]
    rintro v rfl
    exact h
  have lend1 := fun (dst : Option Nat) (r : List AOper) (K : St → Prop) (f : Fr) (n : Nat) => lend0 dst r K f [] n
  simp only [List.append_nil] at lend1
  have hN0 : ¬ (t.threads.length : Int) = 0 := by omega
  have hN0' : (0 : Int) < t.threads.length := by omega
  refine bwp_seq fun K1 hK1 => ?_
  refine bwp_seq fun K hK => bwp_region rfl ?_
  simp -implicitDefEqProofs only [go_sem, ↓reduceIte, Nat.reduceEqDiff, Nat.reduceAdd, Nat.reduceLeDiff, Nat.reduceMul, Nat.reduceSub, Int.reduceLE, Int.reduceLT, Int.reduceEq, Int.reduceToNat, Int.reducePow, Int.reduceNeg]
  refine lend1 _ _ _ _ _ ?_
  by_cases hz : s0.length = 0
  · have hz' : (s0.length : Int) = 0 := by omega
    simp -implicitDefEqProofs only [go_sem, ↓reduceIte, Nat.reduceEqDiff, Nat.reduceAdd, Nat.reduceLeDiff, Nat.reduceMul, Nat.reduceSub, Int.reduceLE, Int.reduceLT, Int.reduceEq, Int.reduceToNat, Int.reducePow, Int.reduceNeg, hN0, hN0', hz']
    refine hK _ ?_; clear hK
    refine bwp_cond true (by simp [ev, fget]) (fun _ => ?_) (fun h => nomatch h)
    refine bwp_seq fun K hK => bwp_region rfl ?_
    simp -implicitDefEqProofs only [go_sem, ↓reduceIte, Nat.reduceEqDiff, Nat.reduceAdd, Nat.reduceLeDiff, Nat.reduceMul, Nat.reduceSub, Int.reduceLE, Int.reduceLT, Int.reduceEq, Int.reduceToNat, Int.reducePow, Int.reduceNeg]
    refine lend1 _ _ _ _ _ ?_
    simp -implicitDefEqProofs only [go_sem, ↓reduceIte, Nat.reduceEqDiff, Nat.reduceAdd, Nat.reduceLeDiff, Nat.reduceMul, Nat.reduceSub, Int.reduceLE, Int.reduceLT, Int.reduceEq, Int.reduceToNat, Int.reducePow, Int.reduceNeg]
    refine callK_pure awake_pure rfl rfl ?_
    simp -implicitDefEqProofs only [go_sem, ↓reduceIte, Nat.reduceEqDiff, Nat.reduceAdd, Nat.reduceLeDiff, Nat.reduceMul, Nat.reduceSub, Int.reduceLE, Int.reduceLT, Int.reduceEq, Int.reduceToNat, Int.reducePow, Int.reduceNeg]
    refine hK _ ?_; clear hK
    refine bwp_ret ?_
    simp only [go_sem]
    refine aend_ret _ rfl rfl ⟨?_, rfl⟩
    simp [fget]
  · have hz' : ¬ (s0.length : Int) = 0 := by omega
    simp -implicitDefEqProofs only [go_sem, ↓reduceIte, Nat.reduceEqDiff, Nat.reduceAdd, Nat.reduceLeDiff, Nat.reduceMul, Nat.reduceSub, Int.reduceLE, Int.reduceLT, Int.reduceEq, Int.reduceToNat, Int.reducePow, Int.reduceNeg, hN0, hN0', hz']
    refine hK _ ?_; clear hK
    refine bwp_cond false (by simp [ev, fget]) (fun h => nomatch h) (fun _ => ?_)
    refine bwp_skip ?_
    refine hK1 _ ?_; clear hK1
    have hk8 := low8_eq at'
    generalize low8 at' = a8 at hk8
    have hkl : a8 % s0.length < s0.length := Nat.mod_lt _ (by omega)
    refine bwp_seq fun K hK => bwp_region rfl ?_
    simp -implicitDefEqProofs only [go_sem, ↓reduceIte, Nat.reduceEqDiff, Nat.reduceAdd, Nat.reduceLeDiff, Nat.reduceMul, Nat.reduceSub, Int.reduceLE, Int.reduceLT, Int.reduceEq, Int.reduceToNat, Int.reducePow, Int.reduceNeg, hk8, hz', tmod_nat, hN0']
    refine hK _ ?_; clear hK
    generalize a8 % s0.length = k at hkl
    have hkl' : (k : Int) < s0.length := by omega
    obtain ⟨cs', rest, hce, hdrop, hcs⟩ := (show IsSl Ins.cells s0 (.sl s0.length (s0.flatMap Ins.cells)) from ⟨by omega, .inr rfl⟩).at ins_len (by omega) k hkl
    cases hce
    have hx64 := hsi64 s0[k] (List.getElem_mem hkl)
    generalize s0[k] = x at hdrop hx64
    have hdm : List.drop (k * 9) ((s0.flatMap Ins.cells).map AV.d) = (x.cells.map AV.d) ++ rest.map AV.d := by rw [← List.map_drop, hdrop, List.map_append]
    obtain ⟨q, hq7, hq⟩ := bits_and_le kind 7 (by omega)
    have hq' : bits .and .i64 kind 7 = (q : Int) := hq
    refine bwp_seq fun K hK => bwp_region rfl ?_
    simp -implicitDefEqProofs only [go_sem, ↓reduceIte, Nat.reduceEqDiff, Nat.reduceAdd, Nat.reduceLeDiff, Nat.reduceMul, Nat.reduceSub, Int.reduceLE, Int.reduceLT, Int.reduceEq, Int.reduceToNat, Int.reducePow, Int.reduceNeg, hN0', hkl', Int.natCast_nonneg, Int.toNat_natCast, Nat.zero_add, hdm, Ins.cells, List.map_cons, List.map_nil, List.cons_append, List.nil_append]
    refine hK _ ?_; clear hK
    refine bwp_seq fun K2 hK2 => ?_
    refine bwp_seq fun K hK => bwp_region rfl ?_
    simp -implicitDefEqProofs only [go_sem, ↓reduceIte, Nat.reduceEqDiff, Nat.reduceAdd, Nat.reduceLeDiff, Nat.reduceMul, Nat.reduceSub, Int.reduceLE, Int.reduceLT, Int.reduceEq, Int.reduceToNat, Int.reducePow, Int.reduceNeg, hq']
    refine hK _ ?_; clear hK
    refine bwp_block ?_
    have fin : ∀ S : St, Leads (mbound []) 98 S (poS t.inits.length t.threads.length s0.length t.kind Av ds (s0.flatMap Ins.cells) ei [(8, .d (.int .i64 k)), (9, .ptr 4 0)] [(4, (turnI q x).cells.map .d)] 5) → K2 S := by
      intro S hS
      refine hK2 _ ?_; clear hK2
      refine bwp_leads hS ?_
      have hbad := turn_bad q x
      have hy64 := turn_i64 q hx64
      generalize turnI q x = y at hbad hy64
      have hput := put_flat hkl y
      have hl9 : k * 9 + 9 ≤ (s0.flatMap Ins.cells).length := by rw [insLen]; omega
      have hS := tests (s0.set k y) (by simp)
      have htu : (⟨[116], t.inits, s0.set k y :: ts', t.kind, t.rows⟩ : Test) = uIns t s0 ts' k y := by rw [← hnm]; rfl
      rw [htu] at hS
      have hokn := ok_pure hS (by show t.name.length ≤ _; rw [hnm]; decide)
      have htxt := test_pure hS (uIns_few hf h1 hy64)
      have hb' : okB (uIns t s0 ts' k y) = false := uIns_bad hkl hbad
      have hins := ins_pure hy64
      have hi0 : insT y = [] := by unfold insT; rw [if_neg (by rw [hbad]; decide)]
      have ht0' : testT (uIns t s0 ts' k y) = [] := by unfold testT; rw [if_neg (by rw [hb']; decide)]
      rw [hb'] at hokn
      rw [ht0'] at htxt
      rw [hi0] at hins
      have tkS := tk9 (s0.set k y) (by simp)
      generalize hE5 : (s0.set k y).flatMap Ins.cells = f5 at hput hokn htxt tkS
      generalize s0.flatMap Ins.cells = e5 at hput hl9
      unfold poS
      unfold Ins.cells at hput hins ⊢
      simp only [putAt, List.map_cons, List.map_nil, List.cons_append, List.nil_append] at hput hins hokn htxt ⊢
      refine bwp_seq fun K hK => bwp_region_draw rfl rfl ?_
      simp -implicitDefEqProofs only [go_sem, ↓reduceIte, Nat.reduceEqDiff, Nat.reduceAdd, Nat.reduceLeDiff, Nat.reduceMul, Nat.reduceSub, Int.reduceLE, Int.reduceLT, Int.reduceEq, Int.reduceToNat, Int.reducePow, Int.reduceNeg, hN0', hkl', Int.natCast_nonneg, Int.toNat_natCast, Nat.zero_add, List.length_map, hl9]
      rw [hput]
      refine ⟨rfl, hK _ ?_⟩; clear hK
      refine bwp_leads (S' := ⟨[(7, .ptr 0 0), (9, .ptr 1 0)], [(0, [.d (.str [116]), .d (.sl t.inits.length ei), .d (.sl t.threads.length (.sl s0.length f5 :: ds)), .d (.int .i64 t.kind), .d Av]), (1, [AV.d (DV.int IntKind.i64 y.kind), AV.d (DV.int IntKind.i64 y.reg), AV.d (DV.int IntKind.i64 y.loc), AV.d (DV.int IntKind.i64 y.a.reg), AV.d (DV.int IntKind.i64 y.a.value), AV.d (DV.int IntKind.i64 y.op), AV.d (DV.int IntKind.i64 y.b.reg), AV.d (DV.int IntKind.i64 y.b.value), AV.d (DV.int IntKind.i64 y.n)])], 2⟩)
        (Leads.frz [(0, 0), (4, 1)] [(2, f5), (1, .sl s0.length f5 :: ds), (3, ei)] ⟨?_, ?_, rfl, rfl, ?_⟩) ?_
      · simp [frzT, fget, AV.cv, zget, pget]
      · simp [frzM, pinv, zget, mget, cvL, AV.cv, cvL_d, htki, tkN]
      · simp [zokFrom, mget, cvL, AV.cv, zget, cvL_d, tkS]
      refine bwp_seq fun K hK => bwp_region rfl ?_
      simp -implicitDefEqProofs only [go_sem, ↓reduceIte, Nat.reduceEqDiff, Nat.reduceAdd, Nat.reduceLeDiff, Nat.reduceMul, Nat.reduceSub, Int.reduceLE, Int.reduceLT, Int.reduceEq, Int.reduceToNat, Int.reducePow, Int.reduceNeg]
      refine callK_pure hokn rfl rfl ?_
      simp -implicitDefEqProofs only [go_sem, ↓reduceIte, Nat.reduceEqDiff, Nat.reduceAdd, Nat.reduceLeDiff, Nat.reduceMul, Nat.reduceSub, Int.reduceLE, Int.reduceLT, Int.reduceEq, Int.reduceToNat, Int.reducePow, Int.reduceNeg]
      refine callK_pure htxt rfl rfl ?_
      simp -implicitDefEqProofs only [go_sem, ↓reduceIte, Nat.reduceEqDiff, Nat.reduceAdd, Nat.reduceLeDiff, Nat.reduceMul, Nat.reduceSub, Int.reduceLE, Int.reduceLT, Int.reduceEq, Int.reduceToNat, Int.reducePow, Int.reduceNeg]
      refine callK_pure hins rfl rfl ?_
      simp -implicitDefEqProofs only [go_sem, ↓reduceIte, Nat.reduceEqDiff, Nat.reduceAdd, Nat.reduceLeDiff, Nat.reduceMul, Nat.reduceSub, Int.reduceLE, Int.reduceLT, Int.reduceEq, Int.reduceToNat, Int.reducePow, Int.reduceNeg]
      refine callK_pure awake_pure rfl rfl ?_
      simp -implicitDefEqProofs only [go_sem, ↓reduceIte, Nat.reduceEqDiff, Nat.reduceAdd, Nat.reduceLeDiff, Nat.reduceMul, Nat.reduceSub, Int.reduceLE, Int.reduceLT, Int.reduceEq, Int.reduceToNat, Int.reducePow, Int.reduceNeg]
      refine hK _ ?_; clear hK
      refine bwp_ret ?_
      simp only [go_sem]
      refine aend_ret _ rfl rfl ⟨?_, rfl⟩
      simp [fget]
    by_cases c0 : (q : Int) = 0
    · refine bwp_seq fun K hK => bwp_region rfl ?_
      simp -implicitDefEqProofs only [go_sem, ↓reduceIte, Nat.reduceEqDiff, Nat.reduceAdd, Nat.reduceLeDiff, Nat.reduceMul, Nat.reduceSub, Int.reduceLE, Int.reduceLT, Int.reduceEq, Int.reduceToNat, Int.reducePow, Int.reduceNeg, c0]
      refine hK _ ?_; clear hK
      refine bwp_cond true (by simp [ev, fget, c0]) (fun _ => ?_) (fun h => nomatch h)
      refine bwp_region rfl ?_
      simp -implicitDefEqProofs only [go_sem, ↓reduceIte, Nat.reduceEqDiff, Nat.reduceAdd, Nat.reduceLeDiff, Nat.reduceMul, Nat.reduceSub, Int.reduceLE, Int.reduceLT, Int.reduceEq, Int.reduceToNat, Int.reducePow, Int.reduceNeg]
      have hqn : q = 0 := by omega
      refine fin _ (Leads.ent [(0, 0), (1, 1), (2, 2), (3, 3), (4, 4)] ⟨by simp [poS, entT, fget, AV.ren, renL, pget], by simp [poS, entM, pinv, mget, mset, renL, AV.ren, pget, hqn, turnI, Ins.cells], rfl, rfl⟩)
    refine bwp_seq fun K hK => bwp_region rfl ?_
    simp -implicitDefEqProofs only [go_sem, ↓reduceIte, Nat.reduceEqDiff, Nat.reduceAdd, Nat.reduceLeDiff, Nat.reduceMul, Nat.reduceSub, Int.reduceLE, Int.reduceLT, Int.reduceEq, Int.reduceToNat, Int.reducePow, Int.reduceNeg, c0]
    refine hK _ ?_; clear hK
    refine bwp_cond false (by simp [ev, fget, c0]) (fun h => nomatch h) (fun _ => ?_)
    by_cases c1 : (q : Int) = 1
    · refine bwp_seq fun K hK => bwp_region rfl ?_
      simp -implicitDefEqProofs only [go_sem, ↓reduceIte, Nat.reduceEqDiff, Nat.reduceAdd, Nat.reduceLeDiff, Nat.reduceMul, Nat.reduceSub, Int.reduceLE, Int.reduceLT, Int.reduceEq, Int.reduceToNat, Int.reducePow, Int.reduceNeg, c1]
      refine hK _ ?_; clear hK
      refine bwp_cond true (by simp [ev, fget, c1]) (fun _ => ?_) (fun h => nomatch h)
      refine bwp_region rfl ?_
      simp -implicitDefEqProofs only [go_sem, ↓reduceIte, Nat.reduceEqDiff, Nat.reduceAdd, Nat.reduceLeDiff, Nat.reduceMul, Nat.reduceSub, Int.reduceLE, Int.reduceLT, Int.reduceEq, Int.reduceToNat, Int.reducePow, Int.reduceNeg]
      have hqn : q = 1 := by omega
      refine fin _ (Leads.ent [(0, 0), (1, 1), (2, 2), (3, 3), (4, 4)] ⟨by simp [poS, entT, fget, AV.ren, renL, pget], by simp [poS, entM, pinv, mget, mset, renL, AV.ren, pget, hqn, turnI, Ins.cells], rfl, rfl⟩)
    refine bwp_seq fun K hK => bwp_region rfl ?_
    simp -implicitDefEqProofs only [go_sem, ↓reduceIte, Nat.reduceEqDiff, Nat.reduceAdd, Nat.reduceLeDiff, Nat.reduceMul, Nat.reduceSub, Int.reduceLE, Int.reduceLT, Int.reduceEq, Int.reduceToNat, Int.reducePow, Int.reduceNeg, c1]
    refine hK _ ?_; clear hK
    refine bwp_cond false (by simp [ev, fget, c1]) (fun h => nomatch h) (fun _ => ?_)
    by_cases c2 : (q : Int) = 2
    · refine bwp_seq fun K hK => bwp_region rfl ?_
      simp -implicitDefEqProofs only [go_sem, ↓reduceIte, Nat.reduceEqDiff, Nat.reduceAdd, Nat.reduceLeDiff, Nat.reduceMul, Nat.reduceSub, Int.reduceLE, Int.reduceLT, Int.reduceEq, Int.reduceToNat, Int.reducePow, Int.reduceNeg, c2]
      refine hK _ ?_; clear hK
      refine bwp_cond true (by simp [ev, fget, c2]) (fun _ => ?_) (fun h => nomatch h)
      refine bwp_region rfl ?_
      simp -implicitDefEqProofs only [go_sem, ↓reduceIte, Nat.reduceEqDiff, Nat.reduceAdd, Nat.reduceLeDiff, Nat.reduceMul, Nat.reduceSub, Int.reduceLE, Int.reduceLT, Int.reduceEq, Int.reduceToNat, Int.reducePow, Int.reduceNeg]
      have hqn : q = 2 := by omega
      refine fin _ (Leads.ent [(0, 0), (1, 1), (2, 2), (3, 3), (4, 4)] ⟨by simp [poS, entT, fget, AV.ren, renL, pget], by simp [poS, entM, pinv, mget, mset, renL, AV.ren, pget, hqn, turnI, Ins.cells], rfl, rfl⟩)
    refine bwp_seq fun K hK => bwp_region rfl ?_
    simp -implicitDefEqProofs only [go_sem, ↓reduceIte, Nat.reduceEqDiff, Nat.reduceAdd, Nat.reduceLeDiff, Nat.reduceMul, Nat.reduceSub, Int.reduceLE, Int.reduceLT, Int.reduceEq, Int.reduceToNat, Int.reducePow, Int.reduceNeg, c2]
    refine hK _ ?_; clear hK
    refine bwp_cond false (by simp [ev, fget, c2]) (fun h => nomatch h) (fun _ => ?_)
    by_cases c3 : (q : Int) = 3
    · refine bwp_seq fun K hK => bwp_region rfl ?_
      simp -implicitDefEqProofs only [go_sem, ↓reduceIte, Nat.reduceEqDiff, Nat.reduceAdd, Nat.reduceLeDiff, Nat.reduceMul, Nat.reduceSub, Int.reduceLE, Int.reduceLT, Int.reduceEq, Int.reduceToNat, Int.reducePow, Int.reduceNeg, c3]
      refine hK _ ?_; clear hK
      refine bwp_cond true (by simp [ev, fget, c3]) (fun _ => ?_) (fun h => nomatch h)
      refine bwp_region rfl ?_
      simp -implicitDefEqProofs only [go_sem, ↓reduceIte, Nat.reduceEqDiff, Nat.reduceAdd, Nat.reduceLeDiff, Nat.reduceMul, Nat.reduceSub, Int.reduceLE, Int.reduceLT, Int.reduceEq, Int.reduceToNat, Int.reducePow, Int.reduceNeg]
      have hqn : q = 3 := by omega
      refine fin _ (Leads.ent [(0, 0), (1, 1), (2, 2), (3, 3), (4, 4)] ⟨by simp [poS, entT, fget, AV.ren, renL, pget], by simp [poS, entM, pinv, mget, mset, renL, AV.ren, pget, hqn, turnI, Ins.cells], rfl, rfl⟩)
    refine bwp_seq fun K hK => bwp_region rfl ?_
    simp -implicitDefEqProofs only [go_sem, ↓reduceIte, Nat.reduceEqDiff, Nat.reduceAdd, Nat.reduceLeDiff, Nat.reduceMul, Nat.reduceSub, Int.reduceLE, Int.reduceLT, Int.reduceEq, Int.reduceToNat, Int.reducePow, Int.reduceNeg, c3]
    refine hK _ ?_; clear hK
    refine bwp_cond false (by simp [ev, fget, c3]) (fun h => nomatch h) (fun _ => ?_)
    by_cases c4 : (q : Int) = 4
    · refine bwp_seq fun K hK => bwp_region rfl ?_
      simp -implicitDefEqProofs only [go_sem, ↓reduceIte, Nat.reduceEqDiff, Nat.reduceAdd, Nat.reduceLeDiff, Nat.reduceMul, Nat.reduceSub, Int.reduceLE, Int.reduceLT, Int.reduceEq, Int.reduceToNat, Int.reducePow, Int.reduceNeg, c4]
      refine hK _ ?_; clear hK
      refine bwp_cond true (by simp [ev, fget, c4]) (fun _ => ?_) (fun h => nomatch h)
      refine bwp_region rfl ?_
      simp -implicitDefEqProofs only [go_sem, ↓reduceIte, Nat.reduceEqDiff, Nat.reduceAdd, Nat.reduceLeDiff, Nat.reduceMul, Nat.reduceSub, Int.reduceLE, Int.reduceLT, Int.reduceEq, Int.reduceToNat, Int.reducePow, Int.reduceNeg]
      have hqn : q = 4 := by omega
      refine fin _ (Leads.ent [(0, 0), (1, 1), (2, 2), (3, 3), (4, 4)] ⟨by simp [poS, entT, fget, AV.ren, renL, pget], by simp [poS, entM, pinv, mget, mset, renL, AV.ren, pget, hqn, turnI, Ins.cells], rfl, rfl⟩)
    refine bwp_seq fun K hK => bwp_region rfl ?_
    simp -implicitDefEqProofs only [go_sem, ↓reduceIte, Nat.reduceEqDiff, Nat.reduceAdd, Nat.reduceLeDiff, Nat.reduceMul, Nat.reduceSub, Int.reduceLE, Int.reduceLT, Int.reduceEq, Int.reduceToNat, Int.reducePow, Int.reduceNeg, c4]
    refine hK _ ?_; clear hK
    refine bwp_cond false (by simp [ev, fget, c4]) (fun h => nomatch h) (fun _ => ?_)
    by_cases c5 : (q : Int) = 5
    · refine bwp_seq fun K hK => bwp_region rfl ?_
      simp -implicitDefEqProofs only [go_sem, ↓reduceIte, Nat.reduceEqDiff, Nat.reduceAdd, Nat.reduceLeDiff, Nat.reduceMul, Nat.reduceSub, Int.reduceLE, Int.reduceLT, Int.reduceEq, Int.reduceToNat, Int.reducePow, Int.reduceNeg, c5]
      refine hK _ ?_; clear hK
      refine bwp_cond true (by simp [ev, fget, c5]) (fun _ => ?_) (fun h => nomatch h)
      refine bwp_region rfl ?_
      simp -implicitDefEqProofs only [go_sem, ↓reduceIte, Nat.reduceEqDiff, Nat.reduceAdd, Nat.reduceLeDiff, Nat.reduceMul, Nat.reduceSub, Int.reduceLE, Int.reduceLT, Int.reduceEq, Int.reduceToNat, Int.reducePow, Int.reduceNeg]
      have hqn : q = 5 := by omega
      refine fin _ (Leads.ent [(0, 0), (1, 1), (2, 2), (3, 3), (4, 4)] ⟨by simp [poS, entT, fget, AV.ren, renL, pget], by simp [poS, entM, pinv, mget, mset, renL, AV.ren, pget, hqn, turnI, Ins.cells], rfl, rfl⟩)
    refine bwp_seq fun K hK => bwp_region rfl ?_
    simp -implicitDefEqProofs only [go_sem, ↓reduceIte, Nat.reduceEqDiff, Nat.reduceAdd, Nat.reduceLeDiff, Nat.reduceMul, Nat.reduceSub, Int.reduceLE, Int.reduceLT, Int.reduceEq, Int.reduceToNat, Int.reducePow, Int.reduceNeg, c5]
    refine hK _ ?_; clear hK
    refine bwp_cond false (by simp [ev, fget, c5]) (fun h => nomatch h) (fun _ => ?_)
    by_cases c6 : (q : Int) = 6
    · refine bwp_seq fun K hK => bwp_region rfl ?_
      simp -implicitDefEqProofs only [go_sem, ↓reduceIte, Nat.reduceEqDiff, Nat.reduceAdd, Nat.reduceLeDiff, Nat.reduceMul, Nat.reduceSub, Int.reduceLE, Int.reduceLT, Int.reduceEq, Int.reduceToNat, Int.reducePow, Int.reduceNeg, c6]
      refine hK _ ?_; clear hK
      refine bwp_cond true (by simp [ev, fget, c6]) (fun _ => ?_) (fun h => nomatch h)
      refine bwp_region rfl ?_
      simp -implicitDefEqProofs only [go_sem, ↓reduceIte, Nat.reduceEqDiff, Nat.reduceAdd, Nat.reduceLeDiff, Nat.reduceMul, Nat.reduceSub, Int.reduceLE, Int.reduceLT, Int.reduceEq, Int.reduceToNat, Int.reducePow, Int.reduceNeg]
      have hqn : q = 6 := by omega
      refine fin _ (Leads.ent [(0, 0), (1, 1), (2, 2), (3, 3), (4, 4)] ⟨by simp [poS, entT, fget, AV.ren, renL, pget], by simp [poS, entM, pinv, mget, mset, renL, AV.ren, pget, hqn, turnI, Ins.cells], rfl, rfl⟩)
    refine bwp_seq fun K hK => bwp_region rfl ?_
    simp -implicitDefEqProofs only [go_sem, ↓reduceIte, Nat.reduceEqDiff, Nat.reduceAdd, Nat.reduceLeDiff, Nat.reduceMul, Nat.reduceSub, Int.reduceLE, Int.reduceLT, Int.reduceEq, Int.reduceToNat, Int.reducePow, Int.reduceNeg, c6]
    refine hK _ ?_; clear hK
    refine bwp_cond false (by simp [ev, fget, c6]) (fun h => nomatch h) (fun _ => ?_)
    refine bwp_region rfl ?_
    simp -implicitDefEqProofs only [go_sem, ↓reduceIte, Nat.reduceEqDiff, Nat.reduceAdd, Nat.reduceLeDiff, Nat.reduceMul, Nat.reduceSub, Int.reduceLE, Int.reduceLT, Int.reduceEq, Int.reduceToNat, Int.reducePow, Int.reduceNeg]
    have n0 : ¬ q = 0 := by omega
    have n1 : ¬ q = 1 := by omega
    have n2 : ¬ q = 2 := by omega
    have n3 : ¬ q = 3 := by omega
    have n4 : ¬ q = 4 := by omega
    have n5 : ¬ q = 5 := by omega
    have n6 : ¬ q = 6 := by omega
    refine fin _ (Leads.ent [(0, 0), (1, 1), (2, 2), (3, 3), (4, 4)] ⟨by simp [poS, entT, fget, AV.ren, renL, pget], by simp [poS, entM, pinv, mget, mset, renL, AV.ren, pget, n0, n1, n2, n3, n4, n5, n6, turnI, Ins.cells], rfl, rfl⟩)

end Go.Proofs.YtgfkgngpganllaaDoor
