/- What the test made of numbers comes to, its threads' loop, where the first thread's row stays own. -/
import Derived.Test.YtgfkgngpganllaaDoorO2
import Derived.Test.YtgfkgngpganllaaDoorD3
namespace Go.Proofs.YtgfkgngpganllaaDoor
open Go Go.Jq
set_option maxRecDepth 100000
set_option linter.unusedSimpArgs false

/-- A new number, of a nil slice's row. -/
theorem Leads.dummy {n0 k : Nat} {t : Fr} {m : Mem} {n : Nat} (hn : decide (n0 ≤ n) = true) : Leads n0 k ⟨t, m, n⟩ ⟨t, mset m n [], n + 1⟩ := by
  intro E hE a w hcc
  have hEn : E.n ≤ n := hE ▸ of_decide_eq_true hn
  obtain ⟨c, _, hc, hp⟩ := conc_bind hEn hcc
  exact ⟨c, hc, hp⟩

/-- The state in the threads' loop. -/
def smOo (X : DV) (pre : List AV) (e5 ei : List DV) (ni : Nat) (ds : List DV) (n locs most i a mem : Nat) : St :=
  ⟨[(1, .d (.int .i64 most)), (4, .ptr 0 0), (5, .ptr 1 0), (7, .fn 22 [.ptr 2 0, .dptr [X]]), (8, .d (.int .i64 n)), (9, .d (.int .i64 locs)), (10, .d (.int .i64 mem)), (11, .d (.int .i64 i))],
    [(0, [.d (.str []), .d .nsl, .d .nsl, .d (.int .i64 0), .d .nsl]), (1, [.d (.str [116]), .sl 6 2 0 ni, .sl 3 1 0 i, .d (.int .i64 0), .d .nsl]), (2, [.d (.int .i64 a)]), (3, pre ++ ds.map .d), (5, e5.map .d), (6, ei.map .d)], 7⟩

/-- The first thread's row is own, the others' are data. -/
def FirstOwn (ts : List (List Ins)) (pre : List AV) (e5 ds : List DV) : Prop :=
  (ts = [] ∧ pre = [] ∧ e5 = [] ∧ ds = []) ∨ ∃ s0 ts', ts = s0 :: ts' ∧ pre = [.sl 5 9 0 s0.length] ∧ e5 = s0.flatMap Ins.cells ∧ IsSls Ins.cells ts' ds

theorem FirstOwn.ren {ts : List (List Ins)} {pre : List AV} {e5 ds : List DV} (h : FirstOwn ts pre e5 ds) : ∀ π : Nat → Option Nat, π 5 = some 5 → renL π pre = pre := by
  intro π hπ
  rcases h with ⟨_, rfl, _, _⟩ | ⟨s0, ts', _, rfl, _, _⟩
  · rfl
  · simp [renL, AV.ren, hπ]

theorem FirstOwn.len {ts : List (List Ins)} {pre : List AV} {e5 ds : List DV} (h : FirstOwn ts pre e5 ds) : (pre ++ ds.map AV.d).length = ts.length := by
  rcases h with ⟨rfl, rfl, _, rfl⟩ | ⟨s0, ts', rfl, rfl, _, hd⟩
  · rfl
  · simp [hd.length]

set_option maxHeartbeats 8000000 in
theorem small_threads_o {ls : List Int} {X : DV} {ei : List DV} {ni : Nat} (hX : IsInts ls X) {n locs most : Nat} (hn : n ≤ 3) (hl0 : 0 < locs) (hl : locs ≤ 10) (hmost : most ≤ 1000) {Q : Exit → St → Prop} {a0 : Nat} (ha0 : a0 ≤ 10)
    (hQ : ∀ pre e5 ds, FirstOwn (smallThreads ls locs most n a0 0 []).2 pre e5 ds → (smallThreads ls locs most n a0 0 []).1 ≤ 100 → ∀ mem, Q (.exit 0) (smOo X pre e5 ei ni ds n locs most n (smallThreads ls locs most n a0 0 []).1 mem)) :
    BWP Tryd.prog (mbound []) 184 (.loop ac8L1) (smOo X [] [] ei ni [] n locs most 0 a0 0) Q := by
  refine bwp_loop (fun S => ∃ i a mem ts pre e5 ds, FirstOwn ts pre e5 ds ∧ ts.length = i ∧ i ≤ n ∧ a ≤ 10 + 10 * i ∧ mem ≤ 10 * i ∧ smallThreads ls locs most (n - i) a mem ts = smallThreads ls locs most n a0 0 [] ∧ S = smOo X pre e5 ei ni ds n locs most i a mem)
    (fun S => match fget S.t 11 with
      | .d (.int _ i) => n - i.toNat
      | _ => 0) ⟨0, a0, 0, [], [], [], [], .inl ⟨rfl, rfl, rfl, rfl⟩, rfl, Nat.zero_le _, by omega, by omega, rfl, rfl⟩ ?_
  rintro S ⟨i, a, mem, ts, pre, e5, ds, hds, htl, hi, ha, hme, hrec, rfl⟩
  have hpre := hds.ren
  have hdl : (pre ++ ds.map AV.d).length = i := by rw [hds.len, htl]
  unfold ac8L1
  refine bwp_seq fun K1 hK1 => ?_
  by_cases hlt : i < n
  · have hlt' : (i : Int) < n := by omega
    unfold smOo
    refine bwp_seq fun K hK => bwp_region rfl ?_
    simp -implicitDefEqProofs only [go_sem, ↓reduceIte, Nat.reduceEqDiff, Nat.reduceAdd, Nat.reduceLeDiff, Nat.reduceMul, Nat.reduceSub, Int.reduceLE, Int.reduceLT, Int.reduceEq, Int.reduceToNat, Int.reducePow, Int.reduceNeg, hlt']
    refine hK _ ?_; clear hK
    refine bwp_cond true (by simp [ev, fget]) (fun _ => ?_) (fun h => nomatch h)
    refine bwp_skip ?_
    refine hK1 _ ?_; clear hK1
    refine bwp_seq fun K1 hK1 => ?_
    refine bwp_block ?_
    refine bwp_seq fun K hK => bwp_region rfl ?_
    simp -implicitDefEqProofs only [go_sem, ↓reduceIte, Nat.reduceEqDiff, Nat.reduceAdd, Nat.reduceLeDiff, Nat.reduceMul, Nat.reduceSub, Int.reduceLE, Int.reduceLT, Int.reduceEq, Int.reduceToNat, Int.reducePow, Int.reduceNeg]
    refine hK _ ?_; clear hK
    refine bwp_seq fun K2 hK2 => ?_
    refine bwp_seq fun K hK => bwp_region rfl ?_
    simp -implicitDefEqProofs only [go_sem, ↓reduceIte, Nat.reduceEqDiff, Nat.reduceAdd, Nat.reduceLeDiff, Nat.reduceMul, Nat.reduceSub, Int.reduceLE, Int.reduceLT, Int.reduceEq, Int.reduceToNat, Int.reducePow, Int.reduceNeg]
    refine ⟨rfl, next_callK hX (by omega) rfl ?_⟩
    have hk4 : nxN ls a % 3 + 1 ≤ 10 := by omega
    have hw3 : IntKind.i64.wrap (((nxN ls a % 3 : Nat) : Int) + 1) = ((nxN ls a % 3 + 1 : Nat) : Int) := by rw [wrap_i64 (by omega) (by omega)]; rfl
    simp -implicitDefEqProofs only [go_sem, ↓reduceIte, Nat.reduceEqDiff, Nat.reduceAdd, Nat.reduceLeDiff, Nat.reduceMul, Nat.reduceSub, Int.reduceLE, Int.reduceLT, Int.reduceEq, Int.reduceToNat, Int.reducePow, Int.reduceNeg, tm3, hw3]
    refine hK _ ?_; clear hK
    refine bwp_block ?_
    refine bwp_leads (S' := ⟨[(12, .d .nsl), (13, .d (.int .i64 (nxN ls a % 3 + 1 : Nat))), (1, .d (.int .i64 most)), (4, .ptr 0 0), (5, .ptr 1 0), (7, .fn 22 [.ptr 2 0, .dptr [X]]), (8, .d (.int .i64 n)), (9, .d (.int .i64 locs)), (10, .d (.int .i64 mem)), (11, .d (.int .i64 i))],
      [(0, [.d (.str []), .d .nsl, .d .nsl, .d (.int .i64 0), .d .nsl]), (1, [.d (.str [116]), .sl 6 2 0 ni, .sl 3 1 0 i, .d (.int .i64 0), .d .nsl]), (2, [.d (.int .i64 (a + 1 : Nat))]), (3, pre ++ ds.map .d), (5, e5.map .d), (6, ei.map .d)], 7⟩) (Leads.ent [(0, 0), (1, 1), (2, 2), (3, 3), (5, 5), (6, 6)] ⟨?_, ?_, rfl, rfl⟩) ?_
    · simp [entT, fget, AV.ren, renL, pget]
    · simp [entM, pinv, mget, renL, AV.ren, pget, renL_append, hpre]
    refine bwp_leads (Leads.nil 12 9 rfl rfl) ?_
    refine bwp_leads (S' := smSo X pre e5 ei ni ds n locs most i (nxN ls a % 3 + 1) (a + 1) mem []) (Leads.ent [(0, 0), (1, 1), (2, 2), (3, 3), (7, 4), (5, 5), (6, 6)] ⟨?_, ?_, rfl, rfl⟩) ?_
    · simp [smSo, smTo, entT, fget, AV.ren, renL, pget]
    · simp [smSo, smMo, entM, pinv, mget, mset, renL, AV.ren, pget, renL_append, hpre]
    refine small_loop_o hX hpre hl0 hl hmost _ _ _ _ hk4 (by omega) (by omega) (by simp; omega) ?_
    have hb := smallThread_bounds ls locs most (nxN ls a % 3 + 1) (a + 1) mem []
    have hrec2 : smallThreads ls locs most (n - i) a mem ts = smallThreads ls locs most (n - (i + 1)) (smallThread ls locs most (nxN ls a % 3 + 1) (a + 1) mem []).1 (smallThread ls locs most (nxN ls a % 3 + 1) (a + 1) mem []).2.1 (ts ++ [(smallThread ls locs most (nxN ls a % 3 + 1) (a + 1) mem []).2.2]) := by
      rw [show n - i = (n - (i + 1)) + 1 by omega]
      rfl
    generalize smallThread ls locs most (nxN ls a % 3 + 1) (a + 1) mem [] = r at hb hrec2
    obtain ⟨a', mem', s'⟩ := r
    simp only [List.length_nil, Nat.zero_add] at hb
    simp -implicitDefEqProofs only [go_sem, ↓reduceIte, Nat.reduceEqDiff, Nat.reduceAdd, Nat.reduceLeDiff, Nat.reduceMul, Nat.reduceSub, Int.reduceLE, Int.reduceLT, Int.reduceEq, Int.reduceToNat, Int.reducePow, Int.reduceNeg]
    refine hK2 _ ?_; clear hK2
    have htk : (s'.flatMap Ins.cells).take (s'.length * 9) = s'.flatMap Ins.cells := List.take_of_length_le (by rw [insLen]; omega)
    have hi24 : (i + 1) * 24 ≤ 140737488351232 := by omega
    have hwi : IntKind.i64.wrap ((i : Int) + 1) = ((i + 1 : Nat) : Int) := by rw [wrap_i64 (by omega) (by omega)]; rfl
    rcases hds with ⟨rfl, rfl, rfl, rfl⟩ | ⟨s0, ts', rfl, rfl, rfl, hd⟩
    · have hi0 : i = 0 := by simpa using htl.symm
      subst hi0
      refine bwp_leads (S' := ⟨[(12, .sl 5 9 0 s'.length), (1, .d (.int .i64 most)), (4, .ptr 0 0), (5, .ptr 1 0), (7, .fn 22 [.ptr 2 0, .dptr [X]]), (8, .d (.int .i64 n)), (9, .d (.int .i64 locs)), (10, .d (.int .i64 mem')), (11, .d (.int .i64 (0 : Nat)))],
        [(0, [.d (.str []), .d .nsl, .d .nsl, .d (.int .i64 0), .d .nsl]), (1, [.d (.str [116]), .sl 6 2 0 ni, .sl 3 1 0 0, .d (.int .i64 0), .d .nsl]), (2, [.d (.int .i64 a')]), (3, []), (5, (s'.flatMap Ins.cells).map .d), (6, ei.map .d)], 7⟩) (Leads.ent [(0, 0), (1, 1), (2, 2), (3, 3), (4, 5), (6, 6)] ⟨?_, ?_, rfl, rfl⟩) ?_
      · simp [smEo, smTo, entT, fget, AV.ren, renL, pget]
      · simp [smEo, smMo, entM, pinv, mget, renL, AV.ren, pget]
      refine bwp_region rfl ?_
      have hw1 : IntKind.i64.wrap 1 = 1 := wrap_i64 (by omega) (by omega)
      simp -implicitDefEqProofs only [go_sem, ↓reduceIte, Nat.reduceEqDiff, Nat.reduceAdd, Nat.reduceLeDiff, Nat.reduceMul, Nat.reduceSub, Int.reduceLE, Int.reduceLT, Int.reduceEq, Int.reduceToNat, Int.reducePow, Int.reduceNeg, List.length_nil, hi24]
      refine hK1 _ ?_; clear hK1
      refine bwp_region rfl ?_
      simp -implicitDefEqProofs only [go_sem, ↓reduceIte, Nat.reduceEqDiff, Nat.reduceAdd, Nat.reduceLeDiff, Nat.reduceMul, Nat.reduceSub, Int.reduceLE, Int.reduceLT, Int.reduceEq, Int.reduceToNat, Int.reducePow, Int.reduceNeg, hwi, hw1]
      refine ⟨smOo X [.sl 5 9 0 s'.length] (s'.flatMap Ins.cells) ei ni [] n locs most (0 + 1) a' mem', Leads.ent [(0, 0), (1, 1), (2, 2), (8, 3), (5, 5), (6, 6)] ⟨?_, ?_, rfl, rfl⟩, ⟨0 + 1, a', mem', [s'], _, _, [], .inr ⟨s', [], rfl, rfl, rfl, trivial⟩, rfl, by omega, by omega, by omega, hrec2.symm.trans hrec, rfl⟩, ?_⟩
      · simp [smOo, entT, fget, AV.ren, renL, pget, hw1]
      · simp [smOo, entM, pinv, mget, renL, AV.ren, pget, renL_append]
      · simp only [smOo, fget, ↓reduceIte, Nat.reduceEqDiff, Int.toNat_natCast]
        omega
    · refine bwp_leads (Leads.frz (S' := ⟨[(12, .d (.sl s'.length (s'.flatMap Ins.cells))), (1, .d (.int .i64 most)), (4, .ptr 0 0), (5, .ptr 1 0), (7, .fn 22 [.ptr 2 0, .dptr [X]]), (8, .d (.int .i64 n)), (9, .d (.int .i64 locs)), (10, .d (.int .i64 mem')), (11, .d (.int .i64 i))],
        [(0, [.d (.str []), .d .nsl, .d .nsl, .d (.int .i64 0), .d .nsl]), (1, [.d (.str [116]), .sl 6 2 0 ni, .sl 3 1 0 i, .d (.int .i64 0), .d .nsl]), (2, [.d (.int .i64 a')]), (3, .sl 5 9 0 s0.length :: ds.map .d), (5, (s0.flatMap Ins.cells).map .d), (6, ei.map .d)], 7⟩) [(0, 0), (1, 1), (2, 2), (3, 3), (5, 5), (6, 6)] [(4, s'.flatMap Ins.cells)] ⟨?_, ?_, rfl, rfl, ?_⟩) ?_
      · simp [smEo, smTo, frzT, fget, AV.cv, cvL, zget, pget, htk]
      · simp [smEo, smMo, frzM, pinv, zget, mget, cvL, AV.cv, pget, cvL_d]
      · simp [smEo, smMo, zokFrom, mget, cvL_d]
      have hdl2 : ds.length + 1 = i := by simpa using hdl
      refine bwp_region rfl ?_
      simp -implicitDefEqProofs only [go_sem, ↓reduceIte, Nat.reduceEqDiff, Nat.reduceAdd, Nat.reduceLeDiff, Nat.reduceMul, Nat.reduceSub, Int.reduceLE, Int.reduceLT, Int.reduceEq, Int.reduceToNat, Int.reducePow, Int.reduceNeg, List.length_append, List.length_cons, List.length_map, hdl2, hi24]
      refine hK1 _ ?_; clear hK1
      refine bwp_region rfl ?_
      simp -implicitDefEqProofs only [go_sem, ↓reduceIte, Nat.reduceEqDiff, Nat.reduceAdd, Nat.reduceLeDiff, Nat.reduceMul, Nat.reduceSub, Int.reduceLE, Int.reduceLT, Int.reduceEq, Int.reduceToNat, Int.reducePow, Int.reduceNeg, hwi]
      refine ⟨smOo X [.sl 5 9 0 s0.length] (s0.flatMap Ins.cells) ei ni (ds ++ [.sl s'.length (s'.flatMap Ins.cells)]) n locs most (i + 1) a' mem', Leads.ent [(0, 0), (1, 1), (2, 2), (8, 3), (5, 5), (6, 6)] ⟨?_, ?_, rfl, rfl⟩, ⟨i + 1, a', mem', (s0 :: ts') ++ [s'], _, _, _, .inr ⟨s0, ts' ++ [s'], rfl, rfl, rfl, hd.append ⟨by omega, .inr rfl⟩⟩, by simp only [List.length_append, htl, List.length_singleton], by omega, by omega, by omega, hrec2.symm.trans hrec, rfl⟩, ?_⟩
      · simp [smOo, entT, fget, AV.ren, renL, pget]
      · simp [smOo, entM, pinv, mget, renL, AV.ren, pget, renL_append]
      · simp only [smOo, fget, ↓reduceIte, Nat.reduceEqDiff, Int.toNat_natCast]
        omega
  · have hlt' : ¬ (i : Int) < n := by omega
    have hin : i = n := by omega
    unfold smOo
    refine bwp_seq fun K hK => bwp_region rfl ?_
    simp -implicitDefEqProofs only [go_sem, ↓reduceIte, Nat.reduceEqDiff, Nat.reduceAdd, Nat.reduceLeDiff, Nat.reduceMul, Nat.reduceSub, Int.reduceLE, Int.reduceLT, Int.reduceEq, Int.reduceToNat, Int.reducePow, Int.reduceNeg, hlt']
    refine hK _ ?_; clear hK
    refine bwp_cond false (by simp [ev, fget]) (fun h => nomatch h) (fun _ => ?_)
    subst hin
    refine bwp_leads (S' := smOo X pre e5 ei ni ds i locs most i a mem) (Leads.ent [(0, 0), (1, 1), (2, 2), (3, 3), (5, 5), (6, 6)] ⟨?_, ?_, rfl, rfl⟩) (bwp_exit ?_)
    · simp [smOo, entT, fget, AV.ren, renL, pget]
    · simp [smOo, entM, pinv, mget, renL, AV.ren, pget, renL_append, hpre]
    · rw [Nat.sub_self] at hrec
      simp only [smallThreads] at hrec
      simp -implicitDefEqProofs only [go_sem, ↓reduceIte, Nat.reduceEqDiff, Nat.reduceAdd, Nat.reduceLeDiff, Nat.reduceMul, Nat.reduceSub, Int.reduceLE, Int.reduceLT, Int.reduceEq, Int.reduceToNat, Int.reducePow, Int.reduceNeg]
      rw [← hrec] at hQ
      exact hQ pre e5 ds hds (by simp only; omega) mem

end Go.Proofs.YtgfkgngpganllaaDoor
