/- WellBounds comes to true, whatever it is given. -/
import Derived.Test.YtjfghjakpjfgpaaG6
namespace Go.Proofs.Ytjfghjakpjfgpaa
open Go Go.Jq
set_option maxRecDepth 100000
set_option linter.unusedSimpArgs false

/-- In the locations' loop. -/
def wbB (th ins last locs rows atoms : Nat) (T : DV) (i al : Nat) : St :=
  ⟨wbF th ins last locs rows atoms [(18, .d (.int .i64 i)), (14, .d (.int .i64 al))], [(0, [.d (.str [110]), .sl 1 2 0 i, .d T, .d (.int .i64 0), .d .nsl]), (1, ((wbInits i).flatMap Init.cells).map .d)], 2⟩

theorem initsLen (s : List Init) : (s.flatMap Init.cells).length = s.length * 2 := flat_len init_len s

theorem wbInits_len (k : Nat) : (wbInits k).length = k := by simp [wbInits]

theorem wb_initloop {th ins last locs rows atoms : Nat} (hl : locs ≤ 7) {T : DV} {al : Nat} {Q : Exit → St → Prop} (hQ : Q (.exit 4) (wbB th ins last locs rows atoms T locs al)) :
    BWP Try.prog (mbound []) 160 (.loop ac8L2) (wbB th ins last locs rows atoms T 0 al) Q := by
  refine bwp_count (fun i => wbB th ins last locs rows atoms T i al) locs ?_
  intro i hi
  unfold ac8L2
  refine bwp_seq fun K1 hK1 => ?_
  by_cases hlt : i < locs
  · have hlt' : (i : Int) < locs := by omega
    have hw : IntKind.i64.wrap ((i : Int) + 1) = ((i + 1 : Nat) : Int) := by rw [wrap_i64 (by omega) (by omega)]; rfl
    have hwl : IntKind.i64.wrap (97 + (i : Int)) = 97 + (i : Int) := wrap_i64 (by omega) (by omega)
    have hnx := wbInits_next i
    have hil := initsLen (wbInits i)
    rw [wbInits_len] at hil
    have hi16 : (i + 1) * 16 ≤ 140737488351232 := by omega
    unfold wbB wbF
    refine bwp_seq fun K hK => bwp_region rfl ?_
    simp -implicitDefEqProofs only [go_sem, ↓reduceIte, Nat.reduceEqDiff, Nat.reduceAdd, Nat.reduceLeDiff, Nat.reduceMul, Nat.reduceSub, Int.reduceLE, Int.reduceLT, Int.reduceEq, Int.reduceToNat, Int.reducePow, Int.reduceNeg, hlt']
    refine hK _ ?_; clear hK
    refine bwp_cond true (by simp [ev, fget]) (fun _ => ?_) (fun h => nomatch h)
    refine bwp_skip ?_
    refine hK1 _ ?_; clear hK1
    refine bwp_seq fun K1 hK1 => ?_
    refine bwp_block ?_
    refine bwp_region rfl ?_
    simp -implicitDefEqProofs only [go_sem, ↓reduceIte, Nat.reduceEqDiff, Nat.reduceAdd, Nat.reduceLeDiff, Nat.reduceMul, Nat.reduceSub, Int.reduceLE, Int.reduceLT, Int.reduceEq, Int.reduceToNat, Int.reducePow, Int.reduceNeg, hwl, hil, List.length_append, hi16]
    refine hK1 _ ?_; clear hK1
    refine bwp_region rfl ?_
    simp -implicitDefEqProofs only [go_sem, ↓reduceIte, Nat.reduceEqDiff, Nat.reduceAdd, Nat.reduceLeDiff, Nat.reduceMul, Nat.reduceSub, Int.reduceLE, Int.reduceLT, Int.reduceEq, Int.reduceToNat, Int.reducePow, Int.reduceNeg, hw]
    exact ⟨hlt, (Leads.ent [(0, 0), (3, 1)] ⟨by simp [entT, fget, AV.ren, renL, pget, wbB, wbF, hnx, Init.cells], by simp [entM, pinv, mget, mset, renL, AV.ren, pget, renL_append, -List.map_map, wbB, wbF, hnx, Init.cells], rfl, rfl⟩)⟩
  · have hlt' : ¬ (i : Int) < locs := by omega
    have hin : i = locs := by omega
    subst hin
    unfold wbB wbF
    refine bwp_seq fun K hK => bwp_region rfl ?_
    simp -implicitDefEqProofs only [go_sem, ↓reduceIte, Nat.reduceEqDiff, Nat.reduceAdd, Nat.reduceLeDiff, Nat.reduceMul, Nat.reduceSub, Int.reduceLE, Int.reduceLT, Int.reduceEq, Int.reduceToNat, Int.reducePow, Int.reduceNeg, hlt']
    refine hK _ ?_; clear hK
    refine bwp_cond false (by simp [ev, fget]) (fun h => nomatch h) (fun _ => ?_)
    refine bwp_leads (S' := wbB th ins last i rows atoms T i al) (Leads.ent [(0, 0), (1, 1)] ⟨by simp [entT, fget, AV.ren, renL, pget, wbB, wbF], by simp [entM, pinv, mget, mset, renL, AV.ren, pget, renL_append, -List.map_map, wbB, wbF], rfl, rfl⟩) ?_
    exact bwp_exit hQ

/-- In the rows' loop. -/
def wbC (th ins last locs rows atoms : Nat) (I T : DV) (ds : List DV) (i al : Nat) : St :=
  ⟨wbF th ins last locs rows atoms [(19, .d (.int .i64 i)), (14, .d (.int .i64 al))], [(0, [.d (.str [110]), .d I, .d T, .d (.int .i64 2), .sl 1 1 0 i]), (1, ds.map .d)], 2⟩

theorem atomsLen (s : List Atom) : (s.flatMap Atom.cells).length = s.length * 4 := flat_len atom_len s

theorem wb_rowloop {th ins last locs rows atoms : Nat} (hr : rows ≤ 15) (ha : atoms ≤ 15) {I T : DV} {al : Nat} {Q : Exit → St → Prop}
    (hQ : ∀ ds, IsSls Atom.cells (wbRows rows atoms) ds → ds.length = rows → Q (.exit 6) (wbC th ins last locs rows atoms I T ds rows al)) :
    BWP Try.prog (mbound []) 160 (.loop ac8L3) (wbC th ins last locs rows atoms I T [] 0 al) Q := by
  refine bwp_fam (ι := { p : Nat × List DV // p.1 ≤ rows ∧ IsSls Atom.cells (wbRows p.1 atoms) p.2 }) (fun p => wbC th ins last locs rows atoms I T p.1.2 p.1.1 al) (fun p => rows - p.1.1) ⟨(0, []), Nat.zero_le _, trivial⟩ ?_
  rintro ⟨⟨i, ds⟩, hi, hds⟩
  simp only at hi hds
  have hdl : ds.length = i := by rw [hds.length]; simp [wbRows]
  simp only
  unfold ac8L3
  refine bwp_seq fun K1 hK1 => ?_
  by_cases hlt : i < rows
  · have hlt' : (i : Int) < rows := by omega
    have hw : IntKind.i64.wrap ((i : Int) + 1) = ((i + 1 : Nat) : Int) := by rw [wrap_i64 (by omega) (by omega)]; rfl
    have hmb : 32 * (atoms : Int) ≤ 140737488351232 := by omega
    have hmc : (atoms : Int) ≤ 9223372036854775807 := by omega
    have hz4 := zeros4 atoms
    have hi24 : (i + 1) * 24 ≤ 140737488351232 := by omega
    have hnx : wbRows (i + 1) atoms = wbRows i atoms ++ [List.replicate atoms zeroAtom] := by unfold wbRows; rw [List.replicate_succ']
    have hal : ((List.replicate atoms zeroAtom).flatMap Atom.cells).length = atoms * 4 := by rw [atomsLen, List.length_replicate]
    have hsl : IsSl Atom.cells (List.replicate atoms zeroAtom) (.sl atoms ((List.replicate atoms zeroAtom).flatMap Atom.cells)) := ⟨by simp; omega, .inr (by simp)⟩
    have htk : ((List.replicate atoms zeroAtom).flatMap Atom.cells).take (atoms * 4) = (List.replicate atoms zeroAtom).flatMap Atom.cells := List.take_of_length_le (by omega)
    generalize (List.replicate atoms zeroAtom).flatMap Atom.cells = c at *
    unfold wbC wbF
    refine bwp_seq fun K hK => bwp_region rfl ?_
    simp -implicitDefEqProofs only [go_sem, ↓reduceIte, Nat.reduceEqDiff, Nat.reduceAdd, Nat.reduceLeDiff, Nat.reduceMul, Nat.reduceSub, Int.reduceLE, Int.reduceLT, Int.reduceEq, Int.reduceToNat, Int.reducePow, Int.reduceNeg, hlt']
    refine hK _ ?_; clear hK
    refine bwp_cond true (by simp [ev, fget]) (fun _ => ?_) (fun h => nomatch h)
    refine bwp_skip ?_
    refine hK1 _ ?_; clear hK1
    refine bwp_seq fun K1 hK1 => ?_
    refine bwp_block ?_
    refine bwp_region_draw rfl rfl ?_
    simp -implicitDefEqProofs only [go_sem, ↓reduceIte, Nat.reduceEqDiff, Nat.reduceAdd, Nat.reduceLeDiff, Nat.reduceMul, Nat.reduceSub, Int.reduceLE, Int.reduceLT, Int.reduceEq, Int.reduceToNat, Int.reducePow, Int.reduceNeg, Int.natCast_nonneg, Int.le_refl, hmb, hmc, Int.toNat_natCast, hz4, List.length_append, hdl, hi24]
    refine ⟨rfl, ?_⟩
    refine hK1 _ ?_; clear hK1
    refine bwp_leads (S' := ⟨wbF th ins last locs rows atoms [(19, .d (.int .i64 i)), (14, .d (.int .i64 al))], [(0, [.d (.str [110]), .d I, .d T, .d (.int .i64 2), .sl 1 1 0 (i + 1)]), (1, (ds ++ [DV.sl atoms c]).map .d)], 2⟩) (Leads.frz [(0, 0), (8, 1)] [(6, c)] ⟨?_, ?_, rfl, rfl, ?_⟩) ?_
    · simp [wbF, frzT, fget, AV.cv, cvL, zget, pget]
    · simp [frzM, pinv, zget, mget, cvL, AV.cv, pget, cvL_append, cvL_d, htk, -List.map_map]
    · simp [zokFrom, mget, cvL_d, -List.map_map]
    unfold wbF
    refine bwp_region rfl ?_
    simp -implicitDefEqProofs only [go_sem, ↓reduceIte, Nat.reduceEqDiff, Nat.reduceAdd, Nat.reduceLeDiff, Nat.reduceMul, Nat.reduceSub, Int.reduceLE, Int.reduceLT, Int.reduceEq, Int.reduceToNat, Int.reducePow, Int.reduceNeg, hw]
    refine ⟨⟨(i + 1, ds ++ [DV.sl atoms c]), hlt, ?_⟩, ?_, Leads.ent [(0, 0), (1, 1)] ⟨?_, ?_, rfl, rfl⟩⟩
    · simp only
      rw [hnx]
      exact hds.append hsl
    · simp only; omega
    · simp [wbC, wbF, entT, fget, AV.ren, renL, pget]
    · simp [wbC, entM, pinv, mget, renL, AV.ren, pget, renL_append, -List.map_map]
  · have hlt' : ¬ (i : Int) < rows := by omega
    have hin : i = rows := by omega
    subst hin
    unfold wbC wbF
    refine bwp_seq fun K hK => bwp_region rfl ?_
    simp -implicitDefEqProofs only [go_sem, ↓reduceIte, Nat.reduceEqDiff, Nat.reduceAdd, Nat.reduceLeDiff, Nat.reduceMul, Nat.reduceSub, Int.reduceLE, Int.reduceLT, Int.reduceEq, Int.reduceToNat, Int.reducePow, Int.reduceNeg, hlt']
    refine hK _ ?_; clear hK
    refine bwp_cond false (by simp [ev, fget]) (fun h => nomatch h) (fun _ => ?_)
    refine bwp_leads (S' := wbC th ins last locs i atoms I T ds i al) (Leads.ent [(0, 0), (1, 1)] ⟨by simp [entT, fget, AV.ren, renL, pget, wbC, wbF], by simp [entM, pinv, mget, mset, renL, AV.ren, pget, renL_append, -List.map_map, wbC, wbF], rfl, rfl⟩) ?_
    exact bwp_exit (hQ ds hds hdl)

theorem wellBounds_pure (a0 a1 a2 a3 a4 a5 : Int) : Pure Try.prog 8 [.d (.int .i64 a0), .d (.int .i64 a1), .d (.int .i64 a2), .d (.int .i64 a3), .d (.int .i64 a4), .d (.int .i64 a5)] (.d (.bool true)) := by
  obtain ⟨th, hth, e0⟩ := bits_and_nat a0 7 (by omega)
  obtain ⟨ins, hins, e1⟩ := bits_and_nat a1 15 (by omega)
  obtain ⟨last, hlast, e2⟩ := bits_and_nat a2 15 (by omega)
  obtain ⟨locs, hlocs, e3⟩ := bits_and_nat a3 7 (by omega)
  obtain ⟨rows, hrows, e4⟩ := bits_and_nat a4 15 (by omega)
  obtain ⟨atoms, hatoms, e5⟩ := bits_and_nat a5 15 (by omega)
  have f0 : bits .and .i64 a0 7 = (th : Int) := e0
  have f1 : bits .and .i64 a1 15 = (ins : Int) := e1
  have f2 : bits .and .i64 a2 15 = (last : Int) := e2
  have f3 : bits .and .i64 a3 7 = (locs : Int) := e3
  have f4 : bits .and .i64 a4 15 = (rows : Int) := e4
  have f5 : bits .and .i64 a5 15 = (atoms : Int) := e5
  refine acalls_of Try.func8 ac8_ok Try.ntmps8 Try.results8 rfl ?_
  unfold ac8
  refine bwp_seq fun K hK => bwp_region rfl ?_
  simp -implicitDefEqProofs only [go_sem, ↓reduceIte, Nat.reduceEqDiff, Nat.reduceAdd, Nat.reduceLeDiff, Nat.reduceMul, Nat.reduceSub, Int.reduceLE, Int.reduceLT, Int.reduceEq, Int.reduceToNat, Int.reducePow, Int.reduceNeg]
  refine hK _ ?_; clear hK
  refine bwp_seq fun K hK => bwp_region rfl ?_
  simp -implicitDefEqProofs only [go_sem, ↓reduceIte, Nat.reduceEqDiff, Nat.reduceAdd, Nat.reduceLeDiff, Nat.reduceMul, Nat.reduceSub, Int.reduceLE, Int.reduceLT, Int.reduceEq, Int.reduceToNat, Int.reducePow, Int.reduceNeg, f0, f1, f2, f3, f4, f5]
  refine hK _ ?_; clear hK
  refine bwp_seq fun K hK => bwp_region rfl ?_
  simp -implicitDefEqProofs only [go_sem, ↓reduceIte, Nat.reduceEqDiff, Nat.reduceAdd, Nat.reduceLeDiff, Nat.reduceMul, Nat.reduceSub, Int.reduceLE, Int.reduceLT, Int.reduceEq, Int.reduceToNat, Int.reducePow, Int.reduceNeg]
  refine hK _ ?_; clear hK
  refine bwp_seq fun K hK => bwp_region rfl ?_
  simp -implicitDefEqProofs only [go_sem, ↓reduceIte, Nat.reduceEqDiff, Nat.reduceAdd, Nat.reduceLeDiff, Nat.reduceMul, Nat.reduceSub, Int.reduceLE, Int.reduceLT, Int.reduceEq, Int.reduceToNat, Int.reducePow, Int.reduceNeg]
  refine hK _ ?_; clear hK
  refine bwp_leads (S' := ⟨wbF th ins last locs rows atoms [(14, .d (.int .i64 (0 : Nat)))], [(0, [.d (.str [110]), .d .nsl, .d .nsl, .d (.int .i64 0), .d .nsl])], 1⟩) (Leads.ent [(0, 0)] ⟨by simp [entT, fget, AV.ren, renL, pget, wbF], by simp [entM, pinv, mget, mset, renL, AV.ren, pget, renL_append, -List.map_map, wbF], rfl, rfl⟩) ?_
  refine bwp_leads (Leads.nilCell 0 2 1 rfl rfl rfl rfl) ?_
  unfold wbF
  refine bwp_seq fun K1 hK1 => ?_
  refine bwp_seq fun K2 hK2 => ?_
  refine bwp_region rfl ?_
  simp -implicitDefEqProofs only [go_sem, ↓reduceIte, Nat.reduceEqDiff, Nat.reduceAdd, Nat.reduceLeDiff, Nat.reduceMul, Nat.reduceSub, Int.reduceLE, Int.reduceLT, Int.reduceEq, Int.reduceToNat, Int.reducePow, Int.reduceNeg]
  refine hK2 _ ?_; clear hK2
  refine bwp_block ?_
  refine bwp_leads (S' := wbA th ins last locs rows atoms [] 0 0) (Leads.ent [(0, 0), (1, 1)] ⟨by simp [entT, fget, AV.ren, renL, pget, wbA, wbF], by simp [entM, pinv, mget, mset, renL, AV.ren, pget, renL_append, -List.map_map, wbA, wbF], rfl, rfl⟩) ?_
  refine wb_threads hth hins hlast ?_
  intro ds hds hdl
  simp -implicitDefEqProofs only [go_sem, ↓reduceIte, Nat.reduceEqDiff, Nat.reduceAdd, Nat.reduceLeDiff, Nat.reduceMul, Nat.reduceSub, Int.reduceLE, Int.reduceLT, Int.reduceEq, Int.reduceToNat, Int.reducePow, Int.reduceNeg]
  refine hK1 _ ?_; clear hK1
  have htk : ds.take th = ds := List.take_of_length_le (by omega)
  have hT : IsSl2 Ins.cells (wbThreads th ins last th) (.sl th ds) := ⟨ds, ⟨by omega, .inr (by simp [hdl])⟩, hds⟩
  generalize hal : sumLen (wbThreads th ins last th) = al
  refine bwp_leads (S' := ⟨wbF th ins last locs rows atoms [(14, .d (.int .i64 al))], [(0, [.d (.str [110]), .d .nsl, .d (.sl th ds), .d (.int .i64 0), .d .nsl])], 1⟩) (Leads.frz [(0, 0)] [(1, ds)] ⟨?_, ?_, rfl, rfl, ?_⟩) ?_
  · simp [wbA, wbF, frzT, fget, AV.cv, cvL, zget, pget]
  · simp [wbA, frzM, pinv, zget, mget, cvL, AV.cv, pget, htk]
  · simp [wbA, zokFrom, mget, cvL_d]
  generalize DV.sl th ds = T at hT
  refine bwp_leads (Leads.nilCell 0 1 2 rfl rfl rfl rfl) ?_
  unfold wbF
  refine bwp_seq fun K1 hK1 => ?_
  refine bwp_seq fun K2 hK2 => ?_
  refine bwp_region rfl ?_
  simp -implicitDefEqProofs only [go_sem, ↓reduceIte, Nat.reduceEqDiff, Nat.reduceAdd, Nat.reduceLeDiff, Nat.reduceMul, Nat.reduceSub, Int.reduceLE, Int.reduceLT, Int.reduceEq, Int.reduceToNat, Int.reducePow, Int.reduceNeg]
  refine hK2 _ ?_; clear hK2
  refine bwp_block ?_
  refine bwp_leads (S' := wbB th ins last locs rows atoms T 0 al) (Leads.ent [(0, 0), (1, 1)] ⟨by simp [entT, fget, AV.ren, renL, pget, wbB, wbF, wbInits], by simp [entM, pinv, mget, mset, renL, AV.ren, pget, renL_append, -List.map_map, wbB, wbF, wbInits], rfl, rfl⟩) ?_
  refine wb_initloop hlocs ?_
  simp -implicitDefEqProofs only [go_sem, ↓reduceIte, Nat.reduceEqDiff, Nat.reduceAdd, Nat.reduceLeDiff, Nat.reduceMul, Nat.reduceSub, Int.reduceLE, Int.reduceLT, Int.reduceEq, Int.reduceToNat, Int.reducePow, Int.reduceNeg]
  refine hK1 _ ?_; clear hK1
  have htk2 : ((wbInits locs).flatMap Init.cells).take (locs * 2) = (wbInits locs).flatMap Init.cells := List.take_of_length_le (by rw [initsLen, wbInits_len]; omega)
  have hI : IsSl Init.cells (wbInits locs) (.sl locs ((wbInits locs).flatMap Init.cells)) := ⟨by rw [wbInits_len]; omega, .inr (by rw [wbInits_len])⟩
  unfold wbB
  generalize (wbInits locs).flatMap Init.cells = c at htk2 hI
  refine bwp_leads (S' := ⟨wbF th ins last locs rows atoms [(14, .d (.int .i64 al))], [(0, [.d (.str [110]), .d (.sl locs c), .d T, .d (.int .i64 0), .d .nsl])], 1⟩) (Leads.frz [(0, 0)] [(1, c)] ⟨?_, ?_, rfl, rfl, ?_⟩) ?_
  · simp [wbF, frzT, fget, AV.cv, cvL, zget, pget]
  · simp [frzM, pinv, zget, mget, cvL, AV.cv, pget, htk2]
  · simp [zokFrom, mget, cvL_d]
  generalize DV.sl locs c = I at hI
  have hck := wb_check (th := th) (ins := ins) (last := last) (rows := rows) (atoms := atoms) hlocs
  refine bwp_seq fun K1 hK1 => ?_
  have rest : ∀ (S : St) (t : Fr) (kd : Int) (A : DV), Leads (mbound []) 160 S ⟨t, [(0, [.d (.str [110]), .d I, .d T, .d (.int .i64 kd), .d A])], 1⟩ → fget t 0 = .d (.int .i64 th) → fget t 1 = .d (.int .i64 ins) → fget t 2 = .d (.int .i64 last) → fget t 3 = .d (.int .i64 locs) → fget t 4 = .d (.int .i64 rows) → fget t 5 = .d (.int .i64 atoms) → fget t 13 = .ptr 0 0 → fget t 14 = .d (.int .i64 al) →
      IsTest (wbTest th ins last locs rows atoms) [.str [110], I, T, .int .i64 kd, A] → (kd = 0 ↔ ¬ (0 < rows ∧ 0 < atoms)) → K1 S := by
    intro S t kd A hS h0 h1 h2 h3 h4 h5 h13 h14 hT hkd
    have hnm : (wbTest th ins last locs rows atoms).name.length ≤ 9223372036854775807 := by unfold wbTest; split <;> simp
    have hthl : (wbTest th ins last locs rows atoms).threads.length ≤ 1000000 := by unfold wbTest; split <;> simp only [wb_len] <;> omega
    refine hK1 _ ?_; clear hK1
    refine bwp_leads hS ?_
    refine bwp_seq fun K hK => bwp_region rfl ?_
    have fin : ∀ (t : Fr) (b : Bool), fget t 20 = .d (.bool b) → fget t 13 = .ptr 0 0 → wbGood th ins last locs rows atoms = b → K ⟨t, [(0, [.d (.str [110]), .d I, .d T, .d (.int .i64 kd), .d A])], 1⟩ := by
      intro t b h20 h13 hb
      rw [hb] at hck
      refine hK _ ?_; clear hK
      refine bwp_seq fun K hK => bwp_region rfl ?_
      simp -implicitDefEqProofs only [go_sem, ↓reduceIte, Nat.reduceEqDiff, Nat.reduceAdd, Nat.reduceLeDiff, Nat.reduceMul, Nat.reduceSub, Int.reduceLE, Int.reduceLT, Int.reduceEq, Int.reduceToNat, Int.reducePow, Int.reduceNeg, h13]
      refine callK_pure (check_pure hT hnm hthl) rfl rfl ?_
      rw [hck]
      simp -implicitDefEqProofs only [go_sem, ↓reduceIte, Nat.reduceEqDiff, Nat.reduceAdd, Nat.reduceLeDiff, Nat.reduceMul, Nat.reduceSub, Int.reduceLE, Int.reduceLT, Int.reduceEq, Int.reduceToNat, Int.reducePow, Int.reduceNeg]
      refine hK _ ?_; clear hK
      refine bwp_seq fun K hK => bwp_region rfl ?_
      simp -implicitDefEqProofs only [go_sem, ↓reduceIte, Nat.reduceEqDiff, Nat.reduceAdd, Nat.reduceLeDiff, Nat.reduceMul, Nat.reduceSub, Int.reduceLE, Int.reduceLT, Int.reduceEq, Int.reduceToNat, Int.reducePow, Int.reduceNeg]
      cases b
      · simp -implicitDefEqProofs only [go_sem, ↓reduceIte, Nat.reduceEqDiff, Nat.reduceAdd, Nat.reduceLeDiff, Nat.reduceMul, Nat.reduceSub, Int.reduceLE, Int.reduceLT, Int.reduceEq, Int.reduceToNat, Int.reducePow, Int.reduceNeg, h20]
        refine callK_pure awake5_pure rfl rfl ?_
        simp -implicitDefEqProofs only [go_sem, ↓reduceIte, Nat.reduceEqDiff, Nat.reduceAdd, Nat.reduceLeDiff, Nat.reduceMul, Nat.reduceSub, Int.reduceLE, Int.reduceLT, Int.reduceEq, Int.reduceToNat, Int.reducePow, Int.reduceNeg]
        refine hK _ ?_; clear hK
        refine bwp_ret ?_
        simp only [go_sem]
        refine aend_ret _ rfl rfl ⟨?_, rfl⟩
        rfl
      · simp -implicitDefEqProofs only [go_sem, ↓reduceIte, Nat.reduceEqDiff, Nat.reduceAdd, Nat.reduceLeDiff, Nat.reduceMul, Nat.reduceSub, Int.reduceLE, Int.reduceLT, Int.reduceEq, Int.reduceToNat, Int.reducePow, Int.reduceNeg, h20]
        refine callK_pure awake5_pure rfl rfl ?_
        simp -implicitDefEqProofs only [go_sem, ↓reduceIte, Nat.reduceEqDiff, Nat.reduceAdd, Nat.reduceLeDiff, Nat.reduceMul, Nat.reduceSub, Int.reduceLE, Int.reduceLT, Int.reduceEq, Int.reduceToNat, Int.reducePow, Int.reduceNeg]
        refine hK _ ?_; clear hK
        refine bwp_ret ?_
        simp only [go_sem]
        refine aend_ret _ rfl rfl ⟨?_, rfl⟩
        rfl
    clear hK
    unfold wbGood at fin
    rw [hal] at fin
    by_cases g1 : 1 ≤ th
    case neg =>
      have g1' : ¬ (1 : Int) ≤ th := by omega
      simp -implicitDefEqProofs only [go_sem, ↓reduceIte, Nat.reduceEqDiff, Nat.reduceAdd, Nat.reduceLeDiff, Nat.reduceMul, Nat.reduceSub, Int.reduceLE, Int.reduceLT, Int.reduceEq, Int.reduceToNat, Int.reducePow, Int.reduceNeg, h0, h1, h2, h3, h4, h5, h13, h14, g1']
      exact fin _ false rfl (by simp [fget, h13]) (by simp [g1])
    have g1' : (1 : Int) ≤ th := by omega
    by_cases g2 : th ≤ 4
    case neg =>
      have g2' : ¬ (th : Int) ≤ 4 := by omega
      simp -implicitDefEqProofs only [go_sem, ↓reduceIte, Nat.reduceEqDiff, Nat.reduceAdd, Nat.reduceLeDiff, Nat.reduceMul, Nat.reduceSub, Int.reduceLE, Int.reduceLT, Int.reduceEq, Int.reduceToNat, Int.reducePow, Int.reduceNeg, h0, h1, h2, h3, h4, h5, h13, h14, g1', g2']
      exact fin _ false rfl (by simp [fget, h13]) (by simp [g2])
    have g2' : (th : Int) ≤ 4 := by omega
    by_cases q : th = 1
    case pos =>
      have q' : (th : Int) = 1 := by omega
      by_cases g4 : last ≤ 10
      case neg =>
        have g4' : ¬ (last : Int) ≤ 10 := by omega
        simp -implicitDefEqProofs only [go_sem, ↓reduceIte, Nat.reduceEqDiff, Nat.reduceAdd, Nat.reduceLeDiff, Nat.reduceMul, Nat.reduceSub, Int.reduceLE, Int.reduceLT, Int.reduceEq, Int.reduceToNat, Int.reducePow, Int.reduceNeg, h0, h1, h2, h3, h4, h5, h13, h14, g1', g2', q', g4']
        exact fin _ false rfl (by simp [fget, h13]) (by simp [g4])
      have g4' : (last : Int) ≤ 10 := by omega
      by_cases g5 : al ≤ 24
      case neg =>
        have g5' : ¬ (al : Int) ≤ 24 := by omega
        simp -implicitDefEqProofs only [go_sem, ↓reduceIte, Nat.reduceEqDiff, Nat.reduceAdd, Nat.reduceLeDiff, Nat.reduceMul, Nat.reduceSub, Int.reduceLE, Int.reduceLT, Int.reduceEq, Int.reduceToNat, Int.reducePow, Int.reduceNeg, h0, h1, h2, h3, h4, h5, h13, h14, g1', g2', q', g4', g5']
        exact fin _ false rfl (by simp [fget, h13]) (by simp [g5])
      have g5' : (al : Int) ≤ 24 := by omega
      by_cases g6 : locs ≤ 4
      case neg =>
        have g6' : ¬ (locs : Int) ≤ 4 := by omega
        simp -implicitDefEqProofs only [go_sem, ↓reduceIte, Nat.reduceEqDiff, Nat.reduceAdd, Nat.reduceLeDiff, Nat.reduceMul, Nat.reduceSub, Int.reduceLE, Int.reduceLT, Int.reduceEq, Int.reduceToNat, Int.reducePow, Int.reduceNeg, h0, h1, h2, h3, h4, h5, h13, h14, g1', g2', q', g4', g5', g6']
        exact fin _ false rfl (by simp [fget, h13]) (by simp [g6])
      have g6' : (locs : Int) ≤ 4 := by omega
      by_cases g7 : kd = 0
      case pos =>
        have g7' := hkd.1 g7
        subst g7
        simp -implicitDefEqProofs only [go_sem, ↓reduceIte, Nat.reduceEqDiff, Nat.reduceAdd, Nat.reduceLeDiff, Nat.reduceMul, Nat.reduceSub, Int.reduceLE, Int.reduceLT, Int.reduceEq, Int.reduceToNat, Int.reducePow, Int.reduceNeg, h0, h1, h2, h3, h4, h5, h13, h14, g1', g2', q', g4', g5', g6']
        exact fin _ true rfl (by simp [fget, h13]) (by simp [g1, g2, q, g4, g5, g6, g7'])
      have g7' : 0 < rows ∧ 0 < atoms := Classical.byContradiction fun h => g7 (hkd.2 h)
      by_cases g8 : rows ≤ 8
      case neg =>
        have g8' : ¬ (rows : Int) ≤ 8 := by omega
        simp -implicitDefEqProofs only [go_sem, ↓reduceIte, Nat.reduceEqDiff, Nat.reduceAdd, Nat.reduceLeDiff, Nat.reduceMul, Nat.reduceSub, Int.reduceLE, Int.reduceLT, Int.reduceEq, Int.reduceToNat, Int.reducePow, Int.reduceNeg, h0, h1, h2, h3, h4, h5, h13, h14, g1', g2', q', g4', g5', g6', g7, g8']
        exact fin _ false rfl (by simp [fget, h13]) (by simp [g8, g7'])
      have g8' : (rows : Int) ≤ 8 := by omega
      by_cases g9 : atoms ≤ 8
      case neg =>
        have g9' : ¬ (atoms : Int) ≤ 8 := by omega
        simp -implicitDefEqProofs only [go_sem, ↓reduceIte, Nat.reduceEqDiff, Nat.reduceAdd, Nat.reduceLeDiff, Nat.reduceMul, Nat.reduceSub, Int.reduceLE, Int.reduceLT, Int.reduceEq, Int.reduceToNat, Int.reducePow, Int.reduceNeg, h0, h1, h2, h3, h4, h5, h13, h14, g1', g2', q', g4', g5', g6', g7, g8', g9']
        exact fin _ false rfl (by simp [fget, h13]) (by simp [g9, g7'])
      have g9' : (atoms : Int) ≤ 8 := by omega
      simp -implicitDefEqProofs only [go_sem, ↓reduceIte, Nat.reduceEqDiff, Nat.reduceAdd, Nat.reduceLeDiff, Nat.reduceMul, Nat.reduceSub, Int.reduceLE, Int.reduceLT, Int.reduceEq, Int.reduceToNat, Int.reducePow, Int.reduceNeg, h0, h1, h2, h3, h4, h5, h13, h14, g1', g2', q', g4', g5', g6', g7, g8', g9']
      exact fin _ true rfl (by simp [fget, h13]) (by simp [g1, g2, q, g4, g5, g6, g7', g8, g9])
    have q' : ¬ (th : Int) = 1 := by omega
    by_cases g3 : ins ≤ 10
    case neg =>
      have g3' : ¬ (ins : Int) ≤ 10 := by omega
      simp -implicitDefEqProofs only [go_sem, ↓reduceIte, Nat.reduceEqDiff, Nat.reduceAdd, Nat.reduceLeDiff, Nat.reduceMul, Nat.reduceSub, Int.reduceLE, Int.reduceLT, Int.reduceEq, Int.reduceToNat, Int.reducePow, Int.reduceNeg, h0, h1, h2, h3, h4, h5, h13, h14, g1', g2', q', g3']
      exact fin _ false rfl (by simp [fget, h13]) (by simp [q, g3])
    have g3' : (ins : Int) ≤ 10 := by omega
    by_cases g4 : last ≤ 10
    case neg =>
      have g4' : ¬ (last : Int) ≤ 10 := by omega
      simp -implicitDefEqProofs only [go_sem, ↓reduceIte, Nat.reduceEqDiff, Nat.reduceAdd, Nat.reduceLeDiff, Nat.reduceMul, Nat.reduceSub, Int.reduceLE, Int.reduceLT, Int.reduceEq, Int.reduceToNat, Int.reducePow, Int.reduceNeg, h0, h1, h2, h3, h4, h5, h13, h14, g1', g2', q', g3', g4']
      exact fin _ false rfl (by simp [fget, h13]) (by simp [g4])
    have g4' : (last : Int) ≤ 10 := by omega
    by_cases g5 : al ≤ 24
    case neg =>
      have g5' : ¬ (al : Int) ≤ 24 := by omega
      simp -implicitDefEqProofs only [go_sem, ↓reduceIte, Nat.reduceEqDiff, Nat.reduceAdd, Nat.reduceLeDiff, Nat.reduceMul, Nat.reduceSub, Int.reduceLE, Int.reduceLT, Int.reduceEq, Int.reduceToNat, Int.reducePow, Int.reduceNeg, h0, h1, h2, h3, h4, h5, h13, h14, g1', g2', q', g3', g4', g5']
      exact fin _ false rfl (by simp [fget, h13]) (by simp [g5])
    have g5' : (al : Int) ≤ 24 := by omega
    by_cases g6 : locs ≤ 4
    case neg =>
      have g6' : ¬ (locs : Int) ≤ 4 := by omega
      simp -implicitDefEqProofs only [go_sem, ↓reduceIte, Nat.reduceEqDiff, Nat.reduceAdd, Nat.reduceLeDiff, Nat.reduceMul, Nat.reduceSub, Int.reduceLE, Int.reduceLT, Int.reduceEq, Int.reduceToNat, Int.reducePow, Int.reduceNeg, h0, h1, h2, h3, h4, h5, h13, h14, g1', g2', q', g3', g4', g5', g6']
      exact fin _ false rfl (by simp [fget, h13]) (by simp [g6])
    have g6' : (locs : Int) ≤ 4 := by omega
    by_cases g7 : kd = 0
    case pos =>
      have g7' := hkd.1 g7
      subst g7
      simp -implicitDefEqProofs only [go_sem, ↓reduceIte, Nat.reduceEqDiff, Nat.reduceAdd, Nat.reduceLeDiff, Nat.reduceMul, Nat.reduceSub, Int.reduceLE, Int.reduceLT, Int.reduceEq, Int.reduceToNat, Int.reducePow, Int.reduceNeg, h0, h1, h2, h3, h4, h5, h13, h14, g1', g2', q', g3', g4', g5', g6']
      exact fin _ true rfl (by simp [fget, h13]) (by simp [g1, g2, q, g3, g4, g5, g6, g7'])
    have g7' : 0 < rows ∧ 0 < atoms := Classical.byContradiction fun h => g7 (hkd.2 h)
    by_cases g8 : rows ≤ 8
    case neg =>
      have g8' : ¬ (rows : Int) ≤ 8 := by omega
      simp -implicitDefEqProofs only [go_sem, ↓reduceIte, Nat.reduceEqDiff, Nat.reduceAdd, Nat.reduceLeDiff, Nat.reduceMul, Nat.reduceSub, Int.reduceLE, Int.reduceLT, Int.reduceEq, Int.reduceToNat, Int.reducePow, Int.reduceNeg, h0, h1, h2, h3, h4, h5, h13, h14, g1', g2', q', g3', g4', g5', g6', g7, g8']
      exact fin _ false rfl (by simp [fget, h13]) (by simp [g8, g7'])
    have g8' : (rows : Int) ≤ 8 := by omega
    by_cases g9 : atoms ≤ 8
    case neg =>
      have g9' : ¬ (atoms : Int) ≤ 8 := by omega
      simp -implicitDefEqProofs only [go_sem, ↓reduceIte, Nat.reduceEqDiff, Nat.reduceAdd, Nat.reduceLeDiff, Nat.reduceMul, Nat.reduceSub, Int.reduceLE, Int.reduceLT, Int.reduceEq, Int.reduceToNat, Int.reducePow, Int.reduceNeg, h0, h1, h2, h3, h4, h5, h13, h14, g1', g2', q', g3', g4', g5', g6', g7, g8', g9']
      exact fin _ false rfl (by simp [fget, h13]) (by simp [g9, g7'])
    have g9' : (atoms : Int) ≤ 8 := by omega
    simp -implicitDefEqProofs only [go_sem, ↓reduceIte, Nat.reduceEqDiff, Nat.reduceAdd, Nat.reduceLeDiff, Nat.reduceMul, Nat.reduceSub, Int.reduceLE, Int.reduceLT, Int.reduceEq, Int.reduceToNat, Int.reducePow, Int.reduceNeg, h0, h1, h2, h3, h4, h5, h13, h14, g1', g2', q', g3', g4', g5', g6', g7, g8', g9']
    exact fin _ true rfl (by simp [fget, h13]) (by simp [g1, g2, q, g3, g4, g5, g6, g7', g8, g9])
  by_cases hc : 0 < rows ∧ 0 < atoms
  · have r1 : (0 : Int) < rows := by omega
    have r2 : (0 : Int) < atoms := by omega
    unfold wbF
    refine bwp_seq fun K hK => bwp_region rfl ?_
    simp -implicitDefEqProofs only [go_sem, ↓reduceIte, Nat.reduceEqDiff, Nat.reduceAdd, Nat.reduceLeDiff, Nat.reduceMul, Nat.reduceSub, Int.reduceLE, Int.reduceLT, Int.reduceEq, Int.reduceToNat, Int.reducePow, Int.reduceNeg, r1, r2]
    refine hK _ ?_; clear hK
    refine bwp_cond true (by simp [ev, fget]) (fun _ => ?_) (fun h => nomatch h)
    refine bwp_seq fun K hK => bwp_region rfl ?_
    simp -implicitDefEqProofs only [go_sem, ↓reduceIte, Nat.reduceEqDiff, Nat.reduceAdd, Nat.reduceLeDiff, Nat.reduceMul, Nat.reduceSub, Int.reduceLE, Int.reduceLT, Int.reduceEq, Int.reduceToNat, Int.reducePow, Int.reduceNeg]
    refine hK _ ?_; clear hK
    refine bwp_leads (S' := ⟨wbF th ins last locs rows atoms [(14, .d (.int .i64 al))], [(0, [.d (.str [110]), .d I, .d T, .d (.int .i64 2), .d .nsl])], 1⟩) (Leads.ent [(0, 0)] ⟨by simp [entT, fget, AV.ren, renL, pget, wbF], by simp [entM, pinv, mget, mset, renL, AV.ren, pget, renL_append, -List.map_map, wbF], rfl, rfl⟩) ?_
    refine bwp_leads (Leads.nilCell 0 4 1 rfl rfl rfl rfl) ?_
    unfold wbF
    refine bwp_seq fun K hK => bwp_region rfl ?_
    simp -implicitDefEqProofs only [go_sem, ↓reduceIte, Nat.reduceEqDiff, Nat.reduceAdd, Nat.reduceLeDiff, Nat.reduceMul, Nat.reduceSub, Int.reduceLE, Int.reduceLT, Int.reduceEq, Int.reduceToNat, Int.reducePow, Int.reduceNeg]
    refine hK _ ?_; clear hK
    refine bwp_block ?_
    refine bwp_leads (S' := wbC th ins last locs rows atoms I T [] 0 al) (Leads.ent [(0, 0), (1, 1)] ⟨by simp [entT, fget, AV.ren, renL, pget, wbC, wbF], by simp [entM, pinv, mget, mset, renL, AV.ren, pget, renL_append, -List.map_map, wbC, wbF], rfl, rfl⟩) ?_
    refine wb_rowloop hrows hatoms ?_
    intro ds hds hdl
    simp -implicitDefEqProofs only [go_sem, ↓reduceIte, Nat.reduceEqDiff, Nat.reduceAdd, Nat.reduceLeDiff, Nat.reduceMul, Nat.reduceSub, Int.reduceLE, Int.reduceLT, Int.reduceEq, Int.reduceToNat, Int.reducePow, Int.reduceNeg]
    have htk : ds.take rows = ds := List.take_of_length_le (by omega)
    have hA : IsSl2 Atom.cells (wbRows rows atoms) (.sl rows ds) := ⟨ds, ⟨by omega, .inr (by simp [hdl])⟩, hds⟩
    refine rest _ (wbF th ins last locs rows atoms [(14, .d (.int .i64 al))]) 2 (.sl rows ds) (Leads.frz [(0, 0)] [(1, ds)] ⟨?_, ?_, rfl, rfl, ?_⟩) rfl rfl rfl rfl rfl rfl rfl rfl ?_ (by simp [hc])
    · simp [wbC, wbF, frzT, fget, AV.cv, cvL, zget, pget]
    · simp [wbC, frzM, pinv, zget, mget, cvL, AV.cv, pget, htk]
    · simp [wbC, zokFrom, mget, cvL_d]
    · unfold wbTest
      rw [if_pos hc]
      exact ⟨I, T, .sl rows ds, rfl, hI, hT, hA⟩
  · have hT0 : IsTest (wbTest th ins last locs rows atoms) [.str [110], I, T, .int .i64 0, .nsl] := by
      unfold wbTest
      rw [if_neg hc]
      exact ⟨I, T, .nsl, rfl, hI, hT, isSl2_nil⟩
    unfold wbF
    by_cases r1 : 0 < rows
    · have r1' : (0 : Int) < rows := by omega
      have r2' : ¬ (0 : Int) < atoms := by
        intro h
        exact hc ⟨r1, by omega⟩
      refine bwp_seq fun K hK => bwp_region rfl ?_
      simp -implicitDefEqProofs only [go_sem, ↓reduceIte, Nat.reduceEqDiff, Nat.reduceAdd, Nat.reduceLeDiff, Nat.reduceMul, Nat.reduceSub, Int.reduceLE, Int.reduceLT, Int.reduceEq, Int.reduceToNat, Int.reducePow, Int.reduceNeg, r1', r2']
      refine hK _ ?_; clear hK
      refine bwp_cond false (by simp [ev, fget]) (fun h => nomatch h) (fun _ => ?_)
      refine bwp_skip ?_
      simp -implicitDefEqProofs only [go_sem, ↓reduceIte, Nat.reduceEqDiff, Nat.reduceAdd, Nat.reduceLeDiff, Nat.reduceMul, Nat.reduceSub, Int.reduceLE, Int.reduceLT, Int.reduceEq, Int.reduceToNat, Int.reducePow, Int.reduceNeg]
      exact rest _ _ 0 .nsl (Leads.refl _) rfl rfl rfl rfl rfl rfl rfl rfl hT0 (by simp [hc])
    · have r1' : ¬ (0 : Int) < rows := by omega
      refine bwp_seq fun K hK => bwp_region rfl ?_
      simp -implicitDefEqProofs only [go_sem, ↓reduceIte, Nat.reduceEqDiff, Nat.reduceAdd, Nat.reduceLeDiff, Nat.reduceMul, Nat.reduceSub, Int.reduceLE, Int.reduceLT, Int.reduceEq, Int.reduceToNat, Int.reducePow, Int.reduceNeg, r1']
      refine hK _ ?_; clear hK
      refine bwp_cond false (by simp [ev, fget]) (fun h => nomatch h) (fun _ => ?_)
      refine bwp_skip ?_
      simp -implicitDefEqProofs only [go_sem, ↓reduceIte, Nat.reduceEqDiff, Nat.reduceAdd, Nat.reduceLeDiff, Nat.reduceMul, Nat.reduceSub, Int.reduceLE, Int.reduceLT, Int.reduceEq, Int.reduceToNat, Int.reducePow, Int.reduceNeg]
      exact rest _ _ 0 .nsl (Leads.refl _) rfl rfl rfl rfl rfl rfl rfl rfl hT0 (by simp [hc])

end Go.Proofs.Ytjfghjakpjfgpaa
