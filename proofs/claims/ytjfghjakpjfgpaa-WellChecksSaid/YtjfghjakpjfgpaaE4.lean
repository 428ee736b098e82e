/- What a test is compiled to, told without a heap: its threads, and the whole. -/
import Derived.Test.YtjfghjakpjfgpaaE3
namespace Go.Proofs.Ytjfghjakpjfgpaa
open Go Go.Jq
set_option maxRecDepth 100000
set_option linter.unusedSimpArgs false

/-- The state in the loop over threads. -/
def cpT (cs : List DV) (L Iv : DV) (ds : List DV) (j : Nat) : St :=
  ⟨[(7, .d (.int .i64 j)), (1, .dptr cs), (2, .ptr 0 0), (3, .ptr 1 0)], [(0, [.d .nsl, .d .nsl, .d .nsl]), (1, [.d L, .d Iv, .sl 2 1 0 j]), (2, ds.map .d)], 3⟩

/-- The state in the loop over a thread's instructions. -/
def cpI (cs : List DV) (L Iv : DV) (ds : List DV) (j k : Nat) (s : List Ins) : St :=
  ⟨[(9, .d (.int .i64 k)), (8, .sl 3 9 0 k), (7, .d (.int .i64 j)), (1, .dptr cs), (2, .ptr 0 0), (3, .ptr 1 0)], [(0, [.d .nsl, .d .nsl, .d .nsl]), (1, [.d L, .d Iv, .sl 2 1 0 j]), (2, ds.map .d), (3, (s.flatMap Ins.cells).map .d)], 4⟩

theorem comp_ins {t : Test} {I T A Iv : DV} {nm : List UInt8} {kd : Int} (hT : IsSl2 Ins.cells t.threads T) {locs : List UInt8} (hlb : locs.length ≤ 1000) {j : Nat} (hj : j < t.threads.length) (hbig : t.threads[j].length ≤ 1000000) {ds : List DV} (hdl : ds.length = j) {Q : Exit → St → Prop}
    (hQ : Q (.exit 6) (cpI [.str nm, I, T, .int .i64 kd, A] (bytesD locs) Iv ds j t.threads[j].length (t.threads[j].map (refIns locs)))) :
    BWP Try.prog (mbound []) 97 (.loop ac13L2) (cpI [.str nm, I, T, .int .i64 kd, A] (bytesD locs) Iv ds j 0 []) Q := by
  obtain ⟨cs2, d, rest2, hTe, hd, hjc, hD⟩ := hT.at j hj
  have hjl : (j : Int) < t.threads.length := by omega
  generalize t.threads[j] = l at hD hQ hbig
  refine bwp_count (fun k => cpI [.str nm, I, T, .int .i64 kd, A] (bytesD locs) Iv ds j k ((l.take k).map (refIns locs))) l.length ?_
  intro k hk
  unfold ac13L2
  refine bwp_seq fun K1 hK1 => ?_
  have hlen' := hD.len
  by_cases hlt : k < l.length
  · have hlt' : (k : Int) < l.length := by omega
    have hvl : ((l.take k).map (refIns locs)).length = k := by simp; omega
    have hnx : (l.take (k + 1)).map (refIns locs) = (l.take k).map (refIns locs) ++ [refIns locs l[k]] := by
      rw [List.take_add_one, List.getElem?_eq_getElem hlt, List.map_append]; rfl
    generalize (l.take k).map (refIns locs) = s at hvl hnx
    have hil := insLen s
    obtain ⟨cs, rest, hIe, hdrop, hcs⟩ := hD.at ins_len (by omega) k hlt
    have hw : IntKind.i64.wrap ((k : Int) + 1) = ((k + 1 : Nat) : Int) := by rw [wrap_i64 (by omega) (by omega)]; rfl
    have hk72 : (k + 1) * 72 ≤ 140737488351232 := by omega
    have hl9 : ∀ (n : Nat), (9 ≤ (n + 1 + 1 + 1 + 1 + 1 + 1 + 1 + 1 + 1)) = True := fun n => by simp
    unfold cpI
    refine bwp_seq fun K hK => bwp_region rfl ?_
    simp -implicitDefEqProofs only [go_sem, ↓reduceIte, Nat.reduceEqDiff, Nat.reduceAdd, Nat.reduceLeDiff, Nat.reduceMul, Nat.reduceSub, Int.reduceLE, Int.reduceLT, Int.reduceEq, Int.reduceToNat, Int.reducePow, Int.reduceNeg, hTe, hjl, Int.natCast_nonneg, Int.toNat_natCast, Nat.mul_one, hjc, hd, hlen', hlt']
    refine hK _ ?_; clear hK
    refine bwp_cond true (by simp [ev, fget]) (fun _ => ?_) (fun h => nomatch h)
    refine bwp_skip ?_
    refine hK1 _ ?_; clear hK1
    refine bwp_seq fun K1 hK1 => ?_
    refine bwp_block ?_
    refine bwp_seq fun K hK => bwp_region rfl ?_
    simp -implicitDefEqProofs only [go_sem, ↓reduceIte, Nat.reduceEqDiff, Nat.reduceAdd, Nat.reduceLeDiff, Nat.reduceMul, Nat.reduceSub, Int.reduceLE, Int.reduceLT, Int.reduceEq, Int.reduceToNat, Int.reducePow, Int.reduceNeg, hTe, hjl, Nat.mul_one, hjc, hd, hIe, hlt', Int.natCast_nonneg, Int.toNat_natCast, hcs, hdrop, Ins.cells, hl9]
    refine hK _ ?_; clear hK
    generalize l[k] = x at hnx hdrop
    refine bwp_seq fun K2 hK2 => ?_
    have mid : ∀ (t' : Fr) (y : Ins), fget t' 1 = .dptr [.str nm, I, T, .int .i64 kd, A] → fget t' 2 = .ptr 0 0 → fget t' 3 = .ptr 1 0 → fget t' 7 = .d (.int .i64 j) → fget t' 8 = .sl 3 9 0 k → fget t' 9 = .d (.int .i64 k) → fget t' 10 = .ptr 4 0 → y = refIns locs x →
        K2 ⟨t', [(0, [.d .nsl, .d .nsl, .d .nsl]), (1, [.d (bytesD locs), .d Iv, .sl 2 1 0 j]), (2, ds.map .d), (3, (s.flatMap Ins.cells).map .d), (4, (Ins.cells y).map .d)], 5⟩ := by
      intro t' y h1 h2 h3 h7 h8 h9 h10 hy
      refine hK2 _ ?_; clear hK2
      refine bwp_region rfl ?_
      simp -implicitDefEqProofs only [go_sem, ↓reduceIte, Nat.reduceEqDiff, Nat.reduceAdd, Nat.reduceLeDiff, Nat.reduceMul, Nat.reduceSub, Int.reduceLE, Int.reduceLT, Int.reduceEq, Int.reduceToNat, Int.reducePow, Int.reduceNeg, h1, h2, h3, h7, h8, h9, h10, Ins.cells, hk72, hil, hvl, List.length_append]
      refine hK1 _ ?_; clear hK1
      refine bwp_region rfl ?_
      simp -implicitDefEqProofs only [go_sem, ↓reduceIte, Nat.reduceEqDiff, Nat.reduceAdd, Nat.reduceLeDiff, Nat.reduceMul, Nat.reduceSub, Int.reduceLE, Int.reduceLT, Int.reduceEq, Int.reduceToNat, Int.reducePow, Int.reduceNeg, h9, hw]
      exact ⟨hlt, (Leads.ent [(0, 0), (1, 1), (2, 2), (6, 3)] ⟨by simp [entT, fget, AV.ren, renL, pget, cpI, hnx, ← hy, Ins.cells, h1, h2, h3, h7, h8, h9], by simp [entM, pinv, mget, mset, renL, AV.ren, pget, renL_append, -List.map_map, cpI, hnx, ← hy, Ins.cells, h1, h2, h3, h7, h8, h9], rfl, rfl⟩)⟩
    refine bwp_seq fun K hK => bwp_region rfl ?_
    simp -implicitDefEqProofs only [go_sem, ↓reduceIte, Nat.reduceEqDiff, Nat.reduceAdd, Nat.reduceLeDiff, Nat.reduceMul, Nat.reduceSub, Int.reduceLE, Int.reduceLT, Int.reduceEq, Int.reduceToNat, Int.reducePow, Int.reduceNeg]
    refine hK _ ?_; clear hK
    by_cases hx : x.loc = 0
    · refine bwp_cond false (by simp [ev, fget, hx]) (fun h => nomatch h) (fun _ => ?_)
      refine bwp_skip ?_
      simp -implicitDefEqProofs only [go_sem, ↓reduceIte, Nat.reduceEqDiff, Nat.reduceAdd, Nat.reduceLeDiff, Nat.reduceMul, Nat.reduceSub, Int.reduceLE, Int.reduceLT, Int.reduceEq, Int.reduceToNat, Int.reducePow, Int.reduceNeg]
      exact mid _ x (by simp [fget, hTe]) rfl rfl rfl rfl rfl rfl (by simp [refIns, hx])
    · refine bwp_cond true (by simp [ev, fget, hx]) (fun _ => ?_) (fun h => nomatch h)
      refine bwp_region rfl ?_
      simp -implicitDefEqProofs only [go_sem, ↓reduceIte, Nat.reduceEqDiff, Nat.reduceAdd, Nat.reduceLeDiff, Nat.reduceMul, Nat.reduceSub, Int.reduceLE, Int.reduceLT, Int.reduceEq, Int.reduceToNat, Int.reducePow, Int.reduceNeg]
      refine callK_lend [(2, ds)] [.agg [.d (bytesD locs), .d Iv, .d (.sl j ds)], .d (.int .i64 x.loc)] (place_pure hlb x.loc) ?_ ?_ (fun v h => by subst h; rfl) ?_
      · simp [zokFrom, mget, cvL_d]
      · have htk : ds.take j = ds := List.take_of_length_le (by omega)
        simp [cvL, AV.cv, zget, htk]
      · rintro v rfl
        simp -implicitDefEqProofs only [go_sem, ↓reduceIte, Nat.reduceEqDiff, Nat.reduceAdd, Nat.reduceLeDiff, Nat.reduceMul, Nat.reduceSub, Int.reduceLE, Int.reduceLT, Int.reduceEq, Int.reduceToNat, Int.reducePow, Int.reduceNeg]
        exact mid _ { x with loc := place locs x.loc } (by simp [fget, hTe]) rfl rfl rfl rfl rfl rfl (by simp [refIns, hx])
  · have hlt' : ¬ (k : Int) < l.length := by omega
    have hin : k = l.length := by omega
    subst hin
    rw [List.take_of_length_le (Nat.le_refl _)]
    unfold cpI
    refine bwp_seq fun K hK => bwp_region rfl ?_
    simp -implicitDefEqProofs only [go_sem, ↓reduceIte, Nat.reduceEqDiff, Nat.reduceAdd, Nat.reduceLeDiff, Nat.reduceMul, Nat.reduceSub, Int.reduceLE, Int.reduceLT, Int.reduceEq, Int.reduceToNat, Int.reducePow, Int.reduceNeg, hTe, hjl, Int.natCast_nonneg, Int.toNat_natCast, Nat.mul_one, hjc, hd, hlen', hlt']
    refine hK _ ?_; clear hK
    refine bwp_cond false (by simp [ev, fget]) (fun h => nomatch h) (fun _ => ?_)
    refine bwp_leads (S' := cpI [.str nm, I, T, .int .i64 kd, A] (bytesD locs) Iv ds j l.length (l.map (refIns locs))) (Leads.ent [(0, 0), (1, 1), (2, 2), (3, 3)] ⟨by simp [entT, fget, AV.ren, renL, pget, cpI, hTe], by simp [entM, pinv, mget, mset, renL, AV.ren, pget, renL_append, -List.map_map, cpI, hTe], rfl, rfl⟩) ?_
    exact bwp_exit hQ

theorem comp_threads {t : Test} {I T A Iv : DV} {nm : List UInt8} {kd : Int} (hT : IsSl2 Ins.cells t.threads T) {locs : List UInt8} (hlb : locs.length ≤ 1000) (hbig : t.threads.length ≤ 1000000) (hb2 : ∀ l ∈ t.threads, l.length ≤ 1000000) {Q : Exit → St → Prop}
    (hQ : ∀ ds, IsSls Ins.cells (t.threads.map (·.map (refIns locs))) ds → ds.length = t.threads.length → Q (.exit 4) (cpT [.str nm, I, T, .int .i64 kd, A] (bytesD locs) Iv ds t.threads.length)) :
    BWP Try.prog (mbound []) 97 (.loop ac13L3) (cpT [.str nm, I, T, .int .i64 kd, A] (bytesD locs) Iv [] 0) Q := by
  refine bwp_fam (ι := { p : Nat × List DV // p.1 ≤ t.threads.length ∧ IsSls Ins.cells ((t.threads.take p.1).map (·.map (refIns locs))) p.2 }) (fun p => cpT [.str nm, I, T, .int .i64 kd, A] (bytesD locs) Iv p.1.2 p.1.1) (fun p => t.threads.length - p.1.1) ⟨(0, []), Nat.zero_le _, trivial⟩ ?_
  rintro ⟨⟨j, ds⟩, hj, hds⟩
  simp only at hj hds
  have hdl : ds.length = j := by rw [hds.length]; simp; omega
  unfold ac13L3
  refine bwp_seq fun K1 hK1 => ?_
  have hlen' := hT.len
  by_cases hlt : j < t.threads.length
  · have hlt' : (j : Int) < t.threads.length := by omega
    have hw : IntKind.i64.wrap ((j : Int) + 1) = ((j + 1 : Nat) : Int) := by rw [wrap_i64 (by omega) (by omega)]; rfl
    have hj24 : (j + 1) * 24 ≤ 140737488351232 := by omega
    have hbl := hb2 t.threads[j] (List.getElem_mem hlt)
    have hnx : (t.threads.take (j + 1)).map (·.map (refIns locs)) = (t.threads.take j).map (·.map (refIns locs)) ++ [t.threads[j].map (refIns locs)] := by
      rw [List.take_add_one, List.getElem?_eq_getElem hlt, List.map_append]; rfl
    unfold cpT
    refine bwp_seq fun K hK => bwp_region rfl ?_
    simp -implicitDefEqProofs only [go_sem, ↓reduceIte, Nat.reduceEqDiff, Nat.reduceAdd, Nat.reduceLeDiff, Nat.reduceMul, Nat.reduceSub, Int.reduceLE, Int.reduceLT, Int.reduceEq, Int.reduceToNat, Int.reducePow, Int.reduceNeg, hlen', hlt']
    refine hK _ ?_; clear hK
    refine bwp_cond true (by simp [ev, fget]) (fun _ => ?_) (fun h => nomatch h)
    refine bwp_skip ?_
    refine hK1 _ ?_; clear hK1
    refine bwp_seq fun K1 hK1 => ?_
    refine bwp_block ?_
    refine bwp_seq fun K hK => bwp_region rfl ?_
    simp -implicitDefEqProofs only [go_sem, ↓reduceIte, Nat.reduceEqDiff, Nat.reduceAdd, Nat.reduceLeDiff, Nat.reduceMul, Nat.reduceSub, Int.reduceLE, Int.reduceLT, Int.reduceEq, Int.reduceToNat, Int.reducePow, Int.reduceNeg]
    refine hK _ ?_; clear hK
    refine bwp_seq fun K2 hK2 => ?_
    refine bwp_seq fun K3 hK3 => ?_
    refine bwp_region rfl ?_
    simp -implicitDefEqProofs only [go_sem, ↓reduceIte, Nat.reduceEqDiff, Nat.reduceAdd, Nat.reduceLeDiff, Nat.reduceMul, Nat.reduceSub, Int.reduceLE, Int.reduceLT, Int.reduceEq, Int.reduceToNat, Int.reducePow, Int.reduceNeg]
    refine hK3 _ ?_; clear hK3
    refine bwp_block ?_
    refine bwp_leads (S' := ⟨[(8, .d .nsl), (9, .d (.int .i64 (0 : Nat))), (7, .d (.int .i64 j)), (1, .dptr [.str nm, I, T, .int .i64 kd, A]), (2, .ptr 0 0), (3, .ptr 1 0)], [(0, [.d .nsl, .d .nsl, .d .nsl]), (1, [.d (bytesD locs), .d Iv, .sl 2 1 0 j]), (2, ds.map .d)], 3⟩) (Leads.ent [(0, 0), (1, 1), (2, 2)] ⟨by simp [entT, fget, AV.ren, renL, pget, cpI], by simp [entM, pinv, mget, mset, renL, AV.ren, pget, renL_append, -List.map_map, cpI], rfl, rfl⟩) ?_
    refine bwp_leads (Leads.nil 8 9 rfl rfl) ?_
    refine bwp_leads (S' := cpI [.str nm, I, T, .int .i64 kd, A] (bytesD locs) Iv ds j 0 []) (Leads.ent [(0, 0), (1, 1), (2, 2), (3, 3)] ⟨by simp [entT, fget, AV.ren, renL, pget, cpI], by simp [entM, pinv, mget, mset, renL, AV.ren, pget, renL_append, -List.map_map, cpI], rfl, rfl⟩) ?_
    refine comp_ins hT hlb hlt hbl hdl ?_
    generalize t.threads[j] = l at hnx hbl
    simp -implicitDefEqProofs only [go_sem, ↓reduceIte, Nat.reduceEqDiff, Nat.reduceAdd, Nat.reduceLeDiff, Nat.reduceMul, Nat.reduceSub, Int.reduceLE, Int.reduceLT, Int.reduceEq, Int.reduceToNat, Int.reducePow, Int.reduceNeg]
    refine hK2 _ ?_; clear hK2
    have hll : (l.map (refIns locs)).length = l.length := by simp
    have htk : ((l.map (refIns locs)).flatMap Ins.cells).take (l.length * 9) = (l.map (refIns locs)).flatMap Ins.cells := List.take_of_length_le (by rw [insLen]; omega)
    have hsl : IsSl Ins.cells (l.map (refIns locs)) (.sl l.length ((l.map (refIns locs)).flatMap Ins.cells)) := ⟨by omega, .inr (by rw [hll])⟩
    unfold cpI
    generalize (l.map (refIns locs)).flatMap Ins.cells = fs at htk hsl
    refine bwp_leads (Leads.frz (S' := ⟨[(8, .d (.sl l.length fs)), (7, .d (.int .i64 j)), (1, .dptr [.str nm, I, T, .int .i64 kd, A]), (2, .ptr 0 0), (3, .ptr 1 0)],
      [(0, [.d .nsl, .d .nsl, .d .nsl]), (1, [.d (bytesD locs), .d Iv, .sl 2 1 0 j]), (2, ds.map .d)], 3⟩) [(0, 0), (1, 1), (2, 2)] [(3, fs)] ⟨?_, ?_, rfl, rfl, ?_⟩) ?_
    · simp [frzT, fget, AV.cv, cvL, zget, pget, htk]
    · simp [frzM, pinv, zget, mget, cvL, AV.cv, pget, cvL_d]
    · simp [zokFrom, mget, cvL_d]
    refine bwp_region rfl ?_
    simp -implicitDefEqProofs only [go_sem, ↓reduceIte, Nat.reduceEqDiff, Nat.reduceAdd, Nat.reduceLeDiff, Nat.reduceMul, Nat.reduceSub, Int.reduceLE, Int.reduceLT, Int.reduceEq, Int.reduceToNat, Int.reducePow, Int.reduceNeg, List.length_append, hdl, hj24]
    refine hK1 _ ?_; clear hK1
    refine bwp_region rfl ?_
    simp -implicitDefEqProofs only [go_sem, ↓reduceIte, Nat.reduceEqDiff, Nat.reduceAdd, Nat.reduceLeDiff, Nat.reduceMul, Nat.reduceSub, Int.reduceLE, Int.reduceLT, Int.reduceEq, Int.reduceToNat, Int.reducePow, Int.reduceNeg, hw]
    refine ⟨⟨(j + 1, ds ++ [.sl l.length fs]), hlt, ?_⟩, ?_, Leads.ent [(0, 0), (1, 1), (4, 2)] ⟨?_, ?_, rfl, rfl⟩⟩
    · simp only
      rw [hnx]
      exact hds.append hsl
    · simp only; omega
    · simp [cpT, entT, fget, AV.ren, renL, pget]
    · simp [cpT, entM, pinv, mget, renL, AV.ren, pget, renL_append, -List.map_map]
  · have hlt' : ¬ (j : Int) < t.threads.length := by omega
    have hin : j = t.threads.length := by omega
    subst hin
    rw [List.take_of_length_le (Nat.le_refl _)] at hds
    unfold cpT
    refine bwp_seq fun K hK => bwp_region rfl ?_
    simp -implicitDefEqProofs only [go_sem, ↓reduceIte, Nat.reduceEqDiff, Nat.reduceAdd, Nat.reduceLeDiff, Nat.reduceMul, Nat.reduceSub, Int.reduceLE, Int.reduceLT, Int.reduceEq, Int.reduceToNat, Int.reducePow, Int.reduceNeg, hlen', hlt']
    refine hK _ ?_; clear hK
    refine bwp_cond false (by simp [ev, fget]) (fun h => nomatch h) (fun _ => ?_)
    refine bwp_leads (S' := cpT [.str nm, I, T, .int .i64 kd, A] (bytesD locs) Iv ds t.threads.length) (Leads.ent [(0, 0), (1, 1), (2, 2)] ⟨by simp [entT, fget, AV.ren, renL, pget, cpT], by simp [entM, pinv, mget, mset, renL, AV.ren, pget, renL_append, -List.map_map, cpT], rfl, rfl⟩) ?_
    exact bwp_exit (hQ ds hds hdl)

theorem refLocs_len (t : Test) : (refLocs t).length ≤ 26 := lets_len _ _

theorem compile_calls {t : Test} {cs : List DV} (hT : IsTest t cs) (hbig : t.threads.length ≤ 1000000) (hb2 : ∀ l ∈ t.threads, l.length ≤ 1000000) :
    ACalls Try.prog 13 [.agg (cs.map .d)] [] fun r m' => (∃ ps, r = .agg (ps.map .d) ∧ IsProg (refProg t) ps) ∧ m' = [] := by
  have hT0 := hT
  obtain ⟨I, T, A, rfl, hI, hTh, hA⟩ := hT
  have hll := refLocs_len t
  refine acalls_of Try.func13 ac13_ok Try.ntmps13 Try.results13 rfl ?_
  unfold ac13
  refine bwp_seq fun K hK => bwp_region rfl ?_
  simp -implicitDefEqProofs only [go_sem, ↓reduceIte, Nat.reduceEqDiff, Nat.reduceAdd, Nat.reduceLeDiff, Nat.reduceMul, Nat.reduceSub, Int.reduceLE, Int.reduceLT, Int.reduceEq, Int.reduceToNat, Int.reducePow, Int.reduceNeg]
  refine hK _ ?_; clear hK
  refine bwp_leads (S' := ⟨[(1, .dptr [.str t.name, I, T, .int .i64 t.kind, A]), (2, .ptr 0 0)], [(0, [.d .nsl, .d .nsl, .d .nsl])], 1⟩) (Leads.frz [(1, 0)] [(0, [.str t.name, I, T, .int .i64 t.kind, A])] ⟨?_, ?_, rfl, rfl, ?_⟩) ?_
  · simp [frzT, fget, AV.cv, cvL, zget, pget]
  · simp [frzM, pinv, zget, mget, cvL, AV.cv]
  · simp [zokFrom, mget, cvL, AV.cv]
  refine bwp_seq fun K hK => bwp_region rfl ?_
  simp -implicitDefEqProofs only [go_sem, ↓reduceIte, Nat.reduceEqDiff, Nat.reduceAdd, Nat.reduceLeDiff, Nat.reduceMul, Nat.reduceSub, Int.reduceLE, Int.reduceLT, Int.reduceEq, Int.reduceToNat, Int.reducePow, Int.reduceNeg]
  refine callK_pure (refLocs_pure hT0) rfl rfl ?_
  simp -implicitDefEqProofs only [go_sem, ↓reduceIte, Nat.reduceEqDiff, Nat.reduceAdd, Nat.reduceLeDiff, Nat.reduceMul, Nat.reduceSub, Int.reduceLE, Int.reduceLT, Int.reduceEq, Int.reduceToNat, Int.reducePow, Int.reduceNeg]
  refine hK _ ?_; clear hK
  refine bwp_leads (S' := ⟨[(1, .dptr [.str t.name, I, T, .int .i64 t.kind, A]), (2, .ptr 0 0), (3, .ptr 1 0)], [(0, [.d .nsl, .d .nsl, .d .nsl]), (1, [.d (bytesD (refLocs t)), .d .nsl, .d .nsl])], 2⟩) (Leads.ent [(0, 0), (1, 1)] ⟨?_, ?_, rfl, rfl⟩) ?_
  · simp [entT, fget, AV.ren, renL, pget]
  · simp [entM, pinv, mget, renL, AV.ren, pget]
  refine bwp_leads (Leads.nilCell 1 1 1 rfl rfl rfl rfl) ?_
  refine bwp_seq fun K1 hK1 => ?_
  refine bwp_seq fun K2 hK2 => ?_
  refine bwp_region rfl ?_
  simp -implicitDefEqProofs only [go_sem, ↓reduceIte, Nat.reduceEqDiff, Nat.reduceAdd, Nat.reduceLeDiff, Nat.reduceMul, Nat.reduceSub, Int.reduceLE, Int.reduceLT, Int.reduceEq, Int.reduceToNat, Int.reducePow, Int.reduceNeg]
  refine hK2 _ ?_; clear hK2
  refine bwp_block ?_
  refine bwp_leads (S' := cpA [.str t.name, I, T, .int .i64 t.kind, A] (bytesD (refLocs t)) [] [(4, .d (.int .i64 (0 : Nat)))]) (Leads.ent [(0, 0), (1, 1), (2, 2)] ⟨by simp [entT, fget, AV.ren, renL, pget, cpA], by simp [entM, pinv, mget, mset, renL, AV.ren, pget, renL_append, -List.map_map, cpA], rfl, rfl⟩) ?_
  refine comp_locs hI (by omega) ?_
  simp -implicitDefEqProofs only [go_sem, ↓reduceIte, Nat.reduceEqDiff, Nat.reduceAdd, Nat.reduceLeDiff, Nat.reduceMul, Nat.reduceSub, Int.reduceLE, Int.reduceLT, Int.reduceEq, Int.reduceToNat, Int.reducePow, Int.reduceNeg]
  refine hK1 _ ?_; clear hK1
  unfold cpA
  generalize hvs : (refLocs t).map (refInit t.inits) = vs
  have hvl : vs.length ≤ 26 := by rw [← hvs]; simpa using hll
  have htk : (vs.map (DV.int .i64)).take vs.length = vs.map (DV.int .i64) := List.take_of_length_le (by simp)
  have hIs : IsInts vs (.sl vs.length (vs.map (DV.int .i64))) := ⟨by simp; omega, .inr (by simp)⟩
  generalize vs.map (DV.int .i64) = is at htk hIs
  refine bwp_leads (Leads.frz (S' := ⟨[(1, .dptr [.str t.name, I, T, .int .i64 t.kind, A]), (2, .ptr 0 0), (3, .ptr 1 0)],
      [(0, [.d .nsl, .d .nsl, .d .nsl]), (1, [.d (bytesD (refLocs t)), .d (.sl vs.length is), .d .nsl])], 2⟩) [(0, 0), (1, 1)] [(2, is)] ⟨?_, ?_, rfl, rfl, ?_⟩) ?_
  · simp [frzT, fget, AV.cv, cvL, zget, pget]
  · simp [frzM, pinv, zget, mget, cvL, AV.cv, pget, htk]
  · simp [zokFrom, mget, cvL_d]
  generalize DV.sl vs.length is = Iv at hIs
  refine bwp_leads (Leads.nilCell 1 2 1 rfl rfl rfl rfl) ?_
  refine bwp_seq fun K1 hK1 => ?_
  refine bwp_seq fun K2 hK2 => ?_
  refine bwp_region rfl ?_
  simp -implicitDefEqProofs only [go_sem, ↓reduceIte, Nat.reduceEqDiff, Nat.reduceAdd, Nat.reduceLeDiff, Nat.reduceMul, Nat.reduceSub, Int.reduceLE, Int.reduceLT, Int.reduceEq, Int.reduceToNat, Int.reducePow, Int.reduceNeg]
  refine hK2 _ ?_; clear hK2
  refine bwp_block ?_
  refine bwp_leads (S' := cpT [.str t.name, I, T, .int .i64 t.kind, A] (bytesD (refLocs t)) Iv [] 0) (Leads.ent [(0, 0), (1, 1), (2, 2)] ⟨by simp [entT, fget, AV.ren, renL, pget, cpT], by simp [entM, pinv, mget, mset, renL, AV.ren, pget, renL_append, -List.map_map, cpT], rfl, rfl⟩) ?_
  refine comp_threads hTh (by omega) hbig hb2 ?_
  intro ds hds hdl
  unfold cpT
  simp -implicitDefEqProofs only [go_sem, ↓reduceIte, Nat.reduceEqDiff, Nat.reduceAdd, Nat.reduceLeDiff, Nat.reduceMul, Nat.reduceSub, Int.reduceLE, Int.reduceLT, Int.reduceEq, Int.reduceToNat, Int.reducePow, Int.reduceNeg]
  refine hK1 _ ?_; clear hK1
  have htk : ds.take t.threads.length = ds := List.take_of_length_le (by omega)
  refine bwp_seq fun K hK => bwp_region rfl ?_
  simp -implicitDefEqProofs only [go_sem, ↓reduceIte, Nat.reduceEqDiff, Nat.reduceAdd, Nat.reduceLeDiff, Nat.reduceMul, Nat.reduceSub, Int.reduceLE, Int.reduceLT, Int.reduceEq, Int.reduceToNat, Int.reducePow, Int.reduceNeg]
  refine hK _ ?_; clear hK
  refine bwp_leads (Leads.frz (S' := ⟨[(2, .ptr 0 0)], [(0, [.d (bytesD (refLocs t)), .d Iv, .d (.sl t.threads.length ds)])], 1⟩) [(0, 0)] [(2, ds)] ⟨?_, ?_, rfl, rfl, ?_⟩) ?_
  · simp [frzT, fget, AV.cv, cvL, zget, pget]
  · simp [frzM, pinv, zget, mget, mset, cvL, AV.cv, pget, htk]
  · simp [zokFrom, mget, mset, cvL_d, -List.map_map]
  have hld : ldk Try.prog 31 = some (some 3) := by kernel_rfl
  refine bwp_ret ?_
  simp only [go_sem]
  refine aend_mem (.agg ([bytesD (refLocs t), Iv, .sl t.threads.length ds].map .d)) [] [] ?_ rfl rfl trivial ?_
  · simp [resA, resVs, resV, fget, hld, mget, loadA]
  · refine ⟨⟨[bytesD (refLocs t), Iv, .sl t.threads.length ds], by simp [AV.ren, renL], Iv, .sl t.threads.length ds, rfl, ?_, ds, ⟨by omega, .inr (by simp [hdl])⟩, hds⟩, rfl⟩
    simp only [refProg]
    rw [hvs]
    exact hIs

end Go.Proofs.Ytjfghjakpjfgpaa
