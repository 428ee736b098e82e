/- WellBounds: its loops. -/
import Derived.Test.YtjfghjakpjfgpaaG5
import Derived.Test.YtjfghjakpjfgpaaG4
namespace Go.Proofs.Ytjfghjakpjfgpaa
open Go Go.Jq
set_option maxRecDepth 100000
set_option linter.unusedSimpArgs false

/-- The frame's part that stays. -/
def wbF (th ins last locs rows atoms : Nat) (ex : Fr) : Fr :=
  ex ++ [(0, .d (.int .i64 th)), (1, .d (.int .i64 ins)), (2, .d (.int .i64 last)), (3, .d (.int .i64 locs)), (4, .d (.int .i64 rows)), (5, .d (.int .i64 atoms)), (12, .d (.bool false)), (13, .ptr 0 0)]

/-- In the threads' loop. -/
def wbA (th ins last locs rows atoms : Nat) (ds : List DV) (i al : Nat) : St :=
  ⟨wbF th ins last locs rows atoms [(15, .d (.int .i64 i)), (14, .d (.int .i64 al))], [(0, [.d (.str [110]), .d .nsl, .sl 1 1 0 i, .d (.int .i64 0), .d .nsl]), (1, ds.map .d)], 2⟩

/-- In the instructions' loop. -/
def wbI (th ins last locs rows atoms : Nat) (ds : List DV) (i al n : Nat) (L : List Ins) (k : Nat) : St :=
  ⟨wbF th ins last locs rows atoms [(17, .d (.int .i64 k)), (16, .d (.int .i64 n)), (15, .d (.int .i64 i)), (14, .d (.int .i64 al))],
    [(0, [.d (.str [110]), .d .nsl, .sl 1 1 0 (i + 1), .d (.int .i64 0), .d .nsl]), (1, ds.map .d ++ [.sl 2 9 0 n]), (2, (L.flatMap Ins.cells).map .d)], 3⟩

theorem wb_ins {th ins last locs rows atoms : Nat} {ds : List DV} {i al n : Nat} (hdl : ds.length = i) (hn : n ≤ 15) {Q : Exit → St → Prop} (hQ : Q (.exit 2) (wbI th ins last locs rows atoms ds i al n (List.replicate n fence) n)) :
    BWP Try.prog (mbound []) 160 (.loop ac8L0) (wbI th ins last locs rows atoms ds i al n (List.replicate n zeroIns) 0) Q := by
  refine bwp_count (fun k => wbI th ins last locs rows atoms ds i al n (List.replicate k fence ++ List.replicate (n - k) zeroIns) k) n ?_
  intro k hk
  have hLl : (List.replicate k fence ++ List.replicate (n - k) zeroIns).length = n := by simp; omega
  have hget : (ds.map AV.d ++ [AV.sl 2 9 0 n])[i]? = some (.sl 2 9 0 n) := by
    rw [List.getElem?_append_right (by simp [hdl])]
    simp [hdl]
  unfold ac8L0
  refine bwp_seq fun K1 hK1 => ?_
  by_cases hlt : k < n
  · have hlt' : (k : Int) < n := by omega
    have hset : (List.replicate k fence ++ List.replicate (n - k) zeroIns).set k fence = List.replicate (k + 1) fence ++ List.replicate (n - (k + 1)) zeroIns := by
      rw [show n - k = (n - (k + 1)) + 1 by omega]
      exact fill_next fence zeroIns k (n - (k + 1))
    generalize List.replicate k fence ++ List.replicate (n - k) zeroIns = L at hLl hset
    have hput := put_fence L k (by omega)
    simp only [putAt] at hput
    have hil := insLen L
    rw [hLl] at hil
    have hle : k * 9 + 9 ≤ n * 9 := by omega
    have hii : (i : Int) < ((i + 1 : Nat) : Int) := by omega
    have hw : IntKind.i64.wrap ((k : Int) + 1) = ((k + 1 : Nat) : Int) := by rw [wrap_i64 (by omega) (by omega)]; rfl
    unfold wbI wbF
    refine bwp_seq fun K hK => bwp_region rfl ?_
    simp -implicitDefEqProofs only [go_sem, ↓reduceIte, Nat.reduceEqDiff, Nat.reduceAdd, Nat.reduceLeDiff, Nat.reduceMul, Nat.reduceSub, Int.reduceLE, Int.reduceLT, Int.reduceEq, Int.reduceToNat, Int.reducePow, Int.reduceNeg, hlt']
    refine hK _ ?_; clear hK
    refine bwp_cond true (by simp [ev, fget]) (fun _ => ?_) (fun h => nomatch h)
    refine bwp_skip ?_
    refine hK1 _ ?_; clear hK1
    refine bwp_seq fun K1 hK1 => ?_
    refine bwp_block ?_
    refine bwp_region rfl ?_
    simp -implicitDefEqProofs only [go_sem, ↓reduceIte, Nat.reduceEqDiff, Nat.reduceAdd, Nat.reduceLeDiff, Nat.reduceMul, Nat.reduceSub, Int.reduceLE, Int.reduceLT, Int.reduceEq, Int.reduceToNat, Int.reducePow, Int.reduceNeg, Int.natCast_nonneg, hii, hlt', Int.toNat_natCast, List.getElem?_drop, hget, hput, hil, hle]
    refine hK1 _ ?_; clear hK1
    refine bwp_region rfl ?_
    simp -implicitDefEqProofs only [go_sem, ↓reduceIte, Nat.reduceEqDiff, Nat.reduceAdd, Nat.reduceLeDiff, Nat.reduceMul, Nat.reduceSub, Int.reduceLE, Int.reduceLT, Int.reduceEq, Int.reduceToNat, Int.reducePow, Int.reduceNeg, hw]
    exact ⟨hlt, (Leads.ent [(0, 0), (1, 1), (2, 2)] ⟨by simp [entT, fget, AV.ren, renL, pget, wbI, wbF, hset], by simp [entM, pinv, mget, mset, renL, AV.ren, pget, renL_append, -List.map_map, wbI, wbF, hset], rfl, rfl⟩)⟩
  · have hlt' : ¬ (k : Int) < n := by omega
    have hin : k = n := by omega
    subst hin
    have e : List.replicate k fence ++ List.replicate (k - k) zeroIns = List.replicate k fence := by simp
    rw [e]
    unfold wbI wbF
    refine bwp_seq fun K hK => bwp_region rfl ?_
    simp -implicitDefEqProofs only [go_sem, ↓reduceIte, Nat.reduceEqDiff, Nat.reduceAdd, Nat.reduceLeDiff, Nat.reduceMul, Nat.reduceSub, Int.reduceLE, Int.reduceLT, Int.reduceEq, Int.reduceToNat, Int.reducePow, Int.reduceNeg, hlt']
    refine hK _ ?_; clear hK
    refine bwp_cond false (by simp [ev, fget]) (fun h => nomatch h) (fun _ => ?_)
    refine bwp_leads (S' := wbI th ins last locs rows atoms ds i al k (List.replicate k fence) k) (Leads.ent [(0, 0), (1, 1), (2, 2)] ⟨by simp [entT, fget, AV.ren, renL, pget, wbI, wbF], by simp [entM, pinv, mget, mset, renL, AV.ren, pget, renL_append, -List.map_map, wbI, wbF], rfl, rfl⟩) ?_
    exact bwp_exit hQ

theorem wb_threads {th ins last locs rows atoms : Nat} (hth : th ≤ 7) (hins : ins ≤ 15) (hlast : last ≤ 15) {Q : Exit → St → Prop}
    (hQ : ∀ ds, IsSls Ins.cells (wbThreads th ins last th) ds → ds.length = th → Q (.exit 0) (wbA th ins last locs rows atoms ds th (sumLen (wbThreads th ins last th)))) :
    BWP Try.prog (mbound []) 160 (.loop ac8L1) (wbA th ins last locs rows atoms [] 0 0) Q := by
  refine bwp_fam (ι := { p : Nat × List DV // p.1 ≤ th ∧ IsSls Ins.cells (wbThreads th ins last p.1) p.2 }) (fun p => wbA th ins last locs rows atoms p.1.2 p.1.1 (sumLen (wbThreads th ins last p.1.1))) (fun p => th - p.1.1) ⟨(0, []), Nat.zero_le _, trivial⟩ ?_
  rintro ⟨⟨i, ds⟩, hi, hds⟩
  simp only at hi hds
  have hdl : ds.length = i := by rw [hds.length, wb_len]
  have hsum : sumLen (wbThreads th ins last i) ≤ 15 * i := by
    clear hds hdl
    induction i with
    | zero => simp [wbThreads, sumLen]
    | succ i ih =>
      rw [wbThreads_next, sumLen_append, List.length_replicate]
      have := ih (by omega)
      unfold wbLen
      split <;> omega
  simp only
  generalize hal : sumLen (wbThreads th ins last i) = al at hsum
  unfold ac8L1
  refine bwp_seq fun K1 hK1 => ?_
  by_cases hlt : i < th
  · have hlt' : (i : Int) < th := by omega
    have hw : IntKind.i64.wrap ((i : Int) + 1) = ((i + 1 : Nat) : Int) := by rw [wrap_i64 (by omega) (by omega)]; rfl
    have hwt : IntKind.i64.wrap ((th : Int) - 1) = (th : Int) - 1 := wrap_i64 (by omega) (by omega)
    unfold wbA wbF
    refine bwp_seq fun K hK => bwp_region rfl ?_
    simp -implicitDefEqProofs only [go_sem, ↓reduceIte, Nat.reduceEqDiff, Nat.reduceAdd, Nat.reduceLeDiff, Nat.reduceMul, Nat.reduceSub, Int.reduceLE, Int.reduceLT, Int.reduceEq, Int.reduceToNat, Int.reducePow, Int.reduceNeg, hlt']
    refine hK _ ?_; clear hK
    refine bwp_cond true (by simp [ev, fget]) (fun _ => ?_) (fun h => nomatch h)
    refine bwp_skip ?_
    refine hK1 _ ?_; clear hK1
    refine bwp_seq fun K1 hK1 => ?_
    refine bwp_block ?_
    refine bwp_seq fun K hK => bwp_region rfl ?_
    simp -implicitDefEqProofs only [go_sem, ↓reduceIte, Nat.reduceEqDiff, Nat.reduceAdd, Nat.reduceLeDiff, Nat.reduceMul, Nat.reduceSub, Int.reduceLE, Int.reduceLT, Int.reduceEq, Int.reduceToNat, Int.reducePow, Int.reduceNeg]
    refine hK _ ?_; clear hK
    refine bwp_seq fun K2 hK2 => ?_
    have mid : ∀ t : Fr, fget t 0 = .d (.int .i64 th) → fget t 1 = .d (.int .i64 ins) → fget t 2 = .d (.int .i64 last) → fget t 3 = .d (.int .i64 locs) → fget t 4 = .d (.int .i64 rows) → fget t 5 = .d (.int .i64 atoms) → fget t 12 = .d (.bool false) → fget t 13 = .ptr 0 0 →
        fget t 15 = .d (.int .i64 i) → fget t 14 = .d (.int .i64 al) → fget t 16 = .d (.int .i64 (wbLen th ins last i)) → K2 ⟨t, [(0, [.d (.str [110]), .d .nsl, .sl 1 1 0 i, .d (.int .i64 0), .d .nsl]), (1, ds.map .d)], 2⟩ := by
      intro t h0 h1 h2 h3 h4 h5 h12 h13 h15 h14 h16
      have hnl : wbLen th ins last i ≤ 15 := by unfold wbLen; split <;> omega
      have hnx := wbThreads_next th ins last i
      have hsx : sumLen (wbThreads th ins last (i + 1)) = al + wbLen th ins last i := by rw [hnx, sumLen_append, hal, List.length_replicate]
      generalize wbLen th ins last i = n at *
      have hwa : IntKind.i64.wrap ((al : Int) + n) = ((al + n : Nat) : Int) := by rw [wrap_i64 (by omega) (by omega)]; omega
      have hmb : 72 * (n : Int) ≤ 140737488351232 := by omega
      have hmc : (n : Int) ≤ 9223372036854775807 := by omega
      have hz9 := zeros9 n
      have hi24 : (i + 1) * 24 ≤ 140737488351232 := by omega
      refine hK2 _ ?_; clear hK2
      refine bwp_seq fun K hK => bwp_region rfl ?_
      simp -implicitDefEqProofs only [go_sem, ↓reduceIte, Nat.reduceEqDiff, Nat.reduceAdd, Nat.reduceLeDiff, Nat.reduceMul, Nat.reduceSub, Int.reduceLE, Int.reduceLT, Int.reduceEq, Int.reduceToNat, Int.reducePow, Int.reduceNeg, h14, h16, hwa]
      refine hK _ ?_; clear hK
      refine bwp_seq fun K hK => bwp_region_draw rfl rfl ?_
      simp -implicitDefEqProofs only [go_sem, ↓reduceIte, Nat.reduceEqDiff, Nat.reduceAdd, Nat.reduceLeDiff, Nat.reduceMul, Nat.reduceSub, Int.reduceLE, Int.reduceLT, Int.reduceEq, Int.reduceToNat, Int.reducePow, Int.reduceNeg, h13, h16, Int.natCast_nonneg, Int.le_refl, hmb, hmc, Int.toNat_natCast, hz9, List.length_append, hdl, hi24]
      refine ⟨rfl, hK _ ?_⟩; clear hK
      refine bwp_seq fun K hK => bwp_region rfl ?_
      simp -implicitDefEqProofs only [go_sem, ↓reduceIte, Nat.reduceEqDiff, Nat.reduceAdd, Nat.reduceLeDiff, Nat.reduceMul, Nat.reduceSub, Int.reduceLE, Int.reduceLT, Int.reduceEq, Int.reduceToNat, Int.reducePow, Int.reduceNeg]
      refine hK _ ?_; clear hK
      refine bwp_block ?_
      refine bwp_leads (S' := wbI th ins last locs rows atoms ds i (al + n) n (List.replicate n zeroIns) 0) (Leads.ent [(0, 0), (7, 1), (5, 2)] ⟨by simp [entT, fget, AV.ren, renL, pget, wbI, wbF, h0, h1, h2, h3, h4, h5, h12, h13, h15, h16], by simp [entM, pinv, mget, mset, renL, AV.ren, pget, renL_append, -List.map_map, wbI, wbF, h0, h1, h2, h3, h4, h5, h12, h13, h15, h16], rfl, rfl⟩) ?_
      refine wb_ins hdl hnl ?_
      have htk : ((List.replicate n fence).flatMap Ins.cells).take (n * 9) = (List.replicate n fence).flatMap Ins.cells := List.take_of_length_le (by rw [insLen, List.length_replicate]; omega)
      have hsl : IsSl Ins.cells (List.replicate n fence) (.sl n ((List.replicate n fence).flatMap Ins.cells)) := ⟨by simp; omega, .inr (by simp)⟩
      unfold wbI wbF
      generalize (List.replicate n fence).flatMap Ins.cells = c at htk hsl
      simp -implicitDefEqProofs only [go_sem, ↓reduceIte, Nat.reduceEqDiff, Nat.reduceAdd, Nat.reduceLeDiff, Nat.reduceMul, Nat.reduceSub, Int.reduceLE, Int.reduceLT, Int.reduceEq, Int.reduceToNat, Int.reducePow, Int.reduceNeg]
      refine hK1 _ ?_; clear hK1
      refine bwp_leads (S' := ⟨wbF th ins last locs rows atoms [(15, .d (.int .i64 i)), (14, .d (.int .i64 (al + n : Nat)))], [(0, [.d (.str [110]), .d .nsl, .sl 1 1 0 (i + 1), .d (.int .i64 0), .d .nsl]), (1, (ds ++ [DV.sl n c]).map .d)], 2⟩) (Leads.frz [(0, 0), (1, 1)] [(2, c)] ⟨?_, ?_, rfl, rfl, ?_⟩) ?_
      · simp [wbA, wbF, frzT, fget, AV.cv, cvL, zget, pget]
      · simp [frzM, pinv, zget, mget, cvL, AV.cv, pget, cvL_append, cvL_d, htk, -List.map_map]
      · simp [zokFrom, mget, cvL_d, -List.map_map]
      unfold wbF
      refine bwp_region rfl ?_
      simp -implicitDefEqProofs only [go_sem, ↓reduceIte, Nat.reduceEqDiff, Nat.reduceAdd, Nat.reduceLeDiff, Nat.reduceMul, Nat.reduceSub, Int.reduceLE, Int.reduceLT, Int.reduceEq, Int.reduceToNat, Int.reducePow, Int.reduceNeg, hw]
      refine ⟨⟨(i + 1, ds ++ [DV.sl n c]), hlt, ?_⟩, ?_, Leads.ent [(0, 0), (1, 1)] ⟨?_, ?_, rfl, rfl⟩⟩
      · simp only
        rw [hnx]
        exact hds.append hsl
      · simp only; omega
      · simp [wbA, wbF, entT, fget, AV.ren, renL, pget, hsx]
      · simp [wbA, entM, pinv, mget, renL, AV.ren, pget, renL_append, -List.map_map]
    refine bwp_seq fun K hK => bwp_region rfl ?_
    simp -implicitDefEqProofs only [go_sem, ↓reduceIte, Nat.reduceEqDiff, Nat.reduceAdd, Nat.reduceLeDiff, Nat.reduceMul, Nat.reduceSub, Int.reduceLE, Int.reduceLT, Int.reduceEq, Int.reduceToNat, Int.reducePow, Int.reduceNeg, hwt]
    refine hK _ ?_; clear hK
    by_cases hlast : i + 1 = th
    · have hl' : (i : Int) = (th : Int) - 1 := by omega
      have hwl : wbLen th ins last i = last := by unfold wbLen; rw [if_pos hlast]
      refine bwp_cond true (by simp [ev, fget, hl']) (fun _ => ?_) (fun h => nomatch h)
      refine bwp_region rfl ?_
      simp -implicitDefEqProofs only [go_sem, ↓reduceIte, Nat.reduceEqDiff, Nat.reduceAdd, Nat.reduceLeDiff, Nat.reduceMul, Nat.reduceSub, Int.reduceLE, Int.reduceLT, Int.reduceEq, Int.reduceToNat, Int.reducePow, Int.reduceNeg]
      exact mid _ rfl rfl rfl rfl rfl rfl rfl rfl rfl rfl (by rw [hwl]; rfl)
    · have hl' : ¬ (i : Int) = (th : Int) - 1 := by omega
      have hwl : wbLen th ins last i = ins := by unfold wbLen; rw [if_neg hlast]
      refine bwp_cond false (by simp [ev, fget, hl']) (fun h => nomatch h) (fun _ => ?_)
      refine bwp_skip ?_
      simp -implicitDefEqProofs only [go_sem, ↓reduceIte, Nat.reduceEqDiff, Nat.reduceAdd, Nat.reduceLeDiff, Nat.reduceMul, Nat.reduceSub, Int.reduceLE, Int.reduceLT, Int.reduceEq, Int.reduceToNat, Int.reducePow, Int.reduceNeg]
      exact mid _ rfl rfl rfl rfl rfl rfl rfl rfl rfl rfl (by rw [hwl]; rfl)
  · have hlt' : ¬ (i : Int) < th := by omega
    have hin : i = th := by omega
    subst hin
    unfold wbA wbF
    refine bwp_seq fun K hK => bwp_region rfl ?_
    simp -implicitDefEqProofs only [go_sem, ↓reduceIte, Nat.reduceEqDiff, Nat.reduceAdd, Nat.reduceLeDiff, Nat.reduceMul, Nat.reduceSub, Int.reduceLE, Int.reduceLT, Int.reduceEq, Int.reduceToNat, Int.reducePow, Int.reduceNeg, hlt']
    refine hK _ ?_; clear hK
    refine bwp_cond false (by simp [ev, fget]) (fun h => nomatch h) (fun _ => ?_)
    refine bwp_leads (S' := wbA i ins last locs rows atoms ds i al) (Leads.ent [(0, 0), (1, 1)] ⟨by simp [entT, fget, AV.ren, renL, pget, wbA, wbF], by simp [entM, pinv, mget, mset, renL, AV.ren, pget, renL_append, -List.map_map, wbA, wbF], rfl, rfl⟩) ?_
    rw [← hal]
    exact bwp_exit (hQ ds hds hdl)

end Go.Proofs.Ytjfghjakpjfgpaa
