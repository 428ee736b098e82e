/- Which locations a test names, told without a heap. -/
import Derived.Test.YtjfghjakpjfgpaaD6
import Derived.Test.YtjfghjakpjfgpaaXG
namespace Go.Proofs.Ytjfghjakpjfgpaa
open Go Go.Jq
set_option maxRecDepth 100000
set_option linter.unusedSimpArgs false

theorem init_len (i : Init) : (Init.cells i).length = 2 := rfl
theorem ins_len (i : Ins) : (Ins.cells i).length = 9 := rfl
theorem atom_len (i : Atom) : (Atom.cells i).length = 4 := rfl

def mark (th : List Bool) (x : Int) : List Bool := th.set (low8 x) true

theorem marks_len {α : Type} (f : α → Int) : ∀ (l : List α) (th : List Bool), (l.foldl (fun th x => mark th (f x)) th).length = th.length
  | [], _ => rfl
  | a :: l, th => by rw [List.foldl_cons, marks_len f l]; simp [mark]

/-- The state in Locs: what was marked so far. -/
def lcS (cs : List DV) (th : List Bool) (ex : Fr) : St := ⟨ex ++ [(1, .dptr cs), (2, .d .nsl), (3, .ptr 0 0)], [(0, bcells th)], 1⟩

theorem locs_inits {t : Test} {I T A : DV} {nm : List UInt8} {kd : Int} (hI : IsSl Init.cells t.inits I) {th : List Bool} (hth : th.length = 256) {Q : Exit → St → Prop}
    (hQ : Q (.exit 0) (lcS [.str nm, I, T, .int .i64 kd, A] (t.inits.foldl (fun th x => mark th x.loc) th) [(4, .d (.int .i64 t.inits.length))])) :
    BWP Try.prog (mbound []) 98 (.loop ac20L0) (lcS [.str nm, I, T, .int .i64 kd, A] th [(4, .d (.int .i64 (0 : Nat)))]) Q := by
  have hbig := hI.1
  refine bwp_count (fun i => lcS [.str nm, I, T, .int .i64 kd, A] ((t.inits.take i).foldl (fun th x => mark th x.loc) th) [(4, .d (.int .i64 (i : Nat)))]) t.inits.length ?_
  intro i hi
  have hlen : ((t.inits.take i).foldl (fun th x => mark th x.loc) th).length = 256 := by
    rw [marks_len, hth]
  generalize hthi : (t.inits.take i).foldl (fun th x => mark th x.loc) th = thi at hlen
  unfold ac20L0 lcS
  refine bwp_seq fun K1 hK1 => ?_
  by_cases hlt : i < t.inits.length
  · have hlt' : (i : Int) < t.inits.length := by omega
    obtain ⟨cs, rest, hIe, hdrop, hcs⟩ := hI.at init_len (by omega) i hlt
    have hlo := low8_le t.inits[i].loc
    have hlo1 : low8 t.inits[i].loc + 1 ≤ 256 := by omega
    have hlo' : (low8 t.inits[i].loc : Int) < 256 := by omega
    refine bwp_seq fun K hK => bwp_region rfl ?_
    simp -implicitDefEqProofs only [go_sem, ↓reduceIte, Nat.reduceEqDiff, Nat.reduceAdd, Nat.reduceLeDiff, Nat.reduceMul, Nat.reduceSub, Int.reduceLE, Int.reduceLT, Int.reduceEq, Int.reduceToNat, Int.reducePow, Int.reduceNeg, hI.len, hlt']
    refine hK _ ?_; clear hK
    refine bwp_cond true (by simp [ev, fget]) (fun _ => ?_) (fun h => nomatch h)
    refine bwp_skip ?_
    refine hK1 _ ?_; clear hK1
    refine bwp_seq fun K1 hK1 => ?_
    refine bwp_block ?_
    refine bwp_region rfl ?_
    simp -implicitDefEqProofs only [go_sem, ↓reduceIte, Nat.reduceEqDiff, Nat.reduceAdd, Nat.reduceLeDiff, Nat.reduceMul, Nat.reduceSub, Int.reduceLE, Int.reduceLT, Int.reduceEq, Int.reduceToNat, Int.reducePow, Int.reduceNeg, hIe, hlt', Int.natCast_nonneg, Int.toNat_natCast, hcs, hdrop, Init.cells, low8_eq, hlo', hlen, hlo1]
    refine hK1 _ ?_; clear hK1
    have hnx := foldl_next (fun th (x : Init) => mark th x.loc) th t.inits i hlt
    rw [hthi] at hnx
    unfold mark at hnx ⊢
    have hw : IntKind.i64.wrap ((i : Int) + 1) = ((i + 1 : Nat) : Int) := by rw [wrap_i64 (by omega) (by omega)]; rfl
    refine bwp_region rfl ?_
    simp -implicitDefEqProofs only [go_sem, ↓reduceIte, Nat.reduceEqDiff, Nat.reduceAdd, Nat.reduceLeDiff, Nat.reduceMul, Nat.reduceSub, Int.reduceLE, Int.reduceLT, Int.reduceEq, Int.reduceToNat, Int.reducePow, Int.reduceNeg, hw]
    exact ⟨hlt, (Leads.ent [(0, 0)] ⟨by simp [entT, fget, AV.ren, renL, pget, hIe, hnx], by simp [entM, pinv, mget, mset, renL, AV.ren, pget, renL_append, -List.map_map, hIe, hnx], rfl, rfl⟩)⟩
  · have hlt' : ¬ (i : Int) < t.inits.length := by omega
    have hin : i = t.inits.length := by omega
    subst hin
    refine bwp_seq fun K hK => bwp_region rfl ?_
    simp -implicitDefEqProofs only [go_sem, ↓reduceIte, Nat.reduceEqDiff, Nat.reduceAdd, Nat.reduceLeDiff, Nat.reduceMul, Nat.reduceSub, Int.reduceLE, Int.reduceLT, Int.reduceEq, Int.reduceToNat, Int.reducePow, Int.reduceNeg, hI.len, hlt']
    refine hK _ ?_; clear hK
    refine bwp_cond false (by simp [ev, fget]) (fun h => nomatch h) (fun _ => ?_)
    rw [List.take_of_length_le (Nat.le_refl _)] at hthi
    refine bwp_leads (S' := lcS [.str nm, I, T, .int .i64 kd, A] (t.inits.foldl (fun th x => mark th x.loc) th) [(4, .d (.int .i64 (t.inits.length : Nat)))]) (Leads.ent [(0, 0)] ⟨by simp [entT, fget, AV.ren, renL, pget, lcS, hthi], by simp [entM, pinv, mget, mset, renL, AV.ren, pget, renL_append, -List.map_map, lcS, hthi], rfl, rfl⟩) ?_
    exact bwp_exit hQ

theorem markss_len {α : Type} (f : α → Int) : ∀ (l : List (List α)) (th : List Bool), (l.foldl (fun th l => l.foldl (fun th x => mark th (f x)) th) th).length = th.length
  | [], _ => rfl
  | a :: l, th => by rw [List.foldl_cons, markss_len f l, marks_len f a]

theorem locs_ins {t : Test} {I T A : DV} {nm : List UInt8} {kd : Int} (hT : IsSl2 Ins.cells t.threads T) {j : Nat} (hj : j < t.threads.length) {th : List Bool} (hth : th.length = 256) {Q : Exit → St → Prop}
    (hQ : Q (.exit 4) (lcS [.str nm, I, T, .int .i64 kd, A] (t.threads[j].foldl (fun th x => mark th x.loc) th) [(6, .d (.int .i64 t.threads[j].length)), (5, .d (.int .i64 j))])) :
    BWP Try.prog (mbound []) 98 (.loop ac20L1) (lcS [.str nm, I, T, .int .i64 kd, A] th [(6, .d (.int .i64 (0 : Nat))), (5, .d (.int .i64 j))]) Q := by
  obtain ⟨cs2, d, rest2, hTe, hd, hjc, hD⟩ := hT.at j hj
  have hjl : (j : Int) < t.threads.length := by omega
  generalize t.threads[j] = l at hD hQ
  have hbig := hD.1
  refine bwp_count (fun i => lcS [.str nm, I, T, .int .i64 kd, A] ((l.take i).foldl (fun th x => mark th x.loc) th) [(6, .d (.int .i64 (i : Nat))), (5, .d (.int .i64 j))]) l.length ?_
  intro i hi
  have hlen : ((l.take i).foldl (fun th x => mark th x.loc) th).length = 256 := by
    rw [marks_len, hth]
  generalize hthi : (l.take i).foldl (fun th x => mark th x.loc) th = thi at hlen
  unfold ac20L1 lcS
  refine bwp_seq fun K1 hK1 => ?_
  by_cases hlt : i < l.length
  · have hlt' : (i : Int) < l.length := by omega
    obtain ⟨cs, rest, hIe, hdrop, hcs⟩ := hD.at ins_len (by omega) i hlt
    have hlo := low8_le l[i].loc
    have hlo1 : low8 l[i].loc + 1 ≤ 256 := by omega
    have hlo' : (low8 l[i].loc : Int) < 256 := by omega
    have hlen' := hD.len
    refine bwp_seq fun K hK => bwp_region rfl ?_
    simp -implicitDefEqProofs only [go_sem, ↓reduceIte, Nat.reduceEqDiff, Nat.reduceAdd, Nat.reduceLeDiff, Nat.reduceMul, Nat.reduceSub, Int.reduceLE, Int.reduceLT, Int.reduceEq, Int.reduceToNat, Int.reducePow, Int.reduceNeg, hTe, hjl, Int.natCast_nonneg, Int.toNat_natCast, Nat.mul_one, hjc, hd, hlen', hlt']
    refine hK _ ?_; clear hK
    refine bwp_cond true (by simp [ev, fget]) (fun _ => ?_) (fun h => nomatch h)
    refine bwp_skip ?_
    refine hK1 _ ?_; clear hK1
    refine bwp_seq fun K1 hK1 => ?_
    refine bwp_block ?_
    refine bwp_region rfl ?_
    simp -implicitDefEqProofs only [go_sem, ↓reduceIte, Nat.reduceEqDiff, Nat.reduceAdd, Nat.reduceLeDiff, Nat.reduceMul, Nat.reduceSub, Int.reduceLE, Int.reduceLT, Int.reduceEq, Int.reduceToNat, Int.reducePow, Int.reduceNeg, hTe, hjl, Nat.mul_one, hjc, hd, hIe, hlt', Int.natCast_nonneg, Int.toNat_natCast, hcs, hdrop, Ins.cells, low8_eq, hlo', hlen, hlo1]
    refine hK1 _ ?_; clear hK1
    have hnx := foldl_next (fun th (x : Ins) => mark th x.loc) th l i hlt
    rw [hthi] at hnx
    unfold mark at hnx ⊢
    have hw : IntKind.i64.wrap ((i : Int) + 1) = ((i + 1 : Nat) : Int) := by rw [wrap_i64 (by omega) (by omega)]; rfl
    refine bwp_region rfl ?_
    simp -implicitDefEqProofs only [go_sem, ↓reduceIte, Nat.reduceEqDiff, Nat.reduceAdd, Nat.reduceLeDiff, Nat.reduceMul, Nat.reduceSub, Int.reduceLE, Int.reduceLT, Int.reduceEq, Int.reduceToNat, Int.reducePow, Int.reduceNeg, hw]
    exact ⟨hlt, (Leads.ent [(0, 0)] ⟨by simp [entT, fget, AV.ren, renL, pget, hTe, hnx], by simp [entM, pinv, mget, mset, renL, AV.ren, pget, renL_append, -List.map_map, hTe, hnx], rfl, rfl⟩)⟩
  · have hlt' : ¬ (i : Int) < l.length := by omega
    have hin : i = l.length := by omega
    subst hin
    have hlen' := hD.len
    refine bwp_seq fun K hK => bwp_region rfl ?_
    simp -implicitDefEqProofs only [go_sem, ↓reduceIte, Nat.reduceEqDiff, Nat.reduceAdd, Nat.reduceLeDiff, Nat.reduceMul, Nat.reduceSub, Int.reduceLE, Int.reduceLT, Int.reduceEq, Int.reduceToNat, Int.reducePow, Int.reduceNeg, hTe, hjl, Int.natCast_nonneg, Int.toNat_natCast, Nat.mul_one, hjc, hd, hlen', hlt']
    refine hK _ ?_; clear hK
    refine bwp_cond false (by simp [ev, fget]) (fun h => nomatch h) (fun _ => ?_)
    rw [List.take_of_length_le (Nat.le_refl _)] at hthi
    refine bwp_leads (S' := lcS [.str nm, I, T, .int .i64 kd, A] (l.foldl (fun th x => mark th x.loc) th) [(6, .d (.int .i64 (l.length : Nat))), (5, .d (.int .i64 j))]) (Leads.ent [(0, 0)] ⟨by simp [entT, fget, AV.ren, renL, pget, lcS, hTe, hthi], by simp [entM, pinv, mget, mset, renL, AV.ren, pget, renL_append, -List.map_map, lcS, hTe, hthi], rfl, rfl⟩) ?_
    exact bwp_exit hQ

theorem locs_threads {t : Test} {I T A : DV} {nm : List UInt8} {kd : Int} (hT : IsSl2 Ins.cells t.threads T) {th : List Bool} (hth : th.length = 256) {Q : Exit → St → Prop}
    (hQ : Q (.exit 2) (lcS [.str nm, I, T, .int .i64 kd, A] (t.threads.foldl (fun th l => l.foldl (fun th x => mark th x.loc) th) th) [(5, .d (.int .i64 t.threads.length))])) :
    BWP Try.prog (mbound []) 98 (.loop ac20L2) (lcS [.str nm, I, T, .int .i64 kd, A] th [(5, .d (.int .i64 (0 : Nat)))]) Q := by
  have hbig := hT.big
  refine bwp_count (fun j => lcS [.str nm, I, T, .int .i64 kd, A] ((t.threads.take j).foldl (fun th l => l.foldl (fun th x => mark th x.loc) th) th) [(5, .d (.int .i64 (j : Nat)))]) t.threads.length ?_
  intro j hj
  have hlen : ((t.threads.take j).foldl (fun th l => l.foldl (fun th x => mark th x.loc) th) th).length = 256 := by
    rw [markss_len, hth]
  generalize hthi : (t.threads.take j).foldl (fun th l => l.foldl (fun th x => mark th x.loc) th) th = thi at hlen
  unfold ac20L2
  refine bwp_seq fun K1 hK1 => ?_
  have hlen' := hT.len
  by_cases hlt : j < t.threads.length
  · have hlt' : (j : Int) < t.threads.length := by omega
    unfold lcS
    refine bwp_seq fun K hK => bwp_region rfl ?_
    simp -implicitDefEqProofs only [go_sem, ↓reduceIte, Nat.reduceEqDiff, Nat.reduceAdd, Nat.reduceLeDiff, Nat.reduceMul, Nat.reduceSub, Int.reduceLE, Int.reduceLT, Int.reduceEq, Int.reduceToNat, Int.reducePow, Int.reduceNeg, hlen', hlt']
    refine hK _ ?_; clear hK
    refine bwp_cond true (by simp [ev, fget]) (fun _ => ?_) (fun h => nomatch h)
    refine bwp_skip ?_
    refine hK1 _ ?_; clear hK1
    refine bwp_seq fun K1 hK1 => ?_
    refine bwp_block ?_
    refine bwp_seq fun K2 hK2 => ?_
    refine bwp_region rfl ?_
    simp -implicitDefEqProofs only [go_sem, ↓reduceIte, Nat.reduceEqDiff, Nat.reduceAdd, Nat.reduceLeDiff, Nat.reduceMul, Nat.reduceSub, Int.reduceLE, Int.reduceLT, Int.reduceEq, Int.reduceToNat, Int.reducePow, Int.reduceNeg]
    refine hK2 _ ?_; clear hK2
    refine bwp_block ?_
    refine bwp_leads (S' := lcS [.str nm, I, T, .int .i64 kd, A] thi [(6, .d (.int .i64 (0 : Nat))), (5, .d (.int .i64 j))]) (Leads.ent [(0, 0)] ⟨by simp [entT, fget, AV.ren, renL, pget, lcS], by simp [entM, pinv, mget, mset, renL, AV.ren, pget, renL_append, -List.map_map, lcS], rfl, rfl⟩) ?_
    refine locs_ins hT hlt hlen ?_
    have hnx := foldl_next (fun th (l : List Ins) => l.foldl (fun th x => mark th x.loc) th) th t.threads j hlt
    rw [hthi] at hnx
    rw [← hnx]
    unfold lcS
    simp -implicitDefEqProofs only [go_sem, ↓reduceIte, Nat.reduceEqDiff, Nat.reduceAdd, Nat.reduceLeDiff, Nat.reduceMul, Nat.reduceSub, Int.reduceLE, Int.reduceLT, Int.reduceEq, Int.reduceToNat, Int.reducePow, Int.reduceNeg]
    refine hK1 _ ?_; clear hK1
    have hw : IntKind.i64.wrap ((j : Int) + 1) = ((j + 1 : Nat) : Int) := by rw [wrap_i64 (by omega) (by omega)]; rfl
    refine bwp_region rfl ?_
    simp -implicitDefEqProofs only [go_sem, ↓reduceIte, Nat.reduceEqDiff, Nat.reduceAdd, Nat.reduceLeDiff, Nat.reduceMul, Nat.reduceSub, Int.reduceLE, Int.reduceLT, Int.reduceEq, Int.reduceToNat, Int.reducePow, Int.reduceNeg, hw]
    exact ⟨hlt, (Leads.ent [(0, 0)] ⟨by simp [entT, fget, AV.ren, renL, pget, lcS], by simp [entM, pinv, mget, mset, renL, AV.ren, pget, renL_append, -List.map_map, lcS], rfl, rfl⟩)⟩
  · have hlt' : ¬ (j : Int) < t.threads.length := by omega
    have hin : j = t.threads.length := by omega
    subst hin
    unfold lcS
    refine bwp_seq fun K hK => bwp_region rfl ?_
    simp -implicitDefEqProofs only [go_sem, ↓reduceIte, Nat.reduceEqDiff, Nat.reduceAdd, Nat.reduceLeDiff, Nat.reduceMul, Nat.reduceSub, Int.reduceLE, Int.reduceLT, Int.reduceEq, Int.reduceToNat, Int.reducePow, Int.reduceNeg, hlen', hlt']
    refine hK _ ?_; clear hK
    refine bwp_cond false (by simp [ev, fget]) (fun h => nomatch h) (fun _ => ?_)
    rw [List.take_of_length_le (Nat.le_refl _)] at hthi
    refine bwp_leads (S' := lcS [.str nm, I, T, .int .i64 kd, A] (t.threads.foldl (fun th l => l.foldl (fun th x => mark th x.loc) th) th) [(5, .d (.int .i64 (t.threads.length : Nat)))]) (Leads.ent [(0, 0)] ⟨by simp [entT, fget, AV.ren, renL, pget, lcS, hthi], by simp [entM, pinv, mget, mset, renL, AV.ren, pget, renL_append, -List.map_map, lcS, hthi], rfl, rfl⟩) ?_
    exact bwp_exit hQ

theorem locs_atoms {t : Test} {I T A : DV} {nm : List UInt8} {kd : Int} (hT : IsSl2 Atom.cells t.rows A) {j : Nat} (hj : j < t.rows.length) {th : List Bool} (hth : th.length = 256) {Q : Exit → St → Prop}
    (hQ : Q (.exit 8) (lcS [.str nm, I, T, .int .i64 kd, A] (t.rows[j].foldl (fun th x => mark th x.loc) th) [(8, .d (.int .i64 t.rows[j].length)), (7, .d (.int .i64 j))])) :
    BWP Try.prog (mbound []) 98 (.loop ac20L3) (lcS [.str nm, I, T, .int .i64 kd, A] th [(8, .d (.int .i64 (0 : Nat))), (7, .d (.int .i64 j))]) Q := by
  obtain ⟨cs2, d, rest2, hTe, hd, hjc, hD⟩ := hT.at j hj
  have hjl : (j : Int) < t.rows.length := by omega
  generalize t.rows[j] = l at hD hQ
  have hbig := hD.1
  refine bwp_count (fun i => lcS [.str nm, I, T, .int .i64 kd, A] ((l.take i).foldl (fun th x => mark th x.loc) th) [(8, .d (.int .i64 (i : Nat))), (7, .d (.int .i64 j))]) l.length ?_
  intro i hi
  have hlen : ((l.take i).foldl (fun th x => mark th x.loc) th).length = 256 := by
    rw [marks_len, hth]
  generalize hthi : (l.take i).foldl (fun th x => mark th x.loc) th = thi at hlen
  unfold ac20L3 lcS
  refine bwp_seq fun K1 hK1 => ?_
  by_cases hlt : i < l.length
  · have hlt' : (i : Int) < l.length := by omega
    obtain ⟨cs, rest, hIe, hdrop, hcs⟩ := hD.at atom_len (by omega) i hlt
    have hlo := low8_le l[i].loc
    have hlo1 : low8 l[i].loc + 1 ≤ 256 := by omega
    have hlo' : (low8 l[i].loc : Int) < 256 := by omega
    have hlen' := hD.len
    refine bwp_seq fun K hK => bwp_region rfl ?_
    simp -implicitDefEqProofs only [go_sem, ↓reduceIte, Nat.reduceEqDiff, Nat.reduceAdd, Nat.reduceLeDiff, Nat.reduceMul, Nat.reduceSub, Int.reduceLE, Int.reduceLT, Int.reduceEq, Int.reduceToNat, Int.reducePow, Int.reduceNeg, hTe, hjl, Int.natCast_nonneg, Int.toNat_natCast, Nat.mul_one, hjc, hd, hlen', hlt']
    refine hK _ ?_; clear hK
    refine bwp_cond true (by simp [ev, fget]) (fun _ => ?_) (fun h => nomatch h)
    refine bwp_skip ?_
    refine hK1 _ ?_; clear hK1
    refine bwp_seq fun K1 hK1 => ?_
    refine bwp_block ?_
    refine bwp_region rfl ?_
    simp -implicitDefEqProofs only [go_sem, ↓reduceIte, Nat.reduceEqDiff, Nat.reduceAdd, Nat.reduceLeDiff, Nat.reduceMul, Nat.reduceSub, Int.reduceLE, Int.reduceLT, Int.reduceEq, Int.reduceToNat, Int.reducePow, Int.reduceNeg, hTe, hjl, Nat.mul_one, hjc, hd, hIe, hlt', Int.natCast_nonneg, Int.toNat_natCast, hcs, hdrop, Atom.cells, low8_eq, hlo', hlen, hlo1]
    refine hK1 _ ?_; clear hK1
    have hnx := foldl_next (fun th (x : Atom) => mark th x.loc) th l i hlt
    rw [hthi] at hnx
    unfold mark at hnx ⊢
    have hw : IntKind.i64.wrap ((i : Int) + 1) = ((i + 1 : Nat) : Int) := by rw [wrap_i64 (by omega) (by omega)]; rfl
    refine bwp_region rfl ?_
    simp -implicitDefEqProofs only [go_sem, ↓reduceIte, Nat.reduceEqDiff, Nat.reduceAdd, Nat.reduceLeDiff, Nat.reduceMul, Nat.reduceSub, Int.reduceLE, Int.reduceLT, Int.reduceEq, Int.reduceToNat, Int.reducePow, Int.reduceNeg, hw]
    exact ⟨hlt, (Leads.ent [(0, 0)] ⟨by simp [entT, fget, AV.ren, renL, pget, hTe, hnx], by simp [entM, pinv, mget, mset, renL, AV.ren, pget, renL_append, -List.map_map, hTe, hnx], rfl, rfl⟩)⟩
  · have hlt' : ¬ (i : Int) < l.length := by omega
    have hin : i = l.length := by omega
    subst hin
    have hlen' := hD.len
    refine bwp_seq fun K hK => bwp_region rfl ?_
    simp -implicitDefEqProofs only [go_sem, ↓reduceIte, Nat.reduceEqDiff, Nat.reduceAdd, Nat.reduceLeDiff, Nat.reduceMul, Nat.reduceSub, Int.reduceLE, Int.reduceLT, Int.reduceEq, Int.reduceToNat, Int.reducePow, Int.reduceNeg, hTe, hjl, Int.natCast_nonneg, Int.toNat_natCast, Nat.mul_one, hjc, hd, hlen', hlt']
    refine hK _ ?_; clear hK
    refine bwp_cond false (by simp [ev, fget]) (fun h => nomatch h) (fun _ => ?_)
    rw [List.take_of_length_le (Nat.le_refl _)] at hthi
    refine bwp_leads (S' := lcS [.str nm, I, T, .int .i64 kd, A] (l.foldl (fun th x => mark th x.loc) th) [(8, .d (.int .i64 (l.length : Nat))), (7, .d (.int .i64 j))]) (Leads.ent [(0, 0)] ⟨by simp [entT, fget, AV.ren, renL, pget, lcS, hTe, hthi], by simp [entM, pinv, mget, mset, renL, AV.ren, pget, renL_append, -List.map_map, lcS, hTe, hthi], rfl, rfl⟩) ?_
    exact bwp_exit hQ

theorem locs_rows {t : Test} {I T A : DV} {nm : List UInt8} {kd : Int} (hT : IsSl2 Atom.cells t.rows A) {th : List Bool} (hth : th.length = 256) {Q : Exit → St → Prop}
    (hQ : Q (.exit 6) (lcS [.str nm, I, T, .int .i64 kd, A] (t.rows.foldl (fun th l => l.foldl (fun th x => mark th x.loc) th) th) [(7, .d (.int .i64 t.rows.length))])) :
    BWP Try.prog (mbound []) 98 (.loop ac20L4) (lcS [.str nm, I, T, .int .i64 kd, A] th [(7, .d (.int .i64 (0 : Nat)))]) Q := by
  have hbig := hT.big
  refine bwp_count (fun j => lcS [.str nm, I, T, .int .i64 kd, A] ((t.rows.take j).foldl (fun th l => l.foldl (fun th x => mark th x.loc) th) th) [(7, .d (.int .i64 (j : Nat)))]) t.rows.length ?_
  intro j hj
  have hlen : ((t.rows.take j).foldl (fun th l => l.foldl (fun th x => mark th x.loc) th) th).length = 256 := by
    rw [markss_len, hth]
  generalize hthi : (t.rows.take j).foldl (fun th l => l.foldl (fun th x => mark th x.loc) th) th = thi at hlen
  unfold ac20L4
  refine bwp_seq fun K1 hK1 => ?_
  have hlen' := hT.len
  by_cases hlt : j < t.rows.length
  · have hlt' : (j : Int) < t.rows.length := by omega
    unfold lcS
    refine bwp_seq fun K hK => bwp_region rfl ?_
    simp -implicitDefEqProofs only [go_sem, ↓reduceIte, Nat.reduceEqDiff, Nat.reduceAdd, Nat.reduceLeDiff, Nat.reduceMul, Nat.reduceSub, Int.reduceLE, Int.reduceLT, Int.reduceEq, Int.reduceToNat, Int.reducePow, Int.reduceNeg, hlen', hlt']
    refine hK _ ?_; clear hK
    refine bwp_cond true (by simp [ev, fget]) (fun _ => ?_) (fun h => nomatch h)
    refine bwp_skip ?_
    refine hK1 _ ?_; clear hK1
    refine bwp_seq fun K1 hK1 => ?_
    refine bwp_block ?_
    refine bwp_seq fun K2 hK2 => ?_
    refine bwp_region rfl ?_
    simp -implicitDefEqProofs only [go_sem, ↓reduceIte, Nat.reduceEqDiff, Nat.reduceAdd, Nat.reduceLeDiff, Nat.reduceMul, Nat.reduceSub, Int.reduceLE, Int.reduceLT, Int.reduceEq, Int.reduceToNat, Int.reducePow, Int.reduceNeg]
    refine hK2 _ ?_; clear hK2
    refine bwp_block ?_
    refine bwp_leads (S' := lcS [.str nm, I, T, .int .i64 kd, A] thi [(8, .d (.int .i64 (0 : Nat))), (7, .d (.int .i64 j))]) (Leads.ent [(0, 0)] ⟨by simp [entT, fget, AV.ren, renL, pget, lcS], by simp [entM, pinv, mget, mset, renL, AV.ren, pget, renL_append, -List.map_map, lcS], rfl, rfl⟩) ?_
    refine locs_atoms hT hlt hlen ?_
    have hnx := foldl_next (fun th (l : List Atom) => l.foldl (fun th x => mark th x.loc) th) th t.rows j hlt
    rw [hthi] at hnx
    rw [← hnx]
    unfold lcS
    simp -implicitDefEqProofs only [go_sem, ↓reduceIte, Nat.reduceEqDiff, Nat.reduceAdd, Nat.reduceLeDiff, Nat.reduceMul, Nat.reduceSub, Int.reduceLE, Int.reduceLT, Int.reduceEq, Int.reduceToNat, Int.reducePow, Int.reduceNeg]
    refine hK1 _ ?_; clear hK1
    have hw : IntKind.i64.wrap ((j : Int) + 1) = ((j + 1 : Nat) : Int) := by rw [wrap_i64 (by omega) (by omega)]; rfl
    refine bwp_region rfl ?_
    simp -implicitDefEqProofs only [go_sem, ↓reduceIte, Nat.reduceEqDiff, Nat.reduceAdd, Nat.reduceLeDiff, Nat.reduceMul, Nat.reduceSub, Int.reduceLE, Int.reduceLT, Int.reduceEq, Int.reduceToNat, Int.reducePow, Int.reduceNeg, hw]
    exact ⟨hlt, (Leads.ent [(0, 0)] ⟨by simp [entT, fget, AV.ren, renL, pget, lcS], by simp [entM, pinv, mget, mset, renL, AV.ren, pget, renL_append, -List.map_map, lcS], rfl, rfl⟩)⟩
  · have hlt' : ¬ (j : Int) < t.rows.length := by omega
    have hin : j = t.rows.length := by omega
    subst hin
    unfold lcS
    refine bwp_seq fun K hK => bwp_region rfl ?_
    simp -implicitDefEqProofs only [go_sem, ↓reduceIte, Nat.reduceEqDiff, Nat.reduceAdd, Nat.reduceLeDiff, Nat.reduceMul, Nat.reduceSub, Int.reduceLE, Int.reduceLT, Int.reduceEq, Int.reduceToNat, Int.reducePow, Int.reduceNeg, hlen', hlt']
    refine hK _ ?_; clear hK
    refine bwp_cond false (by simp [ev, fget]) (fun h => nomatch h) (fun _ => ?_)
    rw [List.take_of_length_le (Nat.le_refl _)] at hthi
    refine bwp_leads (S' := lcS [.str nm, I, T, .int .i64 kd, A] (t.rows.foldl (fun th l => l.foldl (fun th x => mark th x.loc) th) th) [(7, .d (.int .i64 (t.rows.length : Nat)))]) (Leads.ent [(0, 0)] ⟨by simp [entT, fget, AV.ren, renL, pget, lcS, hthi], by simp [entM, pinv, mget, mset, renL, AV.ren, pget, renL_append, -List.map_map, lcS, hthi], rfl, rfl⟩) ?_
    exact bwp_exit hQ

def letter (i : Nat) : UInt8 := UInt8.ofNat (97 + i)

/-- The letters that are marked. -/
def lets (th : List Bool) (i : Nat) : List UInt8 := ((List.range i).filter fun c => th.getD (97 + c) false).map letter

theorem lets_next (th : List Bool) (i : Nat) : lets th (i + 1) = if th.getD (97 + i) false = true then lets th i ++ [letter i] else lets th i := by
  unfold lets
  rw [List.range_succ, List.filter_append, List.map_append]
  by_cases h : th.getD (97 + i) false = true
  · rw [if_pos h, List.filter_cons, if_pos h]; rfl
  · rw [if_neg h, List.filter_cons, if_neg h]; simp

theorem lets_zero (th : List Bool) : lets th 0 = [] := rfl

theorem lets_len (th : List Bool) (i : Nat) : (lets th i).length ≤ i := by
  unfold lets
  rw [List.length_map]
  exact Nat.le_trans (List.length_filter_le _ _) (by simp)

def byteD (b : UInt8) : DV := .int .u8 b.toNat

def lcO (cs : List DV) (th : List Bool) (i : Nat) : St :=
  ⟨[(10, .d (.int .i32 (97 + i : Nat))), (9, .sl 1 1 0 (lets th i).length), (1, .dptr cs), (2, .d .nsl), (3, .ptr 0 0)], [(0, bcells th), (1, ((lets th i).map byteD).map .d)], 2⟩

theorem wrap_i32 {n : Int} (h0 : -2147483648 ≤ n) (h1 : n ≤ 2147483647) : IntKind.i32.wrap n = n := by
  have e1 : (2 ^ (32 - 1) : Int) = 2147483648 := rfl
  have e2 : (2 ^ 32 : Int) = 4294967296 := rfl
  simp only [IntKind.wrap, IntKind.signed, IntKind.bits, e1, e2, Bool.true_and, decide_eq_true_eq]
  split <;> omega

theorem locs_out {cs : List DV} {th : List Bool} (hth : th.length = 256) {Q : Exit → St → Prop} (hQ : Q (.exit 10) (lcO cs th 26)) :
    BWP Try.prog (mbound []) 98 (.loop ac20L5) (lcO cs th 0) Q := by
  refine bwp_count (lcO cs th) 26 ?_
  intro i hi
  unfold ac20L5
  refine bwp_seq fun K1 hK1 => ?_
  by_cases hlt : i < 26
  · have hlt' : ((97 + i : Nat) : Int) ≤ 122 := by omega
    have h256 : ((97 + i : Nat) : Int) < 256 := by omega
    have hg : th[97 + i]? = some (th.getD (97 + i) false) := by
      rw [List.getD_eq_getElem?_getD, List.getElem?_eq_getElem (by omega)]; rfl
    have hw : IntKind.i32.wrap (((97 + i : Nat) : Int) + 1) = ((97 + (i + 1) : Nat) : Int) := by rw [wrap_i32 (by omega) (by omega)]; omega
    have hwb : IntKind.u8.wrap (((97 + i : Nat) : Int)) = ((97 + i : Nat) : Int) := wrap_u8 (by omega) (by omega)
    have hl := lets_len th i
    have hl2 : (lets th i).length + 1 ≤ 140737488351232 := by omega
    have hlt2 := lets_next th i
    unfold lcO
    refine bwp_seq fun K hK => bwp_region rfl ?_
    simp -implicitDefEqProofs only [go_sem, ↓reduceIte, Nat.reduceEqDiff, Nat.reduceAdd, Nat.reduceLeDiff, Nat.reduceMul, Nat.reduceSub, Int.reduceLE, Int.reduceLT, Int.reduceEq, Int.reduceToNat, Int.reducePow, Int.reduceNeg, hlt']
    refine hK _ ?_; clear hK
    refine bwp_cond true (by simp [ev, fget]) (fun _ => ?_) (fun h => nomatch h)
    refine bwp_skip ?_
    refine hK1 _ ?_; clear hK1
    refine bwp_seq fun K1 hK1 => ?_
    refine bwp_block ?_
    refine bwp_seq fun K hK => bwp_region rfl ?_
    simp -implicitDefEqProofs only [go_sem, ↓reduceIte, Nat.reduceEqDiff, Nat.reduceAdd, Nat.reduceLeDiff, Nat.reduceMul, Nat.reduceSub, Int.reduceLE, Int.reduceLT, Int.reduceEq, Int.reduceToNat, Int.reducePow, Int.reduceNeg, Int.natCast_nonneg, h256, Int.toNat_natCast, List.getElem?_drop, hg]
    refine hK _ ?_; clear hK
    by_cases hb : th.getD (97 + i) false = true
    · rw [if_pos hb] at hlt2
      rw [hb]
      refine bwp_cond true (by simp [ev, fget]) (fun _ => ?_) (fun h => nomatch h)
      refine bwp_region rfl ?_
      simp -implicitDefEqProofs only [go_sem, ↓reduceIte, Nat.reduceEqDiff, Nat.reduceAdd, Nat.reduceLeDiff, Nat.reduceMul, Nat.reduceSub, Int.reduceLE, Int.reduceLT, Int.reduceEq, Int.reduceToNat, Int.reducePow, Int.reduceNeg, hwb, hl2, List.length_append]
      refine hK1 _ ?_; clear hK1
      refine bwp_region rfl ?_
      simp -implicitDefEqProofs only [go_sem, ↓reduceIte, Nat.reduceEqDiff, Nat.reduceAdd, Nat.reduceLeDiff, Nat.reduceMul, Nat.reduceSub, Int.reduceLE, Int.reduceLT, Int.reduceEq, Int.reduceToNat, Int.reducePow, Int.reduceNeg, hw]
      have hbn : byteD (letter i) = .int .u8 (97 + i : Nat) := by
        have : (letter i).toNat = 97 + i := by simp [letter]; omega
        rw [byteD, this]
      exact ⟨hlt, (Leads.ent [(0, 0), (3, 1)] ⟨by simp [entT, fget, AV.ren, renL, pget, lcO, hlt2, hbn], by simp [entM, pinv, mget, mset, renL, AV.ren, pget, renL_append, -List.map_map, lcO, hlt2, hbn], rfl, rfl⟩)⟩
    · rw [if_neg hb] at hlt2
      have hb' : th.getD (97 + i) false = false := by simpa using hb
      rw [hb']
      refine bwp_cond false (by simp [ev, fget]) (fun h => nomatch h) (fun _ => ?_)
      refine bwp_skip ?_
      refine hK1 _ ?_; clear hK1
      refine bwp_region rfl ?_
      simp -implicitDefEqProofs only [go_sem, ↓reduceIte, Nat.reduceEqDiff, Nat.reduceAdd, Nat.reduceLeDiff, Nat.reduceMul, Nat.reduceSub, Int.reduceLE, Int.reduceLT, Int.reduceEq, Int.reduceToNat, Int.reducePow, Int.reduceNeg, hw]
      exact ⟨hlt, (Leads.ent [(0, 0), (1, 1)] ⟨by simp [entT, fget, AV.ren, renL, pget, lcO, hlt2], by simp [entM, pinv, mget, mset, renL, AV.ren, pget, renL_append, -List.map_map, lcO, hlt2], rfl, rfl⟩)⟩
  · have hlt' : ¬ ((97 + i : Nat) : Int) ≤ 122 := by omega
    have hin : i = 26 := by omega
    unfold lcO
    refine bwp_seq fun K hK => bwp_region rfl ?_
    simp -implicitDefEqProofs only [go_sem, ↓reduceIte, Nat.reduceEqDiff, Nat.reduceAdd, Nat.reduceLeDiff, Nat.reduceMul, Nat.reduceSub, Int.reduceLE, Int.reduceLT, Int.reduceEq, Int.reduceToNat, Int.reducePow, Int.reduceNeg, hlt']
    refine hK _ ?_; clear hK
    refine bwp_cond false (by simp [ev, fget]) (fun h => nomatch h) (fun _ => ?_)
    subst hin
    refine bwp_leads (S' := lcO cs th 26) (Leads.ent [(0, 0), (1, 1)] ⟨by simp [entT, fget, AV.ren, renL, pget, lcO], by simp [entM, pinv, mget, mset, renL, AV.ren, pget, renL_append, -List.map_map, lcO], rfl, rfl⟩) ?_
    exact bwp_exit hQ

def noMarks : List Bool := List.replicate 256 false
theorem noMarks_len : noMarks.length = 256 := by simp [noMarks]

/-- The locations that a test names. -/
def refThere (t : Test) : List Bool :=
  t.rows.foldl (fun th l => l.foldl (fun th x => mark th x.loc) th) (t.threads.foldl (fun th l => l.foldl (fun th x => mark th x.loc) th) (t.inits.foldl (fun th x => mark th x.loc) noMarks))
def refLocs (t : Test) : List UInt8 := lets (refThere t) 26

set_option maxHeartbeats 1000000 in
theorem refLocs_pure {t : Test} {cs : List DV} (hT : IsTest t cs) : Pure Try.prog 20 [.agg (cs.map .d)] (.d (bytesD (refLocs t))) := by
  obtain ⟨I, T, A, rfl, hI, hTh, hA⟩ := hT
  have h0 := noMarks_len
  have h1 : (t.inits.foldl (fun th (x : Init) => mark th x.loc) noMarks).length = 256 := by rw [marks_len, h0]
  have h2 : (t.threads.foldl (fun th (l : List Ins) => l.foldl (fun th x => mark th x.loc) th) (t.inits.foldl (fun th (x : Init) => mark th x.loc) noMarks)).length = 256 := by rw [markss_len, h1]
  have h3 : (refThere t).length = 256 := by unfold refThere; rw [markss_len, h2]
  refine acalls_of Try.func20 ac20_ok Try.ntmps20 Try.results20 rfl ?_
  unfold ac20
  refine bwp_seq fun K hK => bwp_region rfl ?_
  simp -implicitDefEqProofs only [go_sem, ↓reduceIte, Nat.reduceEqDiff, Nat.reduceAdd, Nat.reduceLeDiff, Nat.reduceMul, Nat.reduceSub, Int.reduceLE, Int.reduceLT, Int.reduceEq, Int.reduceToNat, Int.reducePow, Int.reduceNeg]
  refine hK _ ?_; clear hK
  refine bwp_leads (S' := ⟨[(1, .dptr [.str t.name, I, T, .int .i64 t.kind, A]), (2, .d .nsl)], [], 0⟩) (Leads.frz [] [(0, [.str t.name, I, T, .int .i64 t.kind, A])] ⟨?_, ?_, rfl, rfl, ?_⟩) ?_
  · simp [frzT, fget, AV.cv, cvL, zget, pget]
  · simp [frzM, pinv, zget, mget, cvL, AV.cv]
  · simp [zokFrom, mget, cvL, AV.cv]
  refine bwp_seq fun K hK => bwp_region rfl ?_
  simp -implicitDefEqProofs only [go_sem, ↓reduceIte, Nat.reduceEqDiff, Nat.reduceAdd, Nat.reduceLeDiff, Nat.reduceMul, Nat.reduceSub, Int.reduceLE, Int.reduceLT, Int.reduceEq, Int.reduceToNat, Int.reducePow, Int.reduceNeg]
  refine hK _ ?_; clear hK
  refine bwp_seq fun K1 hK1 => ?_
  refine bwp_seq fun K2 hK2 => ?_
  refine bwp_region rfl ?_
  simp -implicitDefEqProofs only [go_sem, ↓reduceIte, Nat.reduceEqDiff, Nat.reduceAdd, Nat.reduceLeDiff, Nat.reduceMul, Nat.reduceSub, Int.reduceLE, Int.reduceLT, Int.reduceEq, Int.reduceToNat, Int.reducePow, Int.reduceNeg]
  refine hK2 _ ?_; clear hK2
  refine bwp_block ?_
  refine bwp_leads (S' := lcS [.str t.name, I, T, .int .i64 t.kind, A] noMarks [(4, .d (.int .i64 (0 : Nat)))]) (Leads.ent [(0, 0)] ⟨by simp [entT, fget, AV.ren, renL, pget, lcS, bcells, noMarks], by simp [entM, pinv, mget, mset, renL, AV.ren, pget, renL_append, -List.map_map, lcS, bcells, noMarks], rfl, rfl⟩) ?_
  refine locs_inits hI h0 ?_
  simp -implicitDefEqProofs only [go_sem, ↓reduceIte, Nat.reduceEqDiff, Nat.reduceAdd, Nat.reduceLeDiff, Nat.reduceMul, Nat.reduceSub, Int.reduceLE, Int.reduceLT, Int.reduceEq, Int.reduceToNat, Int.reducePow, Int.reduceNeg]
  refine hK1 _ ?_; clear hK1
  unfold lcS
  refine bwp_seq fun K1 hK1 => ?_
  refine bwp_seq fun K2 hK2 => ?_
  refine bwp_region rfl ?_
  simp -implicitDefEqProofs only [go_sem, ↓reduceIte, Nat.reduceEqDiff, Nat.reduceAdd, Nat.reduceLeDiff, Nat.reduceMul, Nat.reduceSub, Int.reduceLE, Int.reduceLT, Int.reduceEq, Int.reduceToNat, Int.reducePow, Int.reduceNeg]
  refine hK2 _ ?_; clear hK2
  refine bwp_block ?_
  refine bwp_leads (S' := lcS [.str t.name, I, T, .int .i64 t.kind, A] (t.inits.foldl (fun th x => mark th x.loc) noMarks) [(5, .d (.int .i64 (0 : Nat)))]) (Leads.ent [(0, 0)] ⟨by simp [entT, fget, AV.ren, renL, pget, lcS], by simp [entM, pinv, mget, mset, renL, AV.ren, pget, renL_append, -List.map_map, lcS], rfl, rfl⟩) ?_
  refine locs_threads hTh h1 ?_
  simp -implicitDefEqProofs only [go_sem, ↓reduceIte, Nat.reduceEqDiff, Nat.reduceAdd, Nat.reduceLeDiff, Nat.reduceMul, Nat.reduceSub, Int.reduceLE, Int.reduceLT, Int.reduceEq, Int.reduceToNat, Int.reducePow, Int.reduceNeg]
  refine hK1 _ ?_; clear hK1
  unfold lcS
  refine bwp_seq fun K1 hK1 => ?_
  refine bwp_seq fun K2 hK2 => ?_
  refine bwp_region rfl ?_
  simp -implicitDefEqProofs only [go_sem, ↓reduceIte, Nat.reduceEqDiff, Nat.reduceAdd, Nat.reduceLeDiff, Nat.reduceMul, Nat.reduceSub, Int.reduceLE, Int.reduceLT, Int.reduceEq, Int.reduceToNat, Int.reducePow, Int.reduceNeg]
  refine hK2 _ ?_; clear hK2
  refine bwp_block ?_
  refine bwp_leads (S' := lcS [.str t.name, I, T, .int .i64 t.kind, A] (t.threads.foldl (fun th l => l.foldl (fun th x => mark th x.loc) th) (t.inits.foldl (fun th x => mark th x.loc) noMarks)) [(7, .d (.int .i64 (0 : Nat)))]) (Leads.ent [(0, 0)] ⟨by simp [entT, fget, AV.ren, renL, pget, lcS], by simp [entM, pinv, mget, mset, renL, AV.ren, pget, renL_append, -List.map_map, lcS], rfl, rfl⟩) ?_
  refine locs_rows hA h2 ?_
  simp -implicitDefEqProofs only [go_sem, ↓reduceIte, Nat.reduceEqDiff, Nat.reduceAdd, Nat.reduceLeDiff, Nat.reduceMul, Nat.reduceSub, Int.reduceLE, Int.reduceLT, Int.reduceEq, Int.reduceToNat, Int.reducePow, Int.reduceNeg]
  refine hK1 _ ?_; clear hK1
  unfold lcS
  refine bwp_seq fun K hK => bwp_region rfl ?_
  simp -implicitDefEqProofs only [go_sem, ↓reduceIte, Nat.reduceEqDiff, Nat.reduceAdd, Nat.reduceLeDiff, Nat.reduceMul, Nat.reduceSub, Int.reduceLE, Int.reduceLT, Int.reduceEq, Int.reduceToNat, Int.reducePow, Int.reduceNeg]
  refine hK _ ?_; clear hK
  refine bwp_leads (Leads.nil 9 1 rfl rfl) ?_
  refine bwp_seq fun K1 hK1 => ?_
  refine bwp_seq fun K2 hK2 => ?_
  refine bwp_region rfl ?_
  simp -implicitDefEqProofs only [go_sem, ↓reduceIte, Nat.reduceEqDiff, Nat.reduceAdd, Nat.reduceLeDiff, Nat.reduceMul, Nat.reduceSub, Int.reduceLE, Int.reduceLT, Int.reduceEq, Int.reduceToNat, Int.reducePow, Int.reduceNeg]
  refine hK2 _ ?_; clear hK2
  refine bwp_block ?_
  refine bwp_leads (S' := lcO [.str t.name, I, T, .int .i64 t.kind, A] (refThere t) 0) (Leads.ent [(0, 0), (1, 1)] ⟨by simp [entT, fget, AV.ren, renL, pget, lcO, refThere, lets_zero], by simp [entM, pinv, mget, mset, renL, AV.ren, pget, renL_append, -List.map_map, lcO, refThere, lets_zero], rfl, rfl⟩) ?_
  refine locs_out h3 ?_
  simp -implicitDefEqProofs only [go_sem, ↓reduceIte, Nat.reduceEqDiff, Nat.reduceAdd, Nat.reduceLeDiff, Nat.reduceMul, Nat.reduceSub, Int.reduceLE, Int.reduceLT, Int.reduceEq, Int.reduceToNat, Int.reducePow, Int.reduceNeg]
  refine hK1 _ ?_; clear hK1
  unfold lcO
  refine bwp_seq fun K hK => bwp_region rfl ?_
  simp -implicitDefEqProofs only [go_sem, ↓reduceIte, Nat.reduceEqDiff, Nat.reduceAdd, Nat.reduceLeDiff, Nat.reduceMul, Nat.reduceSub, Int.reduceLE, Int.reduceLT, Int.reduceEq, Int.reduceToNat, Int.reducePow, Int.reduceNeg]
  refine hK _ ?_; clear hK
  have htk : ((lets (refThere t) 26).map byteD).take (lets (refThere t) 26).length = (lets (refThere t) 26).map byteD := List.take_of_length_le (by simp)
  refine bwp_leads (S' := ⟨[(2, .d (bytesD (refLocs t)))], [], 0⟩) (Leads.frz [] [(1, (lets (refThere t) 26).map byteD)] ⟨?_, ?_, rfl, rfl, ?_⟩) ?_
  · have e : (fun b : UInt8 => DV.int .u8 b.toNat) = byteD := rfl
    simp [frzT, fget, AV.cv, cvL, zget, pget, htk, bytesD, refLocs, e, -List.map_map]
  · simp [frzM]
  · simp [zokFrom, mget, cvL_d, -List.map_map]
  refine bwp_ret ?_
  simp only [go_sem]
  refine aend_ret _ rfl rfl ⟨?_, rfl⟩
  rfl

end Go.Proofs.Ytjfghjakpjfgpaa
