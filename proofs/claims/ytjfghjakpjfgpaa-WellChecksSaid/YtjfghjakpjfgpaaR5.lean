/- Which tests are small enough, by the document's answer: its loops, told without a heap. -/
import Derived.Test.YtjfghjakpjfgpaaR4
import Derived.Test.YtjfghjakpjfgpaaG1
namespace Go.Proofs.Ytjfghjakpjfgpaa
open Go Go.Jq
set_option maxRecDepth 100000
set_option linter.unusedSimpArgs false

def rkS (cs : List DV) (ex : Fr) : St := ⟨ex ++ [(1, .dptr cs), (2, .d (.int .i64 0))], [], 0⟩

def capLen (l : List (List Ins)) : Nat := l.foldl (fun s x => s + min x.length 100) 0

theorem capLen_le : ∀ (T : List (List Ins)), capLen T ≤ 100 * T.length := by
  have : ∀ (T : List (List Ins)) (s : Nat), T.foldl (fun s x => s + min x.length 100) s ≤ s + 100 * T.length := by
    intro T
    induction T with
    | nil => intro s; simp
    | cons a T ih =>
      intro s
      rw [List.foldl_cons, List.length_cons]
      have := ih (s + min a.length 100)
      omega
  intro T
  have := this T 0
  unfold capLen
  omega

theorem rk_threads {rows : List (List Ins)} {nm : List UInt8} {I T A : DV} {kd : Int} (hT : IsSl2 Ins.cells rows T) {b : Bool} {Q : Exit → St → Prop}
    (hQ : Q (.exit 0) (rkS [.str nm, I, T, .int .i64 kd, A] [(4, .d (.bool (b || (rows.take 5).any fun l => decide (10 < l.length)))), (3, .d (.int .i64 (capLen (rows.take 5))))])) :
    BWP Try.prog (mbound []) 204 (.loop ac21L0) (rkS [.str nm, I, T, .int .i64 kd, A] [(5, .d (.int .i64 (0 : Nat))), (4, .d (.bool b)), (3, .d (.int .i64 (0 : Nat)))]) Q := by
  have hbig := hT.big
  have hlen' := hT.len
  have hN : (rows.take 5).length ≤ 5 ∧ (rows.take 5).length ≤ rows.length ∧ ((rows.take 5).length = rows.length ∨ (rows.take 5).length = 5) := by
    rw [List.length_take]; omega
  generalize hl : (rows.take 5).length = N at hN
  have h0 : rkS [.str nm, I, T, .int .i64 kd, A] [(5, .d (.int .i64 (0 : Nat))), (4, .d (.bool b)), (3, .d (.int .i64 (0 : Nat)))] = (fun j => rkS [.str nm, I, T, .int .i64 kd, A] [(5, .d (.int .i64 (j : Nat))), (4, .d (.bool (b || (rows.take j).any fun l => decide (10 < l.length)))), (3, .d (.int .i64 (capLen (rows.take j))))]) 0 := by
    simp [capLen]
  rw [h0]
  refine bwp_count (fun j => rkS [.str nm, I, T, .int .i64 kd, A] [(5, .d (.int .i64 (j : Nat))), (4, .d (.bool (b || (rows.take j).any fun l => decide (10 < l.length)))), (3, .d (.int .i64 (capLen (rows.take j))))]) N ?_
  intro j hj
  have hcap := capLen_le (rows.take j)
  have htl : (rows.take j).length ≤ 5 := by rw [List.length_take]; omega
  generalize hs : capLen (rows.take j) = s at hcap
  generalize hbj : (b || (rows.take j).any fun l => decide (10 < l.length)) = bj
  unfold ac21L0
  refine bwp_seq fun K1 hK1 => ?_
  by_cases hlt : j < N
  · have hjr : j < rows.length := Nat.lt_of_lt_of_le hlt hN.2.1
    have hlt1 : (j : Int) < rows.length := by omega
    have hlt2 : (j : Int) < 5 := by omega
    obtain ⟨cs2, d, rest2, hTe, hd, hjc, hD⟩ := hT.at j hjr
    have hdl := hD.len
    have hw : IntKind.i64.wrap ((j : Int) + 1) = ((j + 1 : Nat) : Int) := by rw [wrap_i64 (by omega) (by omega)]; rfl
    have hnb : (b || (rows.take (j + 1)).any fun l => decide (10 < l.length)) = (bj || decide (10 < rows[j].length)) := by
      rw [take_snoc rows j hjr, List.any_append, ← Bool.or_assoc, hbj]; simp
    have hns : capLen (rows.take (j + 1)) = s + min rows[j].length 100 := by
      have := foldl_next (fun s (x : List Ins) => s + min x.length 100) 0 rows j hjr
      unfold capLen at hs ⊢
      rw [this, hs]
    have hwm : IntKind.i64.wrap ((s : Int) + (if (100 : Int) < (rows[j].length : Int) then (100 : Int) else (rows[j].length : Int))) = ((s + min rows[j].length 100 : Nat) : Int) := by
      split
      · rw [wrap_i64 (by omega) (by omega)]; omega
      · rw [wrap_i64 (by omega) (by omega)]; omega
    have hd10 : decide ((10 : Int) < rows[j].length) = decide (10 < rows[j].length) := by rw [decide_eq_decide]; omega
    unfold rkS
    refine bwp_seq fun K hK => bwp_region rfl ?_
    simp -implicitDefEqProofs only [go_sem, ↓reduceIte, Nat.reduceEqDiff, Nat.reduceAdd, Nat.reduceLeDiff, Nat.reduceMul, Nat.reduceSub, Int.reduceLE, Int.reduceLT, Int.reduceEq, Int.reduceToNat, Int.reducePow, Int.reduceNeg, hlen', hlt1, hlt2]
    refine hK _ ?_; clear hK
    refine bwp_cond true (by simp [ev, fget]) (fun _ => ?_) (fun h => nomatch h)
    refine bwp_skip ?_
    refine hK1 _ ?_; clear hK1
    refine bwp_seq fun K1 hK1 => ?_
    refine bwp_block ?_
    refine bwp_seq fun K hK => bwp_region rfl ?_
    have rest : ∀ (t : Fr), fget t 4 = .d (.bool (bj || decide (10 < rows[j].length))) → fget t 3 = .d (.int .i64 s) → fget t 1 = .dptr [.str nm, I, T, .int .i64 kd, A] → fget t 2 = .d (.int .i64 0) → fget t 5 = .d (.int .i64 j) → K ⟨t, [], 0⟩ := by
      intro t h4 h3 h1 h2 h5
      refine hK _ ?_; clear hK
      refine bwp_region rfl ?_
      simp -implicitDefEqProofs only [go_sem, ↓reduceIte, Nat.reduceEqDiff, Nat.reduceAdd, Nat.reduceLeDiff, Nat.reduceMul, Nat.reduceSub, Int.reduceLE, Int.reduceLT, Int.reduceEq, Int.reduceToNat, Int.reducePow, Int.reduceNeg, h1, h3, h5, hTe, hlt1, Int.natCast_nonneg, Int.toNat_natCast, Nat.mul_one, hjc, hd, hdl, hwm]
      refine hK1 _ ?_; clear hK1
      refine bwp_region rfl ?_
      simp -implicitDefEqProofs only [go_sem, ↓reduceIte, Nat.reduceEqDiff, Nat.reduceAdd, Nat.reduceLeDiff, Nat.reduceMul, Nat.reduceSub, Int.reduceLE, Int.reduceLT, Int.reduceEq, Int.reduceToNat, Int.reducePow, Int.reduceNeg, h5, hw]
      refine ⟨hlt, ?_⟩
      rw [hnb, hns]
      exact Leads.ent [] ⟨by simp [rkS, entT, fget, AV.ren, renL, pget, h1, h2, h4, hTe, Nat.min_def], by simp [rkS, entM], rfl, rfl⟩
    clear hK
    cases bj
    · simp -implicitDefEqProofs only [go_sem, ↓reduceIte, Nat.reduceEqDiff, Nat.reduceAdd, Nat.reduceLeDiff, Nat.reduceMul, Nat.reduceSub, Int.reduceLE, Int.reduceLT, Int.reduceEq, Int.reduceToNat, Int.reducePow, Int.reduceNeg, hTe, hlt1, Int.natCast_nonneg, Int.toNat_natCast, Nat.mul_one, hjc, hd, hdl, hd10]
      exact rest _ (by simp [fget]) rfl (by simp [fget, hTe]) rfl rfl
    · simp -implicitDefEqProofs only [go_sem, ↓reduceIte, Nat.reduceEqDiff, Nat.reduceAdd, Nat.reduceLeDiff, Nat.reduceMul, Nat.reduceSub, Int.reduceLE, Int.reduceLT, Int.reduceEq, Int.reduceToNat, Int.reducePow, Int.reduceNeg]
      exact rest _ (by simp [fget]) rfl rfl rfl rfl
  · have hin : j = N := by omega
    subst hin
    have hst : rows.take j = rows.take 5 := by
      rcases hN.2.2 with h | h
      · rw [List.take_of_length_le (by omega), List.take_of_length_le (by omega)]
      · rw [h]
    rw [hst] at hbj hs
    subst hbj hs
    by_cases h1 : j < rows.length
    · have h1' : (j : Int) < rows.length := by omega
      have h2' : ¬ (j : Int) < 5 := by omega
      unfold rkS
      refine bwp_seq fun K hK => bwp_region rfl ?_
      simp -implicitDefEqProofs only [go_sem, ↓reduceIte, Nat.reduceEqDiff, Nat.reduceAdd, Nat.reduceLeDiff, Nat.reduceMul, Nat.reduceSub, Int.reduceLE, Int.reduceLT, Int.reduceEq, Int.reduceToNat, Int.reducePow, Int.reduceNeg, hlen', h1', h2']
      refine hK _ ?_; clear hK
      refine bwp_cond false (by simp [ev, fget]) (fun h => nomatch h) (fun _ => ?_)
      refine bwp_leads (S' := rkS [.str nm, I, T, .int .i64 kd, A] [(4, .d (.bool (b || (rows.take 5).any fun l => decide (10 < l.length)))), (3, .d (.int .i64 (capLen (rows.take 5))))]) (Leads.ent [] ⟨by simp [entT, fget, AV.ren, renL, pget, rkS], by simp [entM, pinv, mget, mset, renL, AV.ren, pget, renL_append, -List.map_map, rkS], rfl, rfl⟩) ?_
      exact bwp_exit hQ
    · have h1' : ¬ (j : Int) < rows.length := by omega
      unfold rkS
      refine bwp_seq fun K hK => bwp_region rfl ?_
      simp -implicitDefEqProofs only [go_sem, ↓reduceIte, Nat.reduceEqDiff, Nat.reduceAdd, Nat.reduceLeDiff, Nat.reduceMul, Nat.reduceSub, Int.reduceLE, Int.reduceLT, Int.reduceEq, Int.reduceToNat, Int.reducePow, Int.reduceNeg, hlen', h1']
      refine hK _ ?_; clear hK
      refine bwp_cond false (by simp [ev, fget]) (fun h => nomatch h) (fun _ => ?_)
      refine bwp_leads (S' := rkS [.str nm, I, T, .int .i64 kd, A] [(4, .d (.bool (b || (rows.take 5).any fun l => decide (10 < l.length)))), (3, .d (.int .i64 (capLen (rows.take 5))))]) (Leads.ent [] ⟨by simp [entT, fget, AV.ren, renL, pget, rkS], by simp [entM, pinv, mget, mset, renL, AV.ren, pget, renL_append, -List.map_map, rkS], rfl, rfl⟩) ?_
      exact bwp_exit hQ

theorem rk_rows {rows : List (List Atom)} {nm : List UInt8} {I T A : DV} {kd : Int} (hA : IsSl2 Atom.cells rows A) {b : Bool} {s : Nat} {Q : Exit → St → Prop}
    (hQ : Q (.exit 2) (rkS [.str nm, I, T, .int .i64 kd, A] [(4, .d (.bool (b || rows.any longB))), (3, .d (.int .i64 s))])) :
    BWP Try.prog (mbound []) 204 (.loop ac21L1) (rkS [.str nm, I, T, .int .i64 kd, A] [(6, .d (.int .i64 (0 : Nat))), (4, .d (.bool b)), (3, .d (.int .i64 s))]) Q := by
  have hbig := hA.big
  have hlen' := hA.len
  have h0 : rkS [.str nm, I, T, .int .i64 kd, A] [(6, .d (.int .i64 (0 : Nat))), (4, .d (.bool b)), (3, .d (.int .i64 s))] = (fun j => rkS [.str nm, I, T, .int .i64 kd, A] [(6, .d (.int .i64 (j : Nat))), (4, .d (.bool (b || (rows.take j).any longB))), (3, .d (.int .i64 s))]) 0 := by
    simp
  rw [h0]
  refine bwp_count (fun j => rkS [.str nm, I, T, .int .i64 kd, A] [(6, .d (.int .i64 (j : Nat))), (4, .d (.bool (b || (rows.take j).any longB))), (3, .d (.int .i64 s))]) rows.length ?_
  intro j hj
  generalize hbj : (b || (rows.take j).any longB) = bj
  unfold ac21L1
  refine bwp_seq fun K1 hK1 => ?_
  by_cases hlt : j < rows.length
  · have hlt1 : (j : Int) < rows.length := by omega
    obtain ⟨cs2, d, rest2, hTe, hd, hjc, hD⟩ := hA.at j hlt
    have hdl := hD.len
    have hw : IntKind.i64.wrap ((j : Int) + 1) = ((j + 1 : Nat) : Int) := by rw [wrap_i64 (by omega) (by omega)]; rfl
    have hnb : (b || (rows.take (j + 1)).any longB) = (bj || decide (8 < rows[j].length)) := by
      rw [take_snoc rows j hlt, List.any_append, ← Bool.or_assoc, hbj]; simp [longB]
    have hd8 : decide ((8 : Int) < rows[j].length) = decide (8 < rows[j].length) := by rw [decide_eq_decide]; omega
    unfold rkS
    refine bwp_seq fun K hK => bwp_region rfl ?_
    simp -implicitDefEqProofs only [go_sem, ↓reduceIte, Nat.reduceEqDiff, Nat.reduceAdd, Nat.reduceLeDiff, Nat.reduceMul, Nat.reduceSub, Int.reduceLE, Int.reduceLT, Int.reduceEq, Int.reduceToNat, Int.reducePow, Int.reduceNeg, hlen', hlt1]
    refine hK _ ?_; clear hK
    refine bwp_cond true (by simp [ev, fget]) (fun _ => ?_) (fun h => nomatch h)
    refine bwp_skip ?_
    refine hK1 _ ?_; clear hK1
    refine bwp_seq fun K1 hK1 => ?_
    refine bwp_block ?_
    refine bwp_region rfl ?_
    have rest : ∀ (t : Fr), fget t 4 = .d (.bool (bj || decide (8 < rows[j].length))) → fget t 3 = .d (.int .i64 s) → fget t 1 = .dptr [.str nm, I, T, .int .i64 kd, A] → fget t 2 = .d (.int .i64 0) → fget t 6 = .d (.int .i64 j) → K1 ⟨t, [], 0⟩ := by
      intro t h4 h3 h1 h2 h6
      refine hK1 _ ?_; clear hK1
      refine bwp_region rfl ?_
      simp -implicitDefEqProofs only [go_sem, ↓reduceIte, Nat.reduceEqDiff, Nat.reduceAdd, Nat.reduceLeDiff, Nat.reduceMul, Nat.reduceSub, Int.reduceLE, Int.reduceLT, Int.reduceEq, Int.reduceToNat, Int.reducePow, Int.reduceNeg, h6, hw]
      refine ⟨hlt, ?_⟩
      rw [hnb]
      exact Leads.ent [] ⟨by simp [rkS, entT, fget, AV.ren, renL, pget, h1, h2, h3, h4], by simp [rkS, entM], rfl, rfl⟩
    cases bj
    · simp -implicitDefEqProofs only [go_sem, ↓reduceIte, Nat.reduceEqDiff, Nat.reduceAdd, Nat.reduceLeDiff, Nat.reduceMul, Nat.reduceSub, Int.reduceLE, Int.reduceLT, Int.reduceEq, Int.reduceToNat, Int.reducePow, Int.reduceNeg, hTe, hlt1, Int.natCast_nonneg, Int.toNat_natCast, Nat.mul_one, hjc, hd, hdl, hd8]
      exact rest _ (by simp [fget]) rfl (by simp [fget, hTe]) rfl rfl
    · simp -implicitDefEqProofs only [go_sem, ↓reduceIte, Nat.reduceEqDiff, Nat.reduceAdd, Nat.reduceLeDiff, Nat.reduceMul, Nat.reduceSub, Int.reduceLE, Int.reduceLT, Int.reduceEq, Int.reduceToNat, Int.reducePow, Int.reduceNeg]
      exact rest _ (by simp [fget]) rfl rfl rfl rfl
  · have hin : j = rows.length := by omega
    subst hin
    rw [List.take_of_length_le (Nat.le_refl _)] at hbj
    subst hbj
    have h1' : ¬ (rows.length : Int) < rows.length := by omega
    unfold rkS
    refine bwp_seq fun K hK => bwp_region rfl ?_
    simp -implicitDefEqProofs only [go_sem, ↓reduceIte, Nat.reduceEqDiff, Nat.reduceAdd, Nat.reduceLeDiff, Nat.reduceMul, Nat.reduceSub, Int.reduceLE, Int.reduceLT, Int.reduceEq, Int.reduceToNat, Int.reducePow, Int.reduceNeg, hlen', h1']
    refine hK _ ?_; clear hK
    refine bwp_cond false (by simp [ev, fget]) (fun h => nomatch h) (fun _ => ?_)
    refine bwp_leads (S' := rkS [.str nm, I, T, .int .i64 kd, A] [(4, .d (.bool (b || rows.any longB))), (3, .d (.int .i64 s))]) (Leads.ent [] ⟨by simp [entT, fget, AV.ren, renL, pget, rkS], by simp [entM, pinv, mget, mset, renL, AV.ren, pget, renL_append, -List.map_map, rkS], rfl, rfl⟩) ?_
    exact bwp_exit hQ

/-- The beginnings: one against the earlier ones. -/
theorem rk_init1 {l : List Init} {nm : List UInt8} {I T A : DV} {kd : Int} (hI : IsSl Init.cells l I) {i : Nat} (hi : i < l.length) {Q : Exit → St → Prop}
    (hbad : (∃ x ∈ l.take i, x.loc = l[i].loc) → ∀ S, fget S.t 2 = .d (.int .i64 9) → Q .ret S) (hgood : (¬ ∃ x ∈ l.take i, x.loc = l[i].loc) → Q (.exit 6) (rkS [.str nm, I, T, .int .i64 kd, A] [(7, .d (.int .i64 i))])) :
    BWP Try.prog (mbound []) 204 (.loop ac21L2) (rkS [.str nm, I, T, .int .i64 kd, A] [(8, .d (.int .i64 (0 : Nat))), (7, .d (.int .i64 i))]) Q := by
  have hbig := hI.1
  have hil : (i : Int) < l.length := by omega
  obtain ⟨csi, resti, hIi, hdropi, hcsi⟩ := hI.at init_len (by omega) i hi
  refine bwp_countI (fun k => rkS [.str nm, I, T, .int .i64 kd, A] [(8, .d (.int .i64 (k : Nat))), (7, .d (.int .i64 i))]) (fun k => ∀ x ∈ l.take k, x.loc ≠ l[i].loc) i (by simp) ?_
  intro k hk hp
  unfold ac21L2 rkS
  refine bwp_seq fun K1 hK1 => ?_
  by_cases hlt : k < i
  · have hlt' : (k : Int) < i := by omega
    have hkl : k < l.length := by omega
    have hkl' : (k : Int) < l.length := by omega
    obtain ⟨cs, rest, hIe, hdrop, hcs⟩ := hI.at init_len (by omega) k hkl
    have hce : csi = cs := by rw [hIi] at hIe; simpa using hIe
    subst hce
    have hw : IntKind.i64.wrap ((k : Int) + 1) = ((k + 1 : Nat) : Int) := by rw [wrap_i64 (by omega) (by omega)]; rfl
    have htk := take_snoc l k hkl
    have hmem : l[k] ∈ l.take i := List.mem_take_iff_getElem.2 ⟨k, by omega, rfl⟩
    generalize l[k] = y at *
    generalize l[i] = x at *
    refine bwp_seq fun K hK => bwp_region rfl ?_
    simp -implicitDefEqProofs only [go_sem, ↓reduceIte, Nat.reduceEqDiff, Nat.reduceAdd, Nat.reduceLeDiff, Nat.reduceMul, Nat.reduceSub, Int.reduceLE, Int.reduceLT, Int.reduceEq, Int.reduceToNat, Int.reducePow, Int.reduceNeg, hlt']
    refine hK _ ?_; clear hK
    refine bwp_cond true (by simp [ev, fget]) (fun _ => ?_) (fun h => nomatch h)
    refine bwp_skip ?_
    refine hK1 _ ?_; clear hK1
    refine bwp_seq fun K1 hK1 => ?_
    refine bwp_block ?_
    refine bwp_seq fun K hK => bwp_region_draw rfl rfl ?_
    simp -implicitDefEqProofs only [go_sem, ↓reduceIte, Nat.reduceEqDiff, Nat.reduceAdd, Nat.reduceLeDiff, Nat.reduceMul, Nat.reduceSub, Int.reduceLE, Int.reduceLT, Int.reduceEq, Int.reduceToNat, Int.reducePow, Int.reduceNeg, hIe, hil, hkl', Int.natCast_nonneg, Int.toNat_natCast, hcsi, hdropi, hcs, hdrop, Init.cells]
    refine ⟨rfl, hK _ ?_⟩; clear hK
    by_cases heq : x.loc = y.loc
    · refine bwp_cond true (by simp [ev, fget, heq]) (fun _ => ?_) (fun h => nomatch h)
      refine bwp_seq fun K hK => bwp_region rfl ?_
      simp -implicitDefEqProofs only [go_sem, ↓reduceIte, Nat.reduceEqDiff, Nat.reduceAdd, Nat.reduceLeDiff, Nat.reduceMul, Nat.reduceSub, Int.reduceLE, Int.reduceLT, Int.reduceEq, Int.reduceToNat, Int.reducePow, Int.reduceNeg]
      refine hK _ ?_; clear hK
      refine bwp_ret ?_
      simp -implicitDefEqProofs only [go_sem, ↓reduceIte, Nat.reduceEqDiff, Nat.reduceAdd, Nat.reduceLeDiff, Nat.reduceMul, Nat.reduceSub, Int.reduceLE, Int.reduceLT, Int.reduceEq, Int.reduceToNat, Int.reducePow, Int.reduceNeg]
      exact hbad ⟨y, hmem, heq.symm⟩ _ rfl
    · refine bwp_cond false (by simp [ev, fget, heq]) (fun h => nomatch h) (fun _ => ?_)
      refine bwp_skip ?_
      simp -implicitDefEqProofs only [go_sem, ↓reduceIte, Nat.reduceEqDiff, Nat.reduceAdd, Nat.reduceLeDiff, Nat.reduceMul, Nat.reduceSub, Int.reduceLE, Int.reduceLT, Int.reduceEq, Int.reduceToNat, Int.reducePow, Int.reduceNeg]
      refine hK1 _ ?_; clear hK1
      refine bwp_region rfl ?_
      simp -implicitDefEqProofs only [go_sem, ↓reduceIte, Nat.reduceEqDiff, Nat.reduceAdd, Nat.reduceLeDiff, Nat.reduceMul, Nat.reduceSub, Int.reduceLE, Int.reduceLT, Int.reduceEq, Int.reduceToNat, Int.reducePow, Int.reduceNeg, hw]
      refine ⟨hlt, ?_, Leads.ent [] ⟨by simp [entT, fget, AV.ren, pget, hIe], by simp [entM], rfl, rfl⟩⟩
      intro z hz
      rw [htk, List.mem_append] at hz
      rcases hz with hz | hz
      · exact hp z hz
      · simp only [List.mem_singleton] at hz; rw [hz]; exact fun h => heq h.symm
  · have hlt' : ¬ (k : Int) < i := by omega
    have hin : k = i := by omega
    subst hin
    refine bwp_seq fun K hK => bwp_region rfl ?_
    simp -implicitDefEqProofs only [go_sem, ↓reduceIte, Nat.reduceEqDiff, Nat.reduceAdd, Nat.reduceLeDiff, Nat.reduceMul, Nat.reduceSub, Int.reduceLE, Int.reduceLT, Int.reduceEq, Int.reduceToNat, Int.reducePow, Int.reduceNeg, hlt']
    refine hK _ ?_; clear hK
    refine bwp_cond false (by simp [ev, fget]) (fun h => nomatch h) (fun _ => ?_)
    refine bwp_leads (S' := rkS [.str nm, I, T, .int .i64 kd, A] [(7, .d (.int .i64 k))]) (Leads.ent [] ⟨by simp [entT, fget, AV.ren, renL, pget, rkS], by simp [entM, pinv, mget, mset, renL, AV.ren, pget, renL_append, -List.map_map, rkS], rfl, rfl⟩) ?_
    refine bwp_exit (hgood ?_)
    rintro ⟨x, hx, he⟩
    exact hp x hx he

theorem rk_inits {l : List Init} {nm : List UInt8} {I T A : DV} {kd : Int} (hI : IsSl Init.cells l I) {Q : Exit → St → Prop}
    (hbad : twiceB l = true → ∀ S, fget S.t 2 = .d (.int .i64 9) → Q .ret S) (hgood : twiceB l = false → Q (.exit 4) (rkS [.str nm, I, T, .int .i64 kd, A] [])) :
    BWP Try.prog (mbound []) 204 (.loop ac21L3) (rkS [.str nm, I, T, .int .i64 kd, A] [(7, .d (.int .i64 (0 : Nat)))]) Q := by
  have hbig := hI.1
  have hlen' := hI.len
  refine bwp_countI (fun i => rkS [.str nm, I, T, .int .i64 kd, A] [(7, .d (.int .i64 (i : Nat)))]) (fun i => ((l.take i).map (·.loc)).Nodup) l.length (by simp) ?_
  intro i hi hp
  unfold ac21L3
  refine bwp_seq fun K1 hK1 => ?_
  by_cases hlt : i < l.length
  · have hlt' : (i : Int) < l.length := by omega
    have hw : IntKind.i64.wrap ((i : Int) + 1) = ((i + 1 : Nat) : Int) := by rw [wrap_i64 (by omega) (by omega)]; rfl
    have hrow := @rk_init1 l nm I T A kd hI i hlt
    have htn := take_next l i hlt
    unfold rkS
    refine bwp_seq fun K hK => bwp_region rfl ?_
    simp -implicitDefEqProofs only [go_sem, ↓reduceIte, Nat.reduceEqDiff, Nat.reduceAdd, Nat.reduceLeDiff, Nat.reduceMul, Nat.reduceSub, Int.reduceLE, Int.reduceLT, Int.reduceEq, Int.reduceToNat, Int.reducePow, Int.reduceNeg, hlen', hlt']
    refine hK _ ?_; clear hK
    refine bwp_cond true (by simp [ev, fget]) (fun _ => ?_) (fun h => nomatch h)
    refine bwp_skip ?_
    refine hK1 _ ?_; clear hK1
    refine bwp_seq fun K1 hK1 => ?_
    refine bwp_block ?_
    refine bwp_seq fun K hK => bwp_region rfl ?_
    simp -implicitDefEqProofs only [go_sem, ↓reduceIte, Nat.reduceEqDiff, Nat.reduceAdd, Nat.reduceLeDiff, Nat.reduceMul, Nat.reduceSub, Int.reduceLE, Int.reduceLT, Int.reduceEq, Int.reduceToNat, Int.reducePow, Int.reduceNeg]
    refine hK _ ?_; clear hK
    refine bwp_block ?_
    refine bwp_leads (S' := rkS [.str nm, I, T, .int .i64 kd, A] [(8, .d (.int .i64 (0 : Nat))), (7, .d (.int .i64 i))]) (Leads.ent [] ⟨by simp [entT, fget, AV.ren, renL, pget, rkS], by simp [entM, pinv, mget, mset, renL, AV.ren, pget, renL_append, -List.map_map, rkS], rfl, rfl⟩) ?_
    refine hrow ?_ ?_
    · rintro ⟨x, hx, he⟩ S hS
      simp -implicitDefEqProofs only [go_sem, ↓reduceIte, Nat.reduceEqDiff, Nat.reduceAdd, Nat.reduceLeDiff, Nat.reduceMul, Nat.reduceSub, Int.reduceLE, Int.reduceLT, Int.reduceEq, Int.reduceToNat, Int.reducePow, Int.reduceNeg]
      refine hbad ?_ _ hS
      have : ¬ (l.map (·.loc)).Nodup := by
        intro hnod
        have h1 : ((l.take (i + 1)).map (·.loc)).Nodup := hnod.sublist ((List.take_sublist _ _).map _)
        rw [htn, List.nodup_append] at h1
        exact h1.2.2 x.loc (List.mem_map.2 ⟨x, hx, rfl⟩) l[i].loc (by simp) he
      simp [twiceB, this]
    · intro hno
      unfold rkS
      simp -implicitDefEqProofs only [go_sem, ↓reduceIte, Nat.reduceEqDiff, Nat.reduceAdd, Nat.reduceLeDiff, Nat.reduceMul, Nat.reduceSub, Int.reduceLE, Int.reduceLT, Int.reduceEq, Int.reduceToNat, Int.reducePow, Int.reduceNeg]
      refine hK1 _ ?_; clear hK1
      refine bwp_region rfl ?_
      simp -implicitDefEqProofs only [go_sem, ↓reduceIte, Nat.reduceEqDiff, Nat.reduceAdd, Nat.reduceLeDiff, Nat.reduceMul, Nat.reduceSub, Int.reduceLE, Int.reduceLT, Int.reduceEq, Int.reduceToNat, Int.reducePow, Int.reduceNeg, hw]
      refine ⟨hlt, ?_, Leads.ent [] ⟨by simp [rkS, entT, fget, AV.ren, pget], by simp [rkS, entM], rfl, rfl⟩⟩
      rw [htn, List.nodup_append]
      refine ⟨hp, by simp, fun a ha b hb2 => ?_⟩
      simp only [List.mem_singleton] at hb2
      subst hb2
      obtain ⟨y, hy, rfl⟩ := List.mem_map.1 ha
      intro he
      exact hno ⟨y, hy, he⟩
  · have hlt' : ¬ (i : Int) < l.length := by omega
    have hin : i = l.length := by omega
    subst hin
    rw [List.take_of_length_le (Nat.le_refl _)] at hp
    unfold rkS
    refine bwp_seq fun K hK => bwp_region rfl ?_
    simp -implicitDefEqProofs only [go_sem, ↓reduceIte, Nat.reduceEqDiff, Nat.reduceAdd, Nat.reduceLeDiff, Nat.reduceMul, Nat.reduceSub, Int.reduceLE, Int.reduceLT, Int.reduceEq, Int.reduceToNat, Int.reducePow, Int.reduceNeg, hlen', hlt']
    refine hK _ ?_; clear hK
    refine bwp_cond false (by simp [ev, fget]) (fun h => nomatch h) (fun _ => ?_)
    refine bwp_leads (S' := rkS [.str nm, I, T, .int .i64 kd, A] []) (Leads.ent [] ⟨by simp [entT, fget, AV.ren, renL, pget, rkS], by simp [entM, pinv, mget, mset, renL, AV.ren, pget, renL_append, -List.map_map, rkS], rfl, rfl⟩) ?_
    exact bwp_exit (hgood (by simp [twiceB, hp]))

end Go.Proofs.Ytjfghjakpjfgpaa
