/- WellLocs: its third and fourth loop. -/
import Derived.Test.YtjfghjakpjfgpaaG9
namespace Go.Proofs.Ytjfghjakpjfgpaa
open Go Go.Jq
set_option maxRecDepth 100000
set_option linter.unusedSimpArgs false

def lwG (A B C : DV) (ex : Fr) : Fr := ex ++ [(0, .d A), (1, .d B), (2, .d C), (6, .d (.bool false)), (7, .ptr 0 0), (8, .ptr 1 0)]

/-- In the third loop. -/
def lwC (A B C I T : DV) (ds : List DV) (th : List Bool) (i : Nat) : St :=
  ⟨lwG A B C [(11, .d (.int .i64 i))], [(0, [.d (.str [110]), .d I, .d T, .d (.int .i64 (wlKind i)), .sl 2 1 0 i]), (1, bcells th), (2, ds.map .d)], 3⟩

theorem lw_c {a : List UInt8} {A B C I T : DV} (hA : IsBs a C) {th : List Bool} (hth : th.length = 26) {Q : Exit → St → Prop}
    (hQ : ∀ ds, IsSls Atom.cells ((a.take 8).map fun x => [wlAtom x]) ds → ds.length = (a.take 8).length → Q (.exit 4) (lwC A B C I T ds ((a.take 8).foldl setLoc th) (a.take 8).length)) :
    BWP Try.prog (mbound []) 155 (.loop ac5L2) (lwC A B C I T [] th 0) Q := by
  have hAl := hA.len
  have hAb := hA.1
  have hN : (a.take 8).length ≤ 8 ∧ (a.take 8).length ≤ a.length ∧ ((a.take 8).length = a.length ∨ (a.take 8).length = 8) := by
    rw [List.length_take]; omega
  generalize hl : (a.take 8).length = N at hN hQ
  refine bwp_fam (ι := { p : Nat × List DV // p.1 ≤ N ∧ IsSls Atom.cells ((a.take p.1).map fun x => [wlAtom x]) p.2 }) (fun p => lwC A B C I T p.1.2 ((a.take p.1.1).foldl setLoc th) p.1.1) (fun p => N - p.1.1) ⟨(0, []), Nat.zero_le _, trivial⟩ ?_
  rintro ⟨⟨i, ds⟩, hi, hds⟩
  simp only at hi hds
  have hdl : ds.length = i := by rw [hds.length, List.length_map, List.length_take]; omega
  simp only
  have hlen : ((a.take i).foldl setLoc th).length = 26 := by rw [setLocs_len, hth]
  generalize hthi : (a.take i).foldl setLoc th = thi at hlen
  unfold ac5L2
  refine bwp_seq fun K1 hK1 => ?_
  by_cases hlt : i < N
  · have hia : i < a.length := Nat.lt_of_lt_of_le hlt hN.2.1
    have hlt1 : (i : Int) < a.length := by omega
    have hlt2 : (i : Int) < 8 := by omega
    obtain ⟨cs, rest, hAe, hdrop, hcs⟩ := hA.at (w := 1) (fun _ => rfl) (by omega) i hia
    rw [Nat.mul_one] at hdrop hcs
    have hx := a[i].toNat_lt
    have hnx : ((a.take (i + 1)).map fun x => [wlAtom x]) = ((a.take i).map fun x => [wlAtom x]) ++ [[wlAtom a[i]]] := by rw [take_snoc a i hia, List.map_append]; rfl
    have hth2 : (a.take (i + 1)).foldl setLoc th = thi.set (byteLoc a[i]) true := by
      rw [take_snoc a i hia, List.foldl_append, hthi]; rfl
    have hbl := byteLoc_lt a[i]
    have hwi : Atom.cells (wlAtom a[i]) = [.int .i64 (-1), .int .i64 0, .int .i64 (97 + (byteLoc a[i] : Int)), .int .i64 0] := rfl
    have hbe : a[i].toNat % 26 = byteLoc a[i] := rfl
    generalize a[i] = x at *
    generalize byteLoc x = q at *
    have hq26 : (q : Int) < 26 := by omega
    have hq1 : q + 1 ≤ 26 := by omega
    have hwq : IntKind.i64.wrap (q : Int) = (q : Int) := wrap_i64 (by omega) (by omega)
    have hw97 : IntKind.i64.wrap (97 + (q : Int)) = 97 + (q : Int) := wrap_i64 (by omega) (by omega)
    have hw : IntKind.i64.wrap ((i : Int) + 1) = ((i + 1 : Nat) : Int) := by rw [wrap_i64 (by omega) (by omega)]; rfl
    have hi24 : (i + 1) * 24 ≤ 140737488351232 := by omega
    have hk1 : wlKind (i + 1) = 1 := rfl
    unfold lwC lwG
    refine bwp_seq fun K hK => bwp_region rfl ?_
    simp -implicitDefEqProofs only [go_sem, ↓reduceIte, Nat.reduceEqDiff, Nat.reduceAdd, Nat.reduceLeDiff, Nat.reduceMul, Nat.reduceSub, Int.reduceLE, Int.reduceLT, Int.reduceEq, Int.reduceToNat, Int.reducePow, Int.reduceNeg, hAl, hlt1, hlt2]
    refine hK _ ?_; clear hK
    refine bwp_cond true (by simp [ev, fget]) (fun _ => ?_) (fun h => nomatch h)
    refine bwp_skip ?_
    refine hK1 _ ?_; clear hK1
    refine bwp_seq fun K1 hK1 => ?_
    refine bwp_block ?_
    refine bwp_seq fun K hK => bwp_region rfl ?_
    simp -implicitDefEqProofs only [go_sem, ↓reduceIte, Nat.reduceEqDiff, Nat.reduceAdd, Nat.reduceLeDiff, Nat.reduceMul, Nat.reduceSub, Int.reduceLE, Int.reduceLT, Int.reduceEq, Int.reduceToNat, Int.reducePow, Int.reduceNeg]
    refine hK _ ?_; clear hK
    refine bwp_seq fun K hK => bwp_region_draw rfl rfl ?_
    simp -implicitDefEqProofs only [go_sem, ↓reduceIte, Nat.reduceEqDiff, Nat.reduceAdd, Nat.reduceLeDiff, Nat.reduceMul, Nat.reduceSub, Int.reduceLE, Int.reduceLT, Int.reduceEq, Int.reduceToNat, Int.reducePow, Int.reduceNeg, hAe, hlt1, Int.natCast_nonneg, Int.toNat_natCast, Nat.mul_one, hcs, hdrop, tm26, hbe, hwq, hw97, List.length_append, hdl, hi24]
    refine ⟨rfl, hK _ ?_⟩; clear hK
    refine bwp_region rfl ?_
    simp -implicitDefEqProofs only [go_sem, ↓reduceIte, Nat.reduceEqDiff, Nat.reduceAdd, Nat.reduceLeDiff, Nat.reduceMul, Nat.reduceSub, Int.reduceLE, Int.reduceLT, Int.reduceEq, Int.reduceToNat, Int.reducePow, Int.reduceNeg, hAe, hlt1, Int.natCast_nonneg, Int.toNat_natCast, Nat.mul_one, hcs, hdrop, tm26, hbe, hq26, hq1, hlen]
    refine hK1 _ ?_; clear hK1
    have hsl : IsSl Atom.cells [wlAtom x] (.sl 1 [.int .i64 (-1), .int .i64 0, .int .i64 (97 + (q : Int)), .int .i64 0]) := ⟨by simp, .inr (by simp [hwi])⟩
    refine bwp_leads (S' := ⟨lwG A B C [(11, .d (.int .i64 i))], [(0, [.d (.str [110]), .d I, .d T, .d (.int .i64 1), .sl 2 1 0 (i + 1)]), (1, bcells (thi.set q true)), (2, (ds ++ [DV.sl 1 [.int .i64 (-1), .int .i64 0, .int .i64 (97 + (q : Int)), .int .i64 0]]).map .d)], 3⟩)
      (Leads.frz [(0, 0), (1, 1), (16, 2)] [(14, [.int .i64 (-1), .int .i64 0, .int .i64 (97 + (q : Int)), .int .i64 0])] ⟨?_, ?_, rfl, rfl, ?_⟩) ?_
    · simp [lwG, frzT, fget, AV.cv, cvL, zget, pget, hAe]
    · simp [frzM, pinv, zget, mget, cvL, AV.cv, pget, cvL_append, cvL_d, -List.map_map]
    · simp [zokFrom, mget, cvL, AV.cv]
    unfold lwG
    refine bwp_region rfl ?_
    simp -implicitDefEqProofs only [go_sem, ↓reduceIte, Nat.reduceEqDiff, Nat.reduceAdd, Nat.reduceLeDiff, Nat.reduceMul, Nat.reduceSub, Int.reduceLE, Int.reduceLT, Int.reduceEq, Int.reduceToNat, Int.reducePow, Int.reduceNeg, hw]
    refine ⟨⟨(i + 1, ds ++ [DV.sl 1 [.int .i64 (-1), .int .i64 0, .int .i64 (97 + (q : Int)), .int .i64 0]]), hlt, ?_⟩, ?_, Leads.ent [(0, 0), (1, 1), (2, 2)] ⟨?_, ?_, rfl, rfl⟩⟩
    · simp only
      rw [hnx]
      exact hds.append hsl
    · simp only; omega
    · simp [lwC, lwG, entT, fget, AV.ren, renL, pget]
    · simp only [lwC]
      rw [hth2, hk1]
      simp [entM, pinv, mget, renL, AV.ren, pget, renL_append, -List.map_map]
  · have hin : i = N := by omega
    subst hin
    have hst : a.take i = a.take 8 := by
      rcases hN.2.2 with h | h
      · rw [List.take_of_length_le (by omega), List.take_of_length_le (by omega)]
      · rw [h]
    rw [hst] at hthi hds
    subst hthi
    have hfin := hQ ds hds hdl
    by_cases h1 : i < a.length
    · have h1' : (i : Int) < a.length := by omega
      have h2' : ¬ (i : Int) < 8 := by omega
      unfold lwC lwG
      refine bwp_seq fun K hK => bwp_region rfl ?_
      simp -implicitDefEqProofs only [go_sem, ↓reduceIte, Nat.reduceEqDiff, Nat.reduceAdd, Nat.reduceLeDiff, Nat.reduceMul, Nat.reduceSub, Int.reduceLE, Int.reduceLT, Int.reduceEq, Int.reduceToNat, Int.reducePow, Int.reduceNeg, hAl, h1', h2']
      refine hK _ ?_; clear hK
      refine bwp_cond false (by simp [ev, fget]) (fun h => nomatch h) (fun _ => ?_)
      refine bwp_leads (S' := lwC A B C I T ds ((a.take 8).foldl setLoc th) i) (Leads.ent [(0, 0), (1, 1), (2, 2)] ⟨by simp [entT, fget, AV.ren, renL, pget, lwC, lwG], by simp [entM, pinv, mget, mset, renL, AV.ren, pget, renL_append, -List.map_map, lwC, lwG], rfl, rfl⟩) ?_
      exact bwp_exit hfin
    · have h1' : ¬ (i : Int) < a.length := by omega
      unfold lwC lwG
      refine bwp_seq fun K hK => bwp_region rfl ?_
      simp -implicitDefEqProofs only [go_sem, ↓reduceIte, Nat.reduceEqDiff, Nat.reduceAdd, Nat.reduceLeDiff, Nat.reduceMul, Nat.reduceSub, Int.reduceLE, Int.reduceLT, Int.reduceEq, Int.reduceToNat, Int.reducePow, Int.reduceNeg, hAl, h1']
      refine hK _ ?_; clear hK
      refine bwp_cond false (by simp [ev, fget]) (fun h => nomatch h) (fun _ => ?_)
      refine bwp_leads (S' := lwC A B C I T ds ((a.take 8).foldl setLoc th) i) (Leads.ent [(0, 0), (1, 1), (2, 2)] ⟨by simp [entT, fget, AV.ren, renL, pget, lwC, lwG], by simp [entM, pinv, mget, mset, renL, AV.ren, pget, renL_append, -List.map_map, lwC, lwG], rfl, rfl⟩) ?_
      exact bwp_exit hfin

/-- In the fourth loop. -/
def lwO (A B C : DV) (cs : List DV) (th : List Bool) (i : Nat) : St :=
  ⟨lwG A B C [(13, .d (.int .i64 i)), (12, .sl 2 1 0 (thLets th i).length)], [(0, cs.map .d), (1, bcells th), (2, ((thLets th i).map byteD).map .d)], 3⟩

theorem lw_o {A B C : DV} {cs : List DV} {th : List Bool} (hth : th.length = 26) {Q : Exit → St → Prop} (hQ : Q (.exit 6) (lwO A B C cs th 26)) :
    BWP Try.prog (mbound []) 155 (.loop ac5L3) (lwO A B C cs th 0) Q := by
  refine bwp_count (lwO A B C cs th) 26 ?_
  intro i hi
  unfold ac5L3
  refine bwp_seq fun K1 hK1 => ?_
  by_cases hlt : i < 26
  · have hlt' : (i : Int) < 26 := by omega
    have hg : th[i]? = some (th.getD i false) := by
      rw [List.getD_eq_getElem?_getD, List.getElem?_eq_getElem (by omega)]; rfl
    have hw : IntKind.i64.wrap ((i : Int) + 1) = ((i + 1 : Nat) : Int) := by rw [wrap_i64 (by omega) (by omega)]; omega
    have hw97 : IntKind.i64.wrap (97 + (i : Int)) = ((97 + i : Nat) : Int) := by rw [wrap_i64 (by omega) (by omega)]; omega
    have hwb : IntKind.u8.wrap (((97 + i : Nat) : Int)) = ((97 + i : Nat) : Int) := wrap_u8 (by omega) (by omega)
    have hl := thLets_len th i
    have hl2 : (thLets th i).length + 1 ≤ 140737488351232 := by omega
    have hlt2 := thLets_next th i
    unfold lwO lwG
    refine bwp_seq fun K hK => bwp_region rfl ?_
    simp -implicitDefEqProofs only [go_sem, ↓reduceIte, Nat.reduceEqDiff, Nat.reduceAdd, Nat.reduceLeDiff, Nat.reduceMul, Nat.reduceSub, Int.reduceLE, Int.reduceLT, Int.reduceEq, Int.reduceToNat, Int.reducePow, Int.reduceNeg, hlt']
    refine hK _ ?_; clear hK
    refine bwp_cond true (by simp [ev, fget]) (fun _ => ?_) (fun h => nomatch h)
    refine bwp_skip ?_
    refine hK1 _ ?_; clear hK1
    refine bwp_seq fun K1 hK1 => ?_
    refine bwp_block ?_
    refine bwp_seq fun K hK => bwp_region rfl ?_
    simp -implicitDefEqProofs only [go_sem, ↓reduceIte, Nat.reduceEqDiff, Nat.reduceAdd, Nat.reduceLeDiff, Nat.reduceMul, Nat.reduceSub, Int.reduceLE, Int.reduceLT, Int.reduceEq, Int.reduceToNat, Int.reducePow, Int.reduceNeg, Int.natCast_nonneg, hlt', Int.toNat_natCast, Nat.mul_one, List.getElem?_drop, hg]
    refine hK _ ?_; clear hK
    by_cases hb : th.getD i false = true
    · rw [if_pos hb] at hlt2
      rw [hb]
      have hbn : byteD (letter i) = .int .u8 (97 + i : Nat) := by
        have : (letter i).toNat = 97 + i := by simp [letter]; omega
        rw [byteD, this]
      refine bwp_cond true (by simp [ev, fget]) (fun _ => ?_) (fun h => nomatch h)
      refine bwp_region rfl ?_
      simp -implicitDefEqProofs only [go_sem, ↓reduceIte, Nat.reduceEqDiff, Nat.reduceAdd, Nat.reduceLeDiff, Nat.reduceMul, Nat.reduceSub, Int.reduceLE, Int.reduceLT, Int.reduceEq, Int.reduceToNat, Int.reducePow, Int.reduceNeg, hw97, hwb, hl2, List.length_append]
      refine hK1 _ ?_; clear hK1
      refine bwp_region rfl ?_
      simp -implicitDefEqProofs only [go_sem, ↓reduceIte, Nat.reduceEqDiff, Nat.reduceAdd, Nat.reduceLeDiff, Nat.reduceMul, Nat.reduceSub, Int.reduceLE, Int.reduceLT, Int.reduceEq, Int.reduceToNat, Int.reducePow, Int.reduceNeg, hw]
      exact ⟨hlt, (Leads.ent [(0, 0), (1, 1), (4, 2)] ⟨by simp [entT, fget, AV.ren, renL, pget, lwO, lwG, hlt2, hbn], by simp [entM, pinv, mget, mset, renL, AV.ren, pget, renL_append, -List.map_map, lwO, lwG, hlt2, hbn], rfl, rfl⟩)⟩
    · rw [if_neg hb] at hlt2
      have hb' : th.getD i false = false := by simpa using hb
      rw [hb']
      refine bwp_cond false (by simp [ev, fget]) (fun h => nomatch h) (fun _ => ?_)
      refine bwp_skip ?_
      refine hK1 _ ?_; clear hK1
      refine bwp_region rfl ?_
      simp -implicitDefEqProofs only [go_sem, ↓reduceIte, Nat.reduceEqDiff, Nat.reduceAdd, Nat.reduceLeDiff, Nat.reduceMul, Nat.reduceSub, Int.reduceLE, Int.reduceLT, Int.reduceEq, Int.reduceToNat, Int.reducePow, Int.reduceNeg, hw]
      exact ⟨hlt, (Leads.ent [(0, 0), (1, 1), (2, 2)] ⟨by simp [entT, fget, AV.ren, renL, pget, lwO, lwG, hlt2], by simp [entM, pinv, mget, mset, renL, AV.ren, pget, renL_append, -List.map_map, lwO, lwG, hlt2], rfl, rfl⟩)⟩
  · have hlt' : ¬ (i : Int) < 26 := by omega
    have hin : i = 26 := by omega
    unfold lwO lwG
    refine bwp_seq fun K hK => bwp_region rfl ?_
    simp -implicitDefEqProofs only [go_sem, ↓reduceIte, Nat.reduceEqDiff, Nat.reduceAdd, Nat.reduceLeDiff, Nat.reduceMul, Nat.reduceSub, Int.reduceLE, Int.reduceLT, Int.reduceEq, Int.reduceToNat, Int.reducePow, Int.reduceNeg, hlt']
    refine hK _ ?_; clear hK
    refine bwp_cond false (by simp [ev, fget]) (fun h => nomatch h) (fun _ => ?_)
    subst hin
    refine bwp_leads (S' := lwO A B C cs th 26) (Leads.ent [(0, 0), (1, 1), (2, 2)] ⟨by simp [entT, fget, AV.ren, renL, pget, lwO, lwG], by simp [entM, pinv, mget, mset, renL, AV.ren, pget, renL_append, -List.map_map, lwO, lwG], rfl, rfl⟩) ?_
    exact bwp_exit hQ

end Go.Proofs.Ytjfghjakpjfgpaa
