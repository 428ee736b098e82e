/- WellLocs: its loops. -/
import Derived.Test.YtjfghjakpjfgpaaG8
import Derived.Test.YtjfghjakpjfgpaaG2
import Derived.Test.YtjfghjakpjfgpaaXI
namespace Go.Proofs.Ytjfghjakpjfgpaa
open Go Go.Jq
set_option maxRecDepth 100000
set_option linter.unusedSimpArgs false

/-- A slice of bytes. -/
abbrev IsBs (s : List UInt8) (X : DV) : Prop := IsSl (fun b : UInt8 => [DV.int .u8 b.toNat]) s X

def lwF (A B C : DV) (ex : Fr) : Fr := ex ++ [(0, .d A), (1, .d B), (2, .d C), (6, .d (.bool false)), (7, .ptr 1 0), (8, .ptr 2 0)]

theorem tm26 (x : Nat) : (x : Int).tmod 26 = ((x % 26 : Nat) : Int) := rfl

/-- In the first loop. -/
def lwA (A B C : DV) (s : List UInt8) (th : List Bool) (i : Nat) : St :=
  ⟨lwF A B C [(9, .d (.int .i64 i))], [(0, [.d .nsl]), (1, [.d (.str [110]), .sl 3 2 0 i, .sl 0 1 0 1, .d (.int .i64 0), .d .nsl]), (2, bcells th), (3, ((s.map wlInit).flatMap Init.cells).map .d)], 4⟩

theorem lw_a {a : List UInt8} {A B C : DV} (hA : IsBs a A) {th : List Bool} (hth : th.length = 26) {Q : Exit → St → Prop}
    (hQ : Q (.exit 0) (lwA A B C (a.take 10) ((a.take 10).foldl setLoc th) (a.take 10).length)) :
    BWP Try.prog (mbound []) 155 (.loop ac5L0) (lwA A B C [] th 0) Q := by
  have hAl := hA.len
  have hAb := hA.1
  have hN : (a.take 10).length ≤ 10 ∧ (a.take 10).length ≤ a.length ∧ ((a.take 10).length = a.length ∨ (a.take 10).length = 10) := by
    rw [List.length_take]; omega
  generalize hl : (a.take 10).length = N at hN hQ
  refine bwp_count (fun i => lwA A B C (a.take i) ((a.take i).foldl setLoc th) i) N ?_
  intro i hi
  have hlen : ((a.take i).foldl setLoc th).length = 26 := by rw [setLocs_len, hth]
  generalize hthi : (a.take i).foldl setLoc th = thi at hlen
  unfold ac5L0
  refine bwp_seq fun K1 hK1 => ?_
  by_cases hlt : i < N
  · have hia : i < a.length := by omega
    have hlt1 : (i : Int) < a.length := by omega
    have hlt2 : (i : Int) < 10 := by omega
    obtain ⟨cs, rest, hAe, hdrop, hcs⟩ := hA.at (w := 1) (fun _ => rfl) (by omega) i hia
    rw [Nat.mul_one] at hdrop hcs
    have hx := a[i].toNat_lt
    have hnx : (a.take (i + 1)).map wlInit = (a.take i).map wlInit ++ [wlInit a[i]] := by rw [take_snoc a i hia, List.map_append]; rfl
    have hth2 : (a.take (i + 1)).foldl setLoc th = thi.set (byteLoc a[i]) true := by
      rw [take_snoc a i hia, List.foldl_append, hthi]; rfl
    have hil := flat_len init_len ((a.take i).map wlInit)
    rw [List.length_map, List.length_take, Nat.min_eq_left (by omega)] at hil
    have hbl := byteLoc_lt a[i]
    have hwi : Init.cells (wlInit a[i]) = [.int .i64 (97 + (byteLoc a[i] : Int)), .int .i64 0] := rfl
    have hbe : a[i].toNat % 26 = byteLoc a[i] := rfl
    generalize a[i] = x at *
    generalize byteLoc x = q at *
    have hq26 : (q : Int) < 26 := by omega
    have hq1 : q + 1 ≤ 26 := by omega
    have hwq : IntKind.i64.wrap (q : Int) = (q : Int) := wrap_i64 (by omega) (by omega)
    have hw97 : IntKind.i64.wrap (97 + (q : Int)) = 97 + (q : Int) := wrap_i64 (by omega) (by omega)
    have hw : IntKind.i64.wrap ((i : Int) + 1) = ((i + 1 : Nat) : Int) := by rw [wrap_i64 (by omega) (by omega)]; rfl
    have hi16 : (i + 1) * 16 ≤ 140737488351232 := by omega
    unfold lwA lwF
    refine bwp_seq fun K hK => bwp_region rfl ?_
    simp -implicitDefEqProofs only [go_sem, ↓reduceIte, Nat.reduceEqDiff, Nat.reduceAdd, Nat.reduceLeDiff, Nat.reduceMul, Nat.reduceSub, Int.reduceLE, Int.reduceLT, Int.reduceEq, Int.reduceToNat, Int.reducePow, Int.reduceNeg, hAl, hlt1, hlt2]
    refine hK _ ?_; clear hK
    refine bwp_cond true (by simp [ev, fget]) (fun _ => ?_) (fun h => nomatch h)
    refine bwp_skip ?_
    refine hK1 _ ?_; clear hK1
    refine bwp_seq fun K1 hK1 => ?_
    refine bwp_block ?_
    refine bwp_seq fun K hK => bwp_region_draw rfl rfl ?_
    simp -implicitDefEqProofs only [go_sem, ↓reduceIte, Nat.reduceEqDiff, Nat.reduceAdd, Nat.reduceLeDiff, Nat.reduceMul, Nat.reduceSub, Int.reduceLE, Int.reduceLT, Int.reduceEq, Int.reduceToNat, Int.reducePow, Int.reduceNeg, hAe, hlt1, Int.natCast_nonneg, Int.toNat_natCast, Nat.mul_one, hcs, hdrop, tm26, hbe, hwq, hw97, List.length_append, hil, hi16]
    refine ⟨rfl, hK _ ?_⟩; clear hK
    refine bwp_region rfl ?_
    simp -implicitDefEqProofs only [go_sem, ↓reduceIte, Nat.reduceEqDiff, Nat.reduceAdd, Nat.reduceLeDiff, Nat.reduceMul, Nat.reduceSub, Int.reduceLE, Int.reduceLT, Int.reduceEq, Int.reduceToNat, Int.reducePow, Int.reduceNeg, hAe, hlt1, Int.natCast_nonneg, Int.toNat_natCast, Nat.mul_one, hcs, hdrop, tm26, hbe, hq26, hq1, hlen]
    refine hK1 _ ?_; clear hK1
    refine bwp_region rfl ?_
    simp -implicitDefEqProofs only [go_sem, ↓reduceIte, Nat.reduceEqDiff, Nat.reduceAdd, Nat.reduceLeDiff, Nat.reduceMul, Nat.reduceSub, Int.reduceLE, Int.reduceLT, Int.reduceEq, Int.reduceToNat, Int.reducePow, Int.reduceNeg, hw]
    unfold lwA lwF
    rw [hnx, hth2]
    generalize (a.take i).map wlInit = L
    exact ⟨hlt, (Leads.ent [(0, 0), (1, 1), (2, 2), (15, 3)] ⟨by simp [entT, fget, AV.ren, renL, pget, hAe, hwi], by simp [entM, pinv, mget, mset, renL, AV.ren, pget, renL_append, -List.map_map, hAe, hwi], rfl, rfl⟩)⟩
  · have hin : i = N := by omega
    subst hin
    have hst : a.take i = a.take 10 := by
      rcases hN.2.2 with h | h
      · rw [List.take_of_length_le (by omega), List.take_of_length_le (by omega)]
      · rw [h]
    rw [hst] at hthi ⊢
    subst hthi
    by_cases h1 : i < a.length
    · have h1' : (i : Int) < a.length := by omega
      have h2' : ¬ (i : Int) < 10 := by omega
      unfold lwA lwF
      refine bwp_seq fun K hK => bwp_region rfl ?_
      simp -implicitDefEqProofs only [go_sem, ↓reduceIte, Nat.reduceEqDiff, Nat.reduceAdd, Nat.reduceLeDiff, Nat.reduceMul, Nat.reduceSub, Int.reduceLE, Int.reduceLT, Int.reduceEq, Int.reduceToNat, Int.reducePow, Int.reduceNeg, hAl, h1', h2']
      refine hK _ ?_; clear hK
      refine bwp_cond false (by simp [ev, fget]) (fun h => nomatch h) (fun _ => ?_)
      refine bwp_leads (S' := lwA A B C (a.take 10) ((a.take 10).foldl setLoc th) i) (Leads.ent [(0, 0), (1, 1), (2, 2), (3, 3)] ⟨by simp [entT, fget, AV.ren, renL, pget, lwA, lwF], by simp [entM, pinv, mget, mset, renL, AV.ren, pget, renL_append, -List.map_map, lwA, lwF], rfl, rfl⟩) ?_
      exact bwp_exit hQ
    · have h1' : ¬ (i : Int) < a.length := by omega
      unfold lwA lwF
      refine bwp_seq fun K hK => bwp_region rfl ?_
      simp -implicitDefEqProofs only [go_sem, ↓reduceIte, Nat.reduceEqDiff, Nat.reduceAdd, Nat.reduceLeDiff, Nat.reduceMul, Nat.reduceSub, Int.reduceLE, Int.reduceLT, Int.reduceEq, Int.reduceToNat, Int.reducePow, Int.reduceNeg, hAl, h1']
      refine hK _ ?_; clear hK
      refine bwp_cond false (by simp [ev, fget]) (fun h => nomatch h) (fun _ => ?_)
      refine bwp_leads (S' := lwA A B C (a.take 10) ((a.take 10).foldl setLoc th) i) (Leads.ent [(0, 0), (1, 1), (2, 2), (3, 3)] ⟨by simp [entT, fget, AV.ren, renL, pget, lwA, lwF], by simp [entM, pinv, mget, mset, renL, AV.ren, pget, renL_append, -List.map_map, lwA, lwF], rfl, rfl⟩) ?_
      exact bwp_exit hQ

/-- In the second loop. -/
def lwB (A B C I : DV) (s : List UInt8) (th : List Bool) (i : Nat) : St :=
  ⟨lwF A B C [(10, .d (.int .i64 i))], [(0, [.sl 3 9 0 i]), (1, [.d (.str [110]), .d I, .sl 0 1 0 1, .d (.int .i64 0), .d .nsl]), (2, bcells th), (3, ((s.map wlIns).flatMap Ins.cells).map .d)], 4⟩

theorem lw_b {a : List UInt8} {A B C I : DV} (hA : IsBs a B) {th : List Bool} (hth : th.length = 26) {Q : Exit → St → Prop}
    (hQ : Q (.exit 2) (lwB A B C I (a.take 10) ((a.take 10).foldl setLoc th) (a.take 10).length)) :
    BWP Try.prog (mbound []) 155 (.loop ac5L1) (lwB A B C I [] th 0) Q := by
  have hAl := hA.len
  have hAb := hA.1
  have hN : (a.take 10).length ≤ 10 ∧ (a.take 10).length ≤ a.length ∧ ((a.take 10).length = a.length ∨ (a.take 10).length = 10) := by
    rw [List.length_take]; omega
  generalize hl : (a.take 10).length = N at hN hQ
  refine bwp_count (fun i => lwB A B C I (a.take i) ((a.take i).foldl setLoc th) i) N ?_
  intro i hi
  have hlen : ((a.take i).foldl setLoc th).length = 26 := by rw [setLocs_len, hth]
  generalize hthi : (a.take i).foldl setLoc th = thi at hlen
  unfold ac5L1
  refine bwp_seq fun K1 hK1 => ?_
  by_cases hlt : i < N
  · have hia : i < a.length := Nat.lt_of_lt_of_le hlt hN.2.1
    have hlt1 : (i : Int) < a.length := by omega
    have hlt2 : (i : Int) < 10 := by omega
    obtain ⟨cs, rest, hAe, hdrop, hcs⟩ := hA.at (w := 1) (fun _ => rfl) (by omega) i hia
    rw [Nat.mul_one] at hdrop hcs
    have hx := a[i].toNat_lt
    have hnx : (a.take (i + 1)).map wlIns = (a.take i).map wlIns ++ [wlIns a[i]] := by rw [take_snoc a i hia, List.map_append]; rfl
    have hth2 : (a.take (i + 1)).foldl setLoc th = thi.set (byteLoc a[i]) true := by
      rw [take_snoc a i hia, List.foldl_append, hthi]; rfl
    have hil := flat_len ins_len ((a.take i).map wlIns)
    rw [List.length_map, List.length_take, Nat.min_eq_left (by omega)] at hil
    have hbl := byteLoc_lt a[i]
    have hwi : Ins.cells (wlIns a[i]) = [.int .i64 2, .int .i64 0, .int .i64 (97 + (byteLoc a[i] : Int)), .int .i64 0, .int .i64 0, .int .i64 0, .int .i64 0, .int .i64 0, .int .i64 0] := rfl
    have hbe : a[i].toNat % 26 = byteLoc a[i] := rfl
    generalize a[i] = x at *
    generalize byteLoc x = q at *
    have hq26 : (q : Int) < 26 := by omega
    have hq1 : q + 1 ≤ 26 := by omega
    have hwq : IntKind.i64.wrap (q : Int) = (q : Int) := wrap_i64 (by omega) (by omega)
    have hw97 : IntKind.i64.wrap (97 + (q : Int)) = 97 + (q : Int) := wrap_i64 (by omega) (by omega)
    have hw : IntKind.i64.wrap ((i : Int) + 1) = ((i + 1 : Nat) : Int) := by rw [wrap_i64 (by omega) (by omega)]; rfl
    have hi72 : (i + 1) * 72 ≤ 140737488351232 := by omega
    unfold lwB lwF
    refine bwp_seq fun K hK => bwp_region rfl ?_
    simp -implicitDefEqProofs only [go_sem, ↓reduceIte, Nat.reduceEqDiff, Nat.reduceAdd, Nat.reduceLeDiff, Nat.reduceMul, Nat.reduceSub, Int.reduceLE, Int.reduceLT, Int.reduceEq, Int.reduceToNat, Int.reducePow, Int.reduceNeg, hAl, hlt1, hlt2]
    refine hK _ ?_; clear hK
    refine bwp_cond true (by simp [ev, fget]) (fun _ => ?_) (fun h => nomatch h)
    refine bwp_skip ?_
    refine hK1 _ ?_; clear hK1
    refine bwp_seq fun K1 hK1 => ?_
    refine bwp_block ?_
    refine bwp_seq fun K hK => bwp_region_draw rfl rfl ?_
    simp -implicitDefEqProofs only [go_sem, ↓reduceIte, Nat.reduceEqDiff, Nat.reduceAdd, Nat.reduceLeDiff, Nat.reduceMul, Nat.reduceSub, Int.reduceLE, Int.reduceLT, Int.reduceEq, Int.reduceToNat, Int.reducePow, Int.reduceNeg, hAe, hlt1, Int.natCast_nonneg, Int.toNat_natCast, Nat.mul_one, hcs, hdrop, tm26, hbe, hwq, hw97, List.length_append, hil, hi72]
    refine ⟨rfl, hK _ ?_⟩; clear hK
    refine bwp_region rfl ?_
    simp -implicitDefEqProofs only [go_sem, ↓reduceIte, Nat.reduceEqDiff, Nat.reduceAdd, Nat.reduceLeDiff, Nat.reduceMul, Nat.reduceSub, Int.reduceLE, Int.reduceLT, Int.reduceEq, Int.reduceToNat, Int.reducePow, Int.reduceNeg, hAe, hlt1, Int.natCast_nonneg, Int.toNat_natCast, Nat.mul_one, hcs, hdrop, tm26, hbe, hq26, hq1, hlen]
    refine hK1 _ ?_; clear hK1
    refine bwp_region rfl ?_
    simp -implicitDefEqProofs only [go_sem, ↓reduceIte, Nat.reduceEqDiff, Nat.reduceAdd, Nat.reduceLeDiff, Nat.reduceMul, Nat.reduceSub, Int.reduceLE, Int.reduceLT, Int.reduceEq, Int.reduceToNat, Int.reducePow, Int.reduceNeg, hw]
    unfold lwB lwF
    rw [hnx, hth2]
    generalize (a.take i).map wlIns = L
    exact ⟨hlt, (Leads.ent [(0, 0), (1, 1), (2, 2), (19, 3)] ⟨by simp [entT, fget, AV.ren, renL, pget, hAe, hwi], by simp [entM, pinv, mget, mset, renL, AV.ren, pget, renL_append, -List.map_map, hAe, hwi], rfl, rfl⟩)⟩
  · have hin : i = N := by omega
    subst hin
    have hst : a.take i = a.take 10 := by
      rcases hN.2.2 with h | h
      · rw [List.take_of_length_le (by omega), List.take_of_length_le (by omega)]
      · rw [h]
    rw [hst] at hthi ⊢
    subst hthi
    by_cases h1 : i < a.length
    · have h1' : (i : Int) < a.length := by omega
      have h2' : ¬ (i : Int) < 10 := by omega
      unfold lwB lwF
      refine bwp_seq fun K hK => bwp_region rfl ?_
      simp -implicitDefEqProofs only [go_sem, ↓reduceIte, Nat.reduceEqDiff, Nat.reduceAdd, Nat.reduceLeDiff, Nat.reduceMul, Nat.reduceSub, Int.reduceLE, Int.reduceLT, Int.reduceEq, Int.reduceToNat, Int.reducePow, Int.reduceNeg, hAl, h1', h2']
      refine hK _ ?_; clear hK
      refine bwp_cond false (by simp [ev, fget]) (fun h => nomatch h) (fun _ => ?_)
      refine bwp_leads (S' := lwB A B C I (a.take 10) ((a.take 10).foldl setLoc th) i) (Leads.ent [(0, 0), (1, 1), (2, 2), (3, 3)] ⟨by simp [entT, fget, AV.ren, renL, pget, lwB, lwF], by simp [entM, pinv, mget, mset, renL, AV.ren, pget, renL_append, -List.map_map, lwB, lwF], rfl, rfl⟩) ?_
      exact bwp_exit hQ
    · have h1' : ¬ (i : Int) < a.length := by omega
      unfold lwB lwF
      refine bwp_seq fun K hK => bwp_region rfl ?_
      simp -implicitDefEqProofs only [go_sem, ↓reduceIte, Nat.reduceEqDiff, Nat.reduceAdd, Nat.reduceLeDiff, Nat.reduceMul, Nat.reduceSub, Int.reduceLE, Int.reduceLT, Int.reduceEq, Int.reduceToNat, Int.reducePow, Int.reduceNeg, hAl, h1']
      refine hK _ ?_; clear hK
      refine bwp_cond false (by simp [ev, fget]) (fun h => nomatch h) (fun _ => ?_)
      refine bwp_leads (S' := lwB A B C I (a.take 10) ((a.take 10).foldl setLoc th) i) (Leads.ent [(0, 0), (1, 1), (2, 2), (3, 3)] ⟨by simp [entT, fget, AV.ren, renL, pget, lwB, lwF], by simp [entM, pinv, mget, mset, renL, AV.ren, pget, renL_append, -List.map_map, lwB, lwF], rfl, rfl⟩) ?_
      exact bwp_exit hQ

end Go.Proofs.Ytjfghjakpjfgpaa
