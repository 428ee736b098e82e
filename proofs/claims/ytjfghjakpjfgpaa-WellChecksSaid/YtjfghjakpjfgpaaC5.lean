/- CondRows comes to true, whatever it is given. -/
import Derived.Test.YtjfghjakpjfgpaaC4
namespace Go.Proofs.Ytjfghjakpjfgpaa
open Go Go.Jq
set_option maxRecDepth 100000
set_option linter.unusedSimpArgs false

theorem flat_len {α : Type} {enc : α → List DV} {k : Nat} (hk : ∀ a, (enc a).length = k) : ∀ l : List α, (l.flatMap enc).length = l.length * k
  | [] => by simp
  | a :: l => by rw [List.flatMap_cons, List.length_append, hk, flat_len hk l, List.length_cons, Nat.succ_mul, Nat.add_comm]

/-- The outer loop's state. -/
def crOut (X : DV) (f : List Int) (ds : List DV) (i : Nat) (want : Bool) : St :=
  ⟨[(1, .d X), (2, .dptr (finD f)), (5, .dptr [.sl 1 [.int .u8 120], .sl 1 [.int .i64 0], .sl 1 [.nsl]]), (6, .ptr 0 0), (7, .d (.bool want)), (8, .d (.int .i64 i))], [(0, [.d (.int .i64 1), .sl 1 1 0 i]), (1, ds.map .d)], 2⟩

/-- The inner loop's. -/
def crIn (X : DV) (f : List Int) (ds : List DV) (i : Nat) (want : Bool) (l : List Atom) (all : Bool) (k : Nat) : St :=
  ⟨[(1, .d X), (2, .dptr (finD f)), (5, .dptr [.sl 1 [.int .u8 120], .sl 1 [.int .i64 0], .sl 1 [.nsl]]), (6, .ptr 0 0), (7, .d (.bool want)), (8, .d (.int .i64 i)), (9, .sl 2 4 0 k), (10, .d (.bool all)), (11, .d (.int .i64 k))],
    [(0, [.d (.int .i64 1), .sl 1 1 0 i]), (1, ds.map .d), (2, (l.flatMap Atom.cells).map .d)], 3⟩

theorem crAtom {f : List Int} (k : Nat) (hk : k < 4) (v : Int) : atomHolds [120] 1 ⟨0, k, 0, v⟩ f = decide (f.getD k 0 = v) := by
  simp only [atomHolds, Int.reduceNeg, Int.reduceEq, if_false]
  rw [if_pos (by omega)]
  simp

theorem condRows_pure {f : List Int} (hf : f.length = 20) {ls : List Int} {X : DV} (hX : IsInts ls X) : Pure Try.prog 3 [finAV f, .d X] (.d (.bool true)) := by
  have hsl := hX.sl
  have hbig := hsl.big
  have hx := isBytes_x
  have hT : lenA (.d (.sl 1 [.nsl])) = some 1 := rfl
  refine acalls_of Try.func3 ac3_ok Try.ntmps3 Try.results3 rfl ?_
  unfold ac3
  unfold finAV
  refine bwp_seq fun K hK => bwp_region rfl ?_
  simp -implicitDefEqProofs only [go_sem, ↓reduceIte, Nat.reduceEqDiff, Nat.reduceAdd, Nat.reduceLeDiff, Nat.reduceMul, Nat.reduceSub, Int.reduceLE, Int.reduceLT, Int.reduceEq, Int.reduceToNat, Int.reducePow, Int.reduceNeg]
  refine hK _ ?_; clear hK
  refine bwp_seq fun K hK => bwp_region rfl ?_
  simp -implicitDefEqProofs only [go_sem, ↓reduceIte, Nat.reduceEqDiff, Nat.reduceAdd, Nat.reduceLeDiff, Nat.reduceMul, Nat.reduceSub, Int.reduceLE, Int.reduceLT, Int.reduceEq, Int.reduceToNat, Int.reducePow, Int.reduceNeg]
  refine hK _ ?_; clear hK
  refine bwp_seq fun K hK => bwp_region rfl ?_
  simp -implicitDefEqProofs only [go_sem, ↓reduceIte, Nat.reduceEqDiff, Nat.reduceAdd, Nat.reduceLeDiff, Nat.reduceMul, Nat.reduceSub, Int.reduceLE, Int.reduceLT, Int.reduceEq, Int.reduceToNat, Int.reducePow, Int.reduceNeg]
  refine hK _ ?_; clear hK
  refine bwp_leads (Leads.frz (S' := ⟨[(1, .d X), (2, .dptr (finD f)), (5, .dptr [.sl 1 [.int .u8 120], .sl 1 [.int .i64 0], .sl 1 [.nsl]]), (6, .ptr 0 0)], [(0, [.d (.int .i64 1), .d .nsl])], 1⟩) [(5, 0)]
    [(0, finD f), (1, [.int .u8 120]), (2, [.int .i64 0]), (3, [.nsl]), (4, [.sl 1 [.int .u8 120], .sl 1 [.int .i64 0], .sl 1 [.nsl]])] ⟨?_, ?_, rfl, rfl, ?_⟩) ?_
  · simp [frzT, fget, AV.cv, zget, pget]
  · simp [frzM, pinv, zget, mget, cvL, AV.cv]
  · simp [zokFrom, mget, cvL, AV.cv, zget, cvL_d]
  refine bwp_leads (Leads.nilCell 0 1 1 rfl rfl rfl rfl) ?_
  refine bwp_seq fun K hK => bwp_region rfl ?_
  simp -implicitDefEqProofs only [go_sem, ↓reduceIte, Nat.reduceEqDiff, Nat.reduceAdd, Nat.reduceLeDiff, Nat.reduceMul, Nat.reduceSub, Int.reduceLE, Int.reduceLT, Int.reduceEq, Int.reduceToNat, Int.reducePow, Int.reduceNeg]
  refine hK _ ?_; clear hK
  refine bwp_seq fun K9 hK9 => ?_
  refine bwp_seq fun K hK => bwp_region rfl ?_
  simp -implicitDefEqProofs only [go_sem, ↓reduceIte, Nat.reduceEqDiff, Nat.reduceAdd, Nat.reduceLeDiff, Nat.reduceMul, Nat.reduceSub, Int.reduceLE, Int.reduceLT, Int.reduceEq, Int.reduceToNat, Int.reducePow, Int.reduceNeg]
  refine hK _ ?_; clear hK
  refine bwp_block ?_
  refine bwp_leads (S' := ⟨[(1, .d X), (2, .dptr (finD f)), (5, .dptr [.sl 1 [.int .u8 120], .sl 1 [.int .i64 0], .sl 1 [.nsl]]), (6, .ptr 0 0), (7, .d (.bool false)), (8, .d (.int .i64 (0 : Nat)))], [(0, [.d (.int .i64 1), .sl 1 1 0 0]), (1, [])], 2⟩) (Leads.ent [(0, 0), (1, 1)] ⟨?_, ?_, rfl, rfl⟩) ?_
  · simp [entT, fget, AV.ren, pget]
  · simp [entM, pinv, mget, mset, renL, AV.ren, pget]
  refine bwp_loop (fun S => ∃ i rows ds want, i ≤ ls.length ∧ IsSls Atom.cells rows ds ∧ rows.length = i ∧ i ≤ 8 ∧ want = rows.any (fun l => l.all fun a => atomHolds [120] 1 a f) ∧ S = crOut X f ds i want)
    (fun S => match fget S.t 8 with
      | .d (.int _ i) => ls.length - i.toNat
      | _ => 0) ⟨0, [], [], false, Nat.zero_le _, trivial, rfl, by omega, rfl, rfl⟩ ?_
  rintro S ⟨i, rows, ds, want, hi, hds, hrl, hi8, hwant, rfl⟩
  have hdl : ds.length = i := by rw [hds.length, hrl]
  unfold crOut
  refine bwp_seq fun K1 hK1 => ?_
  by_cases hlt : i < ls.length ∧ i < 8
  · obtain ⟨hlt, hlt8⟩ := hlt
    have hlt' : (i : Int) < ls.length := by omega
    have hlt8' : (i : Int) < 8 := by omega
    obtain ⟨cs, hXe, hcs, hld⟩ := hsl.get i hlt
    have hel : (ls.map (DV.int .i64))[i]? = some (.int .i64 ls[i]) := by simp [hlt]
    simp only [eltD, hel, Nat.mul_one] at hld hcs
    generalize ls[i] = x at hel hld
    refine bwp_seq fun K hK => bwp_region rfl ?_
    simp -implicitDefEqProofs only [go_sem, ↓reduceIte, Nat.reduceEqDiff, Nat.reduceAdd, Nat.reduceLeDiff, Nat.reduceMul, Nat.reduceSub, Int.reduceLE, Int.reduceLT, Int.reduceEq, Int.reduceToNat, Int.reducePow, Int.reduceNeg, hsl.len, hlt', hlt8']
    refine hK _ ?_; clear hK
    refine bwp_cond true (by simp [ev, fget]) (fun _ => ?_) (fun h => nomatch h)
    refine bwp_skip ?_
    refine hK1 _ ?_; clear hK1
    refine bwp_seq fun K1 hK1 => ?_
    refine bwp_block ?_
    refine bwp_seq fun K hK => bwp_region rfl ?_
    simp -implicitDefEqProofs only [go_sem, ↓reduceIte, Nat.reduceEqDiff, Nat.reduceAdd, Nat.reduceLeDiff, Nat.reduceMul, Nat.reduceSub, Int.reduceLE, Int.reduceLT, Int.reduceEq, Int.reduceToNat, Int.reducePow, Int.reduceNeg]
    refine hK _ ?_; clear hK
    refine bwp_seq fun K hK => bwp_region rfl ?_
    simp -implicitDefEqProofs only [go_sem, ↓reduceIte, Nat.reduceEqDiff, Nat.reduceAdd, Nat.reduceLeDiff, Nat.reduceMul, Nat.reduceSub, Int.reduceLE, Int.reduceLT, Int.reduceEq, Int.reduceToNat, Int.reducePow, Int.reduceNeg]
    refine hK _ ?_; clear hK
    refine bwp_seq fun K2 hK2 => ?_
    refine bwp_seq fun K3 hK3 => ?_
    refine bwp_region rfl ?_
    simp -implicitDefEqProofs only [go_sem, ↓reduceIte, Nat.reduceEqDiff, Nat.reduceAdd, Nat.reduceLeDiff, Nat.reduceMul, Nat.reduceSub, Int.reduceLE, Int.reduceLT, Int.reduceEq, Int.reduceToNat, Int.reducePow, Int.reduceNeg]
    refine hK3 _ ?_; clear hK3
    refine bwp_block ?_
    refine bwp_leads (Leads.nil 9 4 rfl rfl) ?_
    refine bwp_leads (S' := crIn X f ds i want [] true 0) (Leads.ent [(0, 0), (1, 1), (2, 2)] ⟨?_, ?_, rfl, rfl⟩) ?_
    · simp [crIn, entT, fget, AV.ren, pget]
    · simp [crIn, entM, pinv, mget, mset, renL, AV.ren, pget]
    obtain ⟨q, hq, hbq⟩ := bits_and_le x 3 (by omega)
    have hbq' : bits .and .i64 x 3 = (q : Int) := hbq
    have hwq : IntKind.i64.wrap ((q : Int) + 1) = ((q + 1 : Nat) : Int) := by rw [wrap_i64 (by omega) (by omega)]; rfl
    refine bwp_loop (fun S => ∃ l k, k ≤ q + 1 ∧ l.length = k ∧ S = crIn X f ds i want l (l.all fun a => atomHolds [120] 1 a f) k)
      (fun S => match fget S.t 11 with
        | .d (.int _ k) => q + 1 - k.toNat
        | _ => 0) ⟨[], 0, Nat.zero_le _, rfl, rfl⟩ ?_
    rintro S ⟨l, k, hk, hlk, rfl⟩
    unfold crIn
    refine bwp_seq fun K3 hK3 => ?_
    refine bwp_seq fun K hK => bwp_region rfl ?_
    simp -implicitDefEqProofs only [go_sem, ↓reduceIte, Nat.reduceEqDiff, Nat.reduceAdd, Nat.reduceLeDiff, Nat.reduceMul, Nat.reduceSub, Int.reduceLE, Int.reduceLT, Int.reduceEq, Int.reduceToNat, Int.reducePow, Int.reduceNeg, hXe, hlt', Int.toNat_natCast, Int.natCast_nonneg, hcs, hld, hbq', hwq]
    refine hK _ ?_; clear hK
    by_cases hkq : k < q + 1
    · have hkq' : (k : Int) < ((q + 1 : Nat) : Int) := by omega
      refine bwp_cond true (by simp [ev, fget]; omega) (fun _ => ?_) (fun h => nomatch h)
      refine bwp_skip ?_
      refine hK3 _ ?_; clear hK3
      have hk4 : (k : Int) < 4 := by omega
      have hfk : ((finD f).drop k).map AV.d ≠ [] := by simp [finD]; omega
      have hgk : (finD f)[k]? = some (.int .i64 (f.getD k 0)) := by
        have : k < f.length := by omega
        simp [finD, this]
      generalize hfv : f.getD k 0 = v at hgk
      refine bwp_seq fun K3 hK3 => ?_
      refine bwp_block ?_
      refine bwp_seq fun K hK => bwp_region rfl ?_
      simp -implicitDefEqProofs only [go_sem, ↓reduceIte, Nat.reduceEqDiff, Nat.reduceAdd, Nat.reduceLeDiff, Nat.reduceMul, Nat.reduceSub, Int.reduceLE, Int.reduceLT, Int.reduceEq, Int.reduceToNat, Int.reducePow, Int.reduceNeg, hk4, Int.toNat_natCast, Int.natCast_nonneg, List.map_drop, List.getElem?_drop, List.getElem?_map, hgk]
      refine hK _ ?_; clear hK
      have hw2 : IntKind.i64.wrap (2 + (k : Int)) = ((2 + k : Nat) : Int) := by rw [wrap_i64 (by omega) (by omega)]; omega
      have hn2 : ¬ (((2 + k : Nat) : Int) < 0) := by omega
      have hfl : (l.flatMap Atom.cells).length = k * 4 := by rw [flat_len (k := 4) (fun _ => rfl), hlk]
      have hk32 : (k + 1) * 32 ≤ 140737488351232 := by omega
      have hwk : IntKind.i64.wrap ((k : Int) + 1) = ((k + 1 : Nat) : Int) := by rw [wrap_i64 (by omega) (by omega)]; rfl
      have hat := crAtom (f := f) k (by omega)
      rw [hfv] at hat
      refine bwp_seq fun K4 hK4 => ?_
      have back : ∀ (t : Fr) (b : Bool) (v' : Int), fget t 1 = .d (.sl ls.length cs) → fget t 2 = .dptr (finD f) → fget t 5 = .dptr [.sl 1 [.int .u8 120], .sl 1 [.int .i64 0], .sl 1 [.nsl]] → fget t 6 = .ptr 0 0 → fget t 7 = .d (.bool want) → fget t 8 = .d (.int .i64 i) →
          fget t 9 = .sl 2 4 0 k → fget t 10 = .d (.bool b) → fget t 11 = .d (.int .i64 k) → fget t 12 = .ptr 3 0 → b = (l ++ [(⟨0, k, 0, v'⟩ : Atom)]).all (fun a => atomHolds [120] 1 a f) →
          K4 ⟨t, [(0, [.d (.int .i64 1), .sl 1 1 0 i]), (1, ds.map .d), (2, (l.flatMap Atom.cells).map .d), (3, [.d (.int .i64 0), .d (.int .i64 k), .d (.int .i64 0), .d (.int .i64 v')])], 4⟩ := by
        intro t b v' h1 h2 h5 h6 h7 h8 h9 h10 h11 h12 hb
        refine hK4 _ ?_; clear hK4
        refine bwp_region rfl ?_
        simp -implicitDefEqProofs only [go_sem, ↓reduceIte, Nat.reduceEqDiff, Nat.reduceAdd, Nat.reduceLeDiff, Nat.reduceMul, Nat.reduceSub, Int.reduceLE, Int.reduceLT, Int.reduceEq, Int.reduceToNat, Int.reducePow, Int.reduceNeg, h9, h12, hfl, hk32]
        refine hK3 _ ?_; clear hK3
        refine bwp_region rfl ?_
        simp -implicitDefEqProofs only [go_sem, ↓reduceIte, Nat.reduceEqDiff, Nat.reduceAdd, Nat.reduceLeDiff, Nat.reduceMul, Nat.reduceSub, Int.reduceLE, Int.reduceLT, Int.reduceEq, Int.reduceToNat, Int.reducePow, Int.reduceNeg, h11, hwk]
        refine ⟨crIn X f ds i want (l ++ [(⟨0, k, 0, v'⟩ : Atom)]) b (k + 1), Leads.ent [(0, 0), (1, 1), (5, 2)] ⟨?_, ?_, rfl, rfl⟩, ⟨l ++ [(⟨0, k, 0, v'⟩ : Atom)], k + 1, hkq, by simp [hlk], by rw [hb]; rfl⟩, ?_⟩
        · simp [crIn, entT, fget, AV.ren, pget, h1, h2, h5, h6, h7, h8, h10, hXe]
        · simp [crIn, entM, pinv, mget, renL, AV.ren, pget, Atom.cells, renL_append]
        · simp only [crIn, fget, ↓reduceIte, Nat.reduceEqDiff, Int.toNat_natCast]
          omega
      refine bwp_seq fun K hK => bwp_region rfl ?_
      simp -implicitDefEqProofs only [go_sem, ↓reduceIte, Nat.reduceEqDiff, Nat.reduceAdd, Nat.reduceLeDiff, Nat.reduceMul, Nat.reduceSub, Int.reduceLE, Int.reduceLT, Int.reduceEq, Int.reduceToNat, Int.reducePow, Int.reduceNeg, hXe, hlt', Int.toNat_natCast, Int.natCast_nonneg, hcs, hld, hw2, hn2]
      refine hK _ ?_; clear hK
      generalize hbit : decide (bits .and .i64 _ 1 = 1) = bit
      cases bit with
      | true =>
        refine bwp_cond true (by simp [ev, fget]) (fun _ => ?_) (fun h => nomatch h)
        refine bwp_seq fun K hK => bwp_region rfl ?_
        simp -implicitDefEqProofs only [go_sem, ↓reduceIte, Nat.reduceEqDiff, Nat.reduceAdd, Nat.reduceLeDiff, Nat.reduceMul, Nat.reduceSub, Int.reduceLE, Int.reduceLT, Int.reduceEq, Int.reduceToNat, Int.reducePow, Int.reduceNeg]
        refine hK _ ?_; clear hK
        refine bwp_region rfl ?_
        simp -implicitDefEqProofs only [go_sem, ↓reduceIte, Nat.reduceEqDiff, Nat.reduceAdd, Nat.reduceLeDiff, Nat.reduceMul, Nat.reduceSub, Int.reduceLE, Int.reduceLT, Int.reduceEq, Int.reduceToNat, Int.reducePow, Int.reduceNeg]
        refine back _ false (IntKind.i64.wrap (v + 1)) rfl rfl rfl rfl rfl rfl rfl rfl rfl rfl ?_
        have := wrap_next v
        have h0 := crAtom (f := f) k (by omega) (IntKind.i64.wrap (v + 1))
        rw [hfv] at h0
        rw [List.all_append, List.all_cons, h0]
        have h1 : decide (v = IntKind.i64.wrap (v + 1)) = false := by simp; exact fun h => this h.symm
        simp [h1]
      | false =>
        refine bwp_cond false (by simp [ev, fget]) (fun h => nomatch h) (fun _ => ?_)
        refine bwp_skip ?_
        refine back _ _ v rfl rfl rfl rfl rfl rfl rfl rfl rfl rfl ?_
        have h0 := hat v
        rw [List.all_append, List.all_cons, h0]
        simp
    · have hkq' : k = q + 1 := by omega
      refine bwp_cond false (by simp [ev, fget]; omega) (fun h => nomatch h) (fun _ => ?_)
      refine bwp_exit ?_
      simp -implicitDefEqProofs only [go_sem, ↓reduceIte, Nat.reduceEqDiff, Nat.reduceAdd, Nat.reduceLeDiff, Nat.reduceMul, Nat.reduceSub, Int.reduceLE, Int.reduceLT, Int.reduceEq, Int.reduceToNat, Int.reducePow, Int.reduceNeg]
      refine hK2 _ ?_; clear hK2
      have hfl : (l.flatMap Atom.cells).length = k * 4 := by rw [flat_len (k := 4) (fun _ => rfl), hlk]
      have htk : (l.flatMap Atom.cells).take (k * 4) = l.flatMap Atom.cells := List.take_of_length_le (by omega)
      refine bwp_leads (Leads.frz (S' := ⟨[(1, .d X), (2, .dptr (finD f)), (5, .dptr [.sl 1 [.int .u8 120], .sl 1 [.int .i64 0], .sl 1 [.nsl]]), (6, .ptr 0 0), (7, .d (.bool want)), (8, .d (.int .i64 i)), (9, .d (.sl k (l.flatMap Atom.cells))), (10, .d (.bool (l.all fun a => atomHolds [120] 1 a f)))],
        [(0, [.d (.int .i64 1), .sl 1 1 0 i]), (1, ds.map .d)], 2⟩) [(0, 0), (1, 1)] [(2, l.flatMap Atom.cells)] ⟨?_, ?_, rfl, rfl, ?_⟩) ?_
      · simp [frzT, fget, AV.cv, zget, pget, htk, hXe]
      · simp [frzM, pinv, zget, mget, cvL, AV.cv, pget, cvL_d]
      · simp [zokFrom, mget, cvL_d]
      have hi24 : (i + 1) * 24 ≤ 140737488351232 := by omega
      refine bwp_seq fun K hK => bwp_region rfl ?_
      simp -implicitDefEqProofs only [go_sem, ↓reduceIte, Nat.reduceEqDiff, Nat.reduceAdd, Nat.reduceLeDiff, Nat.reduceMul, Nat.reduceSub, Int.reduceLE, Int.reduceLT, Int.reduceEq, Int.reduceToNat, Int.reducePow, Int.reduceNeg, List.length_append, hdl, hi24]
      refine hK _ ?_; clear hK
      have hds' : IsSls Atom.cells (rows ++ [l]) (ds ++ [.sl k (l.flatMap Atom.cells)])  := hds.append ⟨by omega, .inr (by rw [hlk])⟩
      have hwi : IntKind.i64.wrap ((i : Int) + 1) = ((i + 1 : Nat) : Int) := by rw [wrap_i64 (by omega) (by omega)]; rfl
      have hw' : (rows ++ [l]).any (fun l => l.all fun a => atomHolds [120] 1 a f) = (want || l.all fun a => atomHolds [120] 1 a f) := by rw [List.any_append, ← hwant]; simp
      cases want with
      | true =>
        refine bwp_region rfl ?_
        simp -implicitDefEqProofs only [go_sem, ↓reduceIte, Nat.reduceEqDiff, Nat.reduceAdd, Nat.reduceLeDiff, Nat.reduceMul, Nat.reduceSub, Int.reduceLE, Int.reduceLT, Int.reduceEq, Int.reduceToNat, Int.reducePow, Int.reduceNeg]
        refine hK1 _ ?_; clear hK1
        refine bwp_region rfl ?_
        simp -implicitDefEqProofs only [go_sem, ↓reduceIte, Nat.reduceEqDiff, Nat.reduceAdd, Nat.reduceLeDiff, Nat.reduceMul, Nat.reduceSub, Int.reduceLE, Int.reduceLT, Int.reduceEq, Int.reduceToNat, Int.reducePow, Int.reduceNeg, hwi]
        refine ⟨crOut X f (ds ++ [.sl k (l.flatMap Atom.cells)]) (i + 1) true, Leads.ent [(0, 0), (3, 1)] ⟨?_, ?_, rfl, rfl⟩, ⟨i + 1, rows ++ [l], _, true, by omega, hds', by simp [hrl], by omega, by rw [hw']; rfl, rfl⟩, ?_⟩
        · simp [crOut, entT, fget, AV.ren, pget]
        · simp [crOut, entM, pinv, mget, mset, mdel, renL, AV.ren, pget, renL_append]
        · simp only [crOut, fget, ↓reduceIte, Nat.reduceEqDiff, Int.toNat_natCast]
          omega
      | false =>
        refine bwp_region rfl ?_
        simp -implicitDefEqProofs only [go_sem, ↓reduceIte, Nat.reduceEqDiff, Nat.reduceAdd, Nat.reduceLeDiff, Nat.reduceMul, Nat.reduceSub, Int.reduceLE, Int.reduceLT, Int.reduceEq, Int.reduceToNat, Int.reducePow, Int.reduceNeg]
        refine hK1 _ ?_; clear hK1
        refine bwp_region rfl ?_
        simp -implicitDefEqProofs only [go_sem, ↓reduceIte, Nat.reduceEqDiff, Nat.reduceAdd, Nat.reduceLeDiff, Nat.reduceMul, Nat.reduceSub, Int.reduceLE, Int.reduceLT, Int.reduceEq, Int.reduceToNat, Int.reducePow, Int.reduceNeg, hwi]
        refine ⟨crOut X f (ds ++ [.sl k (l.flatMap Atom.cells)]) (i + 1) (l.all fun a => atomHolds [120] 1 a f), Leads.ent [(0, 0), (3, 1)] ⟨?_, ?_, rfl, rfl⟩, ⟨i + 1, rows ++ [l], _, _, by omega, hds', by simp [hrl], by omega, by rw [hw']; rfl, rfl⟩, ?_⟩
        · simp [crOut, entT, fget, AV.ren, pget]
        · simp [crOut, entM, pinv, mget, mset, mdel, renL, AV.ren, pget, renL_append]
        · simp only [crOut, fget, ↓reduceIte, Nat.reduceEqDiff, Int.toNat_natCast]
          omega
  · have htk : (ds.drop 0).take (i * 1) = ds := by rw [List.drop_zero, Nat.mul_one, List.take_of_length_le (by omega)]
    have hA : IsSl2 Atom.cells rows (.sl i ds) := ⟨ds, ⟨by omega, .inr (by simp [hdl])⟩, hds⟩
    have he : holdsC [120] 1 1 rows f = want := by rw [hwant]; simp [holdsC]
    have h20 : (finD f).length = 20 := by simp [finD, hf]
    have ht20 : ((finD f).map AV.d).take 20 = (finD f).map AV.d := List.take_of_length_le (by simp [h20])
    have hbb : ((want == want) != false) = true := by cases want <;> rfl
    have fin : ∀ t : Fr, fget t 2 = .dptr (finD f) → fget t 5 = .dptr [.sl 1 [.int .u8 120], .sl 1 [.int .i64 0], .sl 1 [.nsl]] → fget t 6 = .ptr 0 0 → fget t 7 = .d (.bool want) → K9 ⟨t, [(0, [.d (.int .i64 1), .sl 1 1 0 i]), (1, ds.map .d)], 2⟩ := by
      intro t h2 h5 h6 h7
      refine hK9 _ ?_; clear hK9
      refine bwp_leads (Leads.frz (S' := ⟨[(2, .dptr (finD f)), (5, .dptr [.sl 1 [.int .u8 120], .sl 1 [.int .i64 0], .sl 1 [.nsl]]), (6, .dptr [.int .i64 1, .sl i ds]), (7, .d (.bool want))], [], 0⟩) [] [(0, [.int .i64 1, .sl i ds]), (1, ds)] ⟨?_, trivial, rfl, rfl, ?_⟩) ?_
      · simp [frzT, AV.cv, zget, h2, h5, h6, h7]
      · have htk' : ds.take i = ds := List.take_of_length_le (by omega)
        simp [zokFrom, mget, cvL, AV.cv, zget, cvL_d, htk']
      refine bwp_seq fun K hK => bwp_region rfl ?_
      simp -implicitDefEqProofs only [go_sem, ↓reduceIte, Nat.reduceEqDiff, Nat.reduceAdd, Nat.reduceLeDiff, Nat.reduceMul, Nat.reduceSub, Int.reduceLE, Int.reduceLT, Int.reduceEq, Int.reduceToNat, Int.reducePow, Int.reduceNeg, h20, ht20]
      refine callK_pure (holds_pure hx hT hf hA 1) (by simp [inL, inB]) rfl ?_
      simp -implicitDefEqProofs only [go_sem, ↓reduceIte, Nat.reduceEqDiff, Nat.reduceAdd, Nat.reduceLeDiff, Nat.reduceMul, Nat.reduceSub, Int.reduceLE, Int.reduceLT, Int.reduceEq, Int.reduceToNat, Int.reducePow, Int.reduceNeg, he, hbb]
      refine callK_pure awake24_pure rfl rfl ?_
      simp -implicitDefEqProofs only [go_sem, ↓reduceIte, Nat.reduceEqDiff, Nat.reduceAdd, Nat.reduceLeDiff, Nat.reduceMul, Nat.reduceSub, Int.reduceLE, Int.reduceLT, Int.reduceEq, Int.reduceToNat, Int.reducePow, Int.reduceNeg]
      refine hK _ ?_; clear hK
      refine bwp_ret ?_
      simp only [go_sem]
      refine aend_ret _ rfl rfl ⟨?_, rfl⟩
      simp [fget]
    by_cases hlt1 : i < ls.length
    · have h8 : ¬ (i : Int) < 8 := by omega
      have hlt' : (i : Int) < ls.length := by omega
      refine bwp_seq fun K hK => bwp_region rfl ?_
      simp -implicitDefEqProofs only [go_sem, ↓reduceIte, Nat.reduceEqDiff, Nat.reduceAdd, Nat.reduceLeDiff, Nat.reduceMul, Nat.reduceSub, Int.reduceLE, Int.reduceLT, Int.reduceEq, Int.reduceToNat, Int.reducePow, Int.reduceNeg, hsl.len, hlt', h8]
      refine hK _ ?_; clear hK
      refine bwp_cond false (by simp [ev, fget]) (fun h => nomatch h) (fun _ => ?_)
      refine bwp_exit ?_
      simp -implicitDefEqProofs only [go_sem, ↓reduceIte, Nat.reduceEqDiff, Nat.reduceAdd, Nat.reduceLeDiff, Nat.reduceMul, Nat.reduceSub, Int.reduceLE, Int.reduceLT, Int.reduceEq, Int.reduceToNat, Int.reducePow, Int.reduceNeg]
      exact fin _ rfl rfl rfl rfl
    · have hlt' : ¬ (i : Int) < ls.length := by omega
      refine bwp_seq fun K hK => bwp_region rfl ?_
      simp -implicitDefEqProofs only [go_sem, ↓reduceIte, Nat.reduceEqDiff, Nat.reduceAdd, Nat.reduceLeDiff, Nat.reduceMul, Nat.reduceSub, Int.reduceLE, Int.reduceLT, Int.reduceEq, Int.reduceToNat, Int.reducePow, Int.reduceNeg, hsl.len, hlt']
      refine hK _ ?_; clear hK
      refine bwp_cond false (by simp [ev, fget]) (fun h => nomatch h) (fun _ => ?_)
      refine bwp_exit ?_
      simp -implicitDefEqProofs only [go_sem, ↓reduceIte, Nat.reduceEqDiff, Nat.reduceAdd, Nat.reduceLeDiff, Nat.reduceMul, Nat.reduceSub, Int.reduceLE, Int.reduceLT, Int.reduceEq, Int.reduceToNat, Int.reducePow, Int.reduceNeg]
      exact fin _ rfl rfl rfl rfl

end Go.Proofs.Ytjfghjakpjfgpaa
