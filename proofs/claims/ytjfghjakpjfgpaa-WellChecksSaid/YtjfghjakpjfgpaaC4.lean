/- What the functions of package cond come to, told without a heap: counts and verdicts; what the document fixes of them. -/
import Derived.Test.YtjfghjakpjfgpaaC3
namespace Go.Proofs.Ytjfghjakpjfgpaa
open Go Go.Jq
set_option maxRecDepth 100000
set_option linter.unusedSimpArgs false

theorem verdict1_pure (b : Bool) : Pure Try.prog 30 [.d (.bool b)] (.d (.int .i64 (if b = true then 1 else 2))) := by
  refine acalls_of Try.func30 ac30_ok Try.ntmps30 Try.results30 rfl ?_
  unfold ac30
  refine bwp_seq fun K hK => bwp_region rfl ?_
  simp -implicitDefEqProofs only [go_sem, ↓reduceIte, Nat.reduceEqDiff, Nat.reduceAdd, Nat.reduceLeDiff, Nat.reduceMul, Nat.reduceSub, Int.reduceLE, Int.reduceLT, Int.reduceEq, Int.reduceToNat, Int.reducePow, Int.reduceNeg]
  refine hK _ ?_; clear hK
  refine bwp_seq fun K hK => ?_
  refine bwp_seq fun K hK => bwp_region rfl ?_
  simp -implicitDefEqProofs only [go_sem, ↓reduceIte, Nat.reduceEqDiff, Nat.reduceAdd, Nat.reduceLeDiff, Nat.reduceMul, Nat.reduceSub, Int.reduceLE, Int.reduceLT, Int.reduceEq, Int.reduceToNat, Int.reducePow, Int.reduceNeg]
  refine hK _ ?_; clear hK
  cases b with
  | true =>
    refine bwp_cond true (by simp [ev, fget]) (fun _ => ?_) (fun h => nomatch h)
    refine bwp_seq fun K hK => bwp_region rfl ?_
    simp -implicitDefEqProofs only [go_sem, ↓reduceIte, Nat.reduceEqDiff, Nat.reduceAdd, Nat.reduceLeDiff, Nat.reduceMul, Nat.reduceSub, Int.reduceLE, Int.reduceLT, Int.reduceEq, Int.reduceToNat, Int.reducePow, Int.reduceNeg]
    refine hK _ ?_; clear hK
    refine bwp_ret ?_
    simp only [go_sem]
    refine aend_ret _ rfl rfl ⟨?_, rfl⟩
    simp [fget]
  | false =>
    refine bwp_cond false (by simp [ev, fget]) (fun h => nomatch h) (fun _ => ?_)
    refine bwp_skip ?_
    refine hK _ ?_; clear hK
    refine bwp_seq fun K hK => bwp_region rfl ?_
    simp -implicitDefEqProofs only [go_sem, ↓reduceIte, Nat.reduceEqDiff, Nat.reduceAdd, Nat.reduceLeDiff, Nat.reduceMul, Nat.reduceSub, Int.reduceLE, Int.reduceLT, Int.reduceEq, Int.reduceToNat, Int.reducePow, Int.reduceNeg]
    refine hK _ ?_; clear hK
    refine bwp_ret ?_
    simp only [go_sem]
    refine aend_ret _ rfl rfl ⟨?_, rfl⟩
    simp [fget]

/-- Final states. -/
abbrev Fins := List { f : List Int // f.length = 20 }
def finE (f : { f : List Int // f.length = 20 }) : List DV := finD f.1

section
variable {L I T : DV} {locs : List UInt8} {nt : Nat} (hL : IsBytes L locs) (hT : lenA (.d T) = some nt) {rows : List (List Atom)} {A : DV} (hA : IsSl2 Atom.cells rows A) (kind : Int)
include hL hT hA

/-- Of how many ends a condition holds. -/
def yesC (locs : List UInt8) (nt : Nat) (kind : Int) (rows : List (List Atom)) (F : Fins) : Nat := F.countP fun f => holdsC locs nt kind rows f.1

theorem counts_pure {F : Fins} {X : DV} (hX : IsSl finE F X) :
    Pure Try.prog 15 [.agg [.d L, .d I, .d T], .agg [.d (.int .i64 kind), .d A], .d X] (.tup [.d (.int .i64 (yesC locs nt kind rows F)), .d (.int .i64 (F.length - yesC locs nt kind rows F : Nat))]) := by
  have hsl := slE_agg (k := 20) (fun f => by simp [finE, finD, f.2]) (by omega) hX
  have hbig := hsl.big
  refine acalls_of Try.func15 ac15_ok Try.ntmps15 Try.results15 rfl ?_
  unfold ac15
  refine bwp_seq fun K hK => bwp_region rfl ?_
  simp -implicitDefEqProofs only [go_sem, ↓reduceIte, Nat.reduceEqDiff, Nat.reduceAdd, Nat.reduceLeDiff, Nat.reduceMul, Nat.reduceSub, Int.reduceLE, Int.reduceLT, Int.reduceEq, Int.reduceToNat, Int.reducePow, Int.reduceNeg]
  refine hK _ ?_; clear hK
  refine bwp_leads (Leads.frz (S' := ⟨[(2, .d X), (3, .dptr [L, I, T]), (4, .dptr [.int .i64 kind, A]), (6, .d (.int .i64 (0 : Nat))), (7, .d (.int .i64 (0 : Nat)))], [], 0⟩) [] [(0, [L, I, T]), (1, [.int .i64 kind, A])] ⟨?_, trivial, rfl, rfl, ?_⟩) ?_
  · simp [frzT, fget, AV.cv, zget]
  · simp [zokFrom, mget, cvL, AV.cv]
  refine bwp_seq fun K hK => ?_
  refine bwp_seq fun K hK => bwp_region rfl ?_
  simp -implicitDefEqProofs only [go_sem, ↓reduceIte, Nat.reduceEqDiff, Nat.reduceAdd, Nat.reduceLeDiff, Nat.reduceMul, Nat.reduceSub, Int.reduceLE, Int.reduceLT, Int.reduceEq, Int.reduceToNat, Int.reducePow, Int.reduceNeg, hsl.len]
  refine hK _ ?_; clear hK
  refine bwp_block ?_
  refine bwp_leads (S' := ⟨[(3, .dptr [L, I, T]), (4, .dptr [.int .i64 kind, A]), (6, .d (.int .i64 (yesC locs nt kind rows (F.take 0)))), (7, .d (.int .i64 (0 - yesC locs nt kind rows (F.take 0) : Nat))), (10, .d X), (11, .d (.int .i64 F.length)), (12, .d (.int .i64 (0 : Nat)))], [], 0⟩) (Leads.ent [] ⟨?_, trivial, rfl, rfl⟩) ?_
  · simp [entT, fget, AV.ren, yesC]
  refine bwp_loop (fun S => ∃ i, i ≤ F.length ∧ S = ⟨[(3, .dptr [L, I, T]), (4, .dptr [.int .i64 kind, A]), (6, .d (.int .i64 (yesC locs nt kind rows (F.take i)))), (7, .d (.int .i64 (i - yesC locs nt kind rows (F.take i) : Nat))), (10, .d X), (11, .d (.int .i64 F.length)), (12, .d (.int .i64 (i : Nat)))], [], 0⟩)
    (fun S => match fget S.t 12 with
      | .d (.int _ i) => F.length - i.toNat
      | _ => 0) ⟨0, Nat.zero_le _, rfl⟩ ?_
  rintro S ⟨i, hi, rfl⟩
  refine bwp_seq fun K hK => bwp_region rfl ?_
  simp -implicitDefEqProofs only [go_sem, ↓reduceIte, Nat.reduceEqDiff, Nat.reduceAdd, Nat.reduceLeDiff, Nat.reduceMul, Nat.reduceSub, Int.reduceLE, Int.reduceLT, Int.reduceEq, Int.reduceToNat, Int.reducePow, Int.reduceNeg]
  refine hK _ ?_; clear hK
  by_cases hlt : i < F.length
  · have hlt' : (i : Int) < F.length := by omega
    obtain ⟨cs, hXe, hcs, hld⟩ := hsl.get i hlt
    have hfi := List.getElem?_eq_getElem hlt
    simp only [eltA, hfi] at hld
    generalize hf0 : F[i] = f0 at hfi hld
    have hy : yesC locs nt kind rows (F.take (i + 1)) = yesC locs nt kind rows (F.take i) + if holdsC locs nt kind rows f0.1 = true then 1 else 0 := by
      simp only [yesC]
      rw [List.take_add_one, hfi, List.countP_append]
      simp [List.countP_cons]
    have hyl : yesC locs nt kind rows (F.take i) ≤ i := by
      have := List.countP_le_length (p := fun f : { f : List Int // f.length = 20 } => holdsC locs nt kind rows f.1) (l := F.take i)
      simp only [yesC]
      simp at this
      omega
    have h20 : ((finE f0).map AV.d).length = 20 := by simp [finE, finD, f0.2]
    have hw : ∀ q : Nat, q ≤ i → IntKind.i64.wrap ((q : Int) + 1) = ((q + 1 : Nat) : Int) := fun q hq => by rw [wrap_i64 (by omega) (by omega)]; rfl
    refine bwp_seq fun K1 hK1 => ?_
    refine bwp_cond true (by simp [ev, fget, hlt']) (fun _ => ?_) (fun h => nomatch h)
    refine bwp_skip ?_
    refine hK1 _ ?_; clear hK1
    refine bwp_seq fun K1 hK1 => ?_
    refine bwp_block ?_
    have hput : ∀ zs : List AV, zs.length = 20 → putAt zs 0 ((finE f0).map .d) = (finE f0).map .d := fun zs hz => putAt_all (by rw [h20, hz])
    have hall := all_oneB_d (finE f0)
    refine bwp_seq fun K hK => bwp_region rfl ?_
    simp -implicitDefEqProofs only [go_sem, ↓reduceIte, Nat.reduceEqDiff, Nat.reduceAdd, Nat.reduceLeDiff, Nat.reduceMul, Nat.reduceSub, Int.reduceLE, Int.reduceLT, Int.reduceEq, Int.reduceToNat, Int.reducePow, Int.reduceNeg, hXe, hlt', Int.toNat_natCast, hcs, Int.natCast_nonneg, hld, h20, hall, List.length_cons, List.length_nil, Nat.le_refl, hput]
    refine hK _ ?_; clear hK
    have htk : ((finE f0).map AV.d).take 20 = (finE f0).map AV.d := List.take_of_length_le (by omega)
    refine bwp_seq fun K hK => bwp_region rfl ?_
    simp -implicitDefEqProofs only [go_sem, ↓reduceIte, Nat.reduceEqDiff, Nat.reduceAdd, Nat.reduceLeDiff, Nat.reduceMul, Nat.reduceSub, Int.reduceLE, Int.reduceLT, Int.reduceEq, Int.reduceToNat, Int.reducePow, Int.reduceNeg, List.map_cons, List.length_cons, List.length_nil, Nat.le_refl, List.take, h20, htk]
    refine callK_pure (holds_pure hL hT f0.2 hA kind) (by simp [inL, inB, finAV]) rfl ?_
    simp -implicitDefEqProofs only [go_sem, ↓reduceIte, Nat.reduceEqDiff, Nat.reduceAdd, Nat.reduceLeDiff, Nat.reduceMul, Nat.reduceSub, Int.reduceLE, Int.reduceLT, Int.reduceEq, Int.reduceToNat, Int.reducePow, Int.reduceNeg]
    refine hK _ ?_; clear hK
    have back : ∀ (t : Fr) (m : Mem) (n : Nat), fget t 3 = .dptr [L, I, T] → fget t 4 = .dptr [.int .i64 kind, A] → fget t 6 = .d (.int .i64 (yesC locs nt kind rows (F.take (i + 1)))) → fget t 7 = .d (.int .i64 (i + 1 - yesC locs nt kind rows (F.take (i + 1)) : Nat)) →
        fget t 10 = .d (.sl F.length cs) → fget t 11 = .d (.int .i64 F.length) → fget t 12 = .d (.int .i64 i) → K1 ⟨t, m, n⟩ := by
      intro t m n h3 h4 h6 h7 h10 h11 h12
      refine hK1 _ ?_; clear hK1
      refine bwp_region (by simp [mbound]) ?_
      simp -implicitDefEqProofs only [go_sem, ↓reduceIte, Nat.reduceEqDiff, Nat.reduceAdd, Nat.reduceLeDiff, Nat.reduceMul, Nat.reduceSub, Int.reduceLE, Int.reduceLT, Int.reduceEq, Int.reduceToNat, Int.reducePow, Int.reduceNeg, h12]
      refine ⟨⟨[(3, .dptr [L, I, T]), (4, .dptr [.int .i64 kind, A]), (6, .d (.int .i64 (yesC locs nt kind rows (F.take (i + 1))))), (7, .d (.int .i64 (i + 1 - yesC locs nt kind rows (F.take (i + 1)) : Nat))), (10, .d X), (11, .d (.int .i64 F.length)), (12, .d (.int .i64 (i + 1 : Nat)))], [], 0⟩, Leads.ent [] ⟨?_, trivial, rfl, rfl⟩, ⟨i + 1, hlt, rfl⟩, ?_⟩
      · simp [entT, fget, AV.ren, h3, h4, h6, h7, h10, h11, hw i (Nat.le_refl _), hXe]
      · simp only [fget, ↓reduceIte, Nat.reduceEqDiff, Int.toNat_natCast]
        omega
    cases hh : holdsC locs nt kind rows f0.1 with
    | true =>
      refine bwp_cond true (by simp [ev, fget, hh]) (fun _ => ?_) (fun h => nomatch h)
      refine bwp_region rfl ?_
      simp -implicitDefEqProofs only [go_sem, ↓reduceIte, Nat.reduceEqDiff, Nat.reduceAdd, Nat.reduceLeDiff, Nat.reduceMul, Nat.reduceSub, Int.reduceLE, Int.reduceLT, Int.reduceEq, Int.reduceToNat, Int.reducePow, Int.reduceNeg]
      refine back _ _ _ rfl rfl ?_ ?_ rfl rfl rfl
      · simp only [fget, ↓reduceIte, Nat.reduceEqDiff, hw _ hyl, hy, hh]
      · have hy' : yesC locs nt kind rows (F.take (i + 1)) = yesC locs nt kind rows (F.take i) + 1 := by rw [hy, hh]; rfl
        have he : i - yesC locs nt kind rows (F.take i) = i + 1 - (yesC locs nt kind rows (F.take i) + 1) := by omega
        simp only [fget, ↓reduceIte, Nat.reduceEqDiff, hy', he]
    | false =>
      refine bwp_cond false (by simp [ev, fget, hh]) (fun h => nomatch h) (fun _ => ?_)
      refine bwp_region rfl ?_
      simp -implicitDefEqProofs only [go_sem, ↓reduceIte, Nat.reduceEqDiff, Nat.reduceAdd, Nat.reduceLeDiff, Nat.reduceMul, Nat.reduceSub, Int.reduceLE, Int.reduceLT, Int.reduceEq, Int.reduceToNat, Int.reducePow, Int.reduceNeg]
      refine back _ _ _ rfl rfl ?_ ?_ rfl rfl rfl
      · simp [fget, hy, hh]
      · have := hw (i - yesC locs nt kind rows (F.take i)) (by omega)
        have hy' : yesC locs nt kind rows (F.take (i + 1)) = yesC locs nt kind rows (F.take i) := by rw [hy, hh]; rfl
        have he : i - yesC locs nt kind rows (F.take i) + 1 = i + 1 - yesC locs nt kind rows (F.take i) := by omega
        simp only [fget, ↓reduceIte, Nat.reduceEqDiff, hy', this, he]
  · have hlt' : ¬ (i : Int) < F.length := by omega
    refine bwp_seq fun K1 hK1 => ?_
    refine bwp_cond false (by simp [ev, fget, hlt']) (fun h => nomatch h) (fun _ => ?_)
    refine bwp_exit ?_
    simp -implicitDefEqProofs only [go_sem, ↓reduceIte, Nat.reduceEqDiff, Nat.reduceAdd, Nat.reduceLeDiff, Nat.reduceMul, Nat.reduceSub, Int.reduceLE, Int.reduceLT, Int.reduceEq, Int.reduceToNat, Int.reducePow, Int.reduceNeg]
    refine hK _ ?_; clear hK
    have hfull : F.take i = F := List.take_of_length_le (by omega)
    refine bwp_seq fun K hK => bwp_region rfl ?_
    simp -implicitDefEqProofs only [go_sem, ↓reduceIte, Nat.reduceEqDiff, Nat.reduceAdd, Nat.reduceLeDiff, Nat.reduceMul, Nat.reduceSub, Int.reduceLE, Int.reduceLT, Int.reduceEq, Int.reduceToNat, Int.reducePow, Int.reduceNeg]
    refine hK _ ?_; clear hK
    refine bwp_ret ?_
    simp only [go_sem]
    refine aend_ret _ rfl rfl ⟨?_, rfl⟩
    have : i = F.length := by omega
    simp [fget, hfull, this]

/-- A condition's verdict over some ends. -/
def verdictC (locs : List UInt8) (nt : Nat) (kind : Int) (rows : List (List Atom)) (F : Fins) : Int :=
  if kind = 1 then if 0 < yesC locs nt kind rows F then 1 else 2 else if kind = 2 then if F.length - yesC locs nt kind rows F = 0 then 1 else 2 else 0

theorem verdict_pure {F : Fins} {X : DV} (hX : IsSl finE F X) :
    Pure Try.prog 14 [.agg [.d L, .d I, .d T], .agg [.d (.int .i64 kind), .d A], .d X] (.d (.int .i64 (verdictC locs nt kind rows F))) := by
  refine acalls_of Try.func14 ac14_ok Try.ntmps14 Try.results14 rfl ?_
  unfold ac14
  refine bwp_seq fun K hK => bwp_region rfl ?_
  simp -implicitDefEqProofs only [go_sem, ↓reduceIte, Nat.reduceEqDiff, Nat.reduceAdd, Nat.reduceLeDiff, Nat.reduceMul, Nat.reduceSub, Int.reduceLE, Int.reduceLT, Int.reduceEq, Int.reduceToNat, Int.reducePow, Int.reduceNeg]
  refine hK _ ?_; clear hK
  refine bwp_seq fun K hK => bwp_region rfl ?_
  simp -implicitDefEqProofs only [go_sem, ↓reduceIte, Nat.reduceEqDiff, Nat.reduceAdd, Nat.reduceLeDiff, Nat.reduceMul, Nat.reduceSub, Int.reduceLE, Int.reduceLT, Int.reduceEq, Int.reduceToNat, Int.reducePow, Int.reduceNeg, List.map_cons, List.length_cons, List.length_nil, Nat.le_refl, List.take]
  refine callK_pure (counts_pure hL hT hA kind hX) rfl rfl ?_
  simp -implicitDefEqProofs only [go_sem, ↓reduceIte, Nat.reduceEqDiff, Nat.reduceAdd, Nat.reduceLeDiff, Nat.reduceMul, Nat.reduceSub, Int.reduceLE, Int.reduceLT, Int.reduceEq, Int.reduceToNat, Int.reducePow, Int.reduceNeg]
  refine hK _ ?_; clear hK
  refine bwp_seq fun K hK => ?_
  refine bwp_seq fun K hK => bwp_region rfl ?_
  simp -implicitDefEqProofs only [go_sem, ↓reduceIte, Nat.reduceEqDiff, Nat.reduceAdd, Nat.reduceLeDiff, Nat.reduceMul, Nat.reduceSub, Int.reduceLE, Int.reduceLT, Int.reduceEq, Int.reduceToNat, Int.reducePow, Int.reduceNeg]
  refine hK _ ?_; clear hK
  refine bwp_block ?_
  refine bwp_seq fun K hK => bwp_region rfl ?_
  simp -implicitDefEqProofs only [go_sem, ↓reduceIte, Nat.reduceEqDiff, Nat.reduceAdd, Nat.reduceLeDiff, Nat.reduceMul, Nat.reduceSub, Int.reduceLE, Int.reduceLT, Int.reduceEq, Int.reduceToNat, Int.reducePow, Int.reduceNeg]
  refine hK _ ?_; clear hK
  by_cases h1 : kind = 1
  · refine bwp_cond true (by simp [ev, fget, h1]) (fun _ => ?_) (fun h => nomatch h)
    refine bwp_seq fun K hK => bwp_region rfl ?_
    simp -implicitDefEqProofs only [go_sem, ↓reduceIte, Nat.reduceEqDiff, Nat.reduceAdd, Nat.reduceLeDiff, Nat.reduceMul, Nat.reduceSub, Int.reduceLE, Int.reduceLT, Int.reduceEq, Int.reduceToNat, Int.reducePow, Int.reduceNeg]
    refine callK_pure (verdict1_pure _) rfl rfl ?_
    simp -implicitDefEqProofs only [go_sem, ↓reduceIte, Nat.reduceEqDiff, Nat.reduceAdd, Nat.reduceLeDiff, Nat.reduceMul, Nat.reduceSub, Int.reduceLE, Int.reduceLT, Int.reduceEq, Int.reduceToNat, Int.reducePow, Int.reduceNeg]
    refine hK _ ?_; clear hK
    refine bwp_ret ?_
    simp only [go_sem]
    refine aend_ret _ rfl rfl ⟨?_, rfl⟩
    simp [fget, verdictC, h1]
  · refine bwp_cond false (by simp [ev, fget, h1]) (fun h => nomatch h) (fun _ => ?_)
    refine bwp_seq fun K hK => bwp_region rfl ?_
    simp -implicitDefEqProofs only [go_sem, ↓reduceIte, Nat.reduceEqDiff, Nat.reduceAdd, Nat.reduceLeDiff, Nat.reduceMul, Nat.reduceSub, Int.reduceLE, Int.reduceLT, Int.reduceEq, Int.reduceToNat, Int.reducePow, Int.reduceNeg]
    refine hK _ ?_; clear hK
    by_cases h2 : kind = 2
    · refine bwp_cond true (by simp [ev, fget, h2]) (fun _ => ?_) (fun h => nomatch h)
      refine bwp_seq fun K hK => bwp_region rfl ?_
      simp -implicitDefEqProofs only [go_sem, ↓reduceIte, Nat.reduceEqDiff, Nat.reduceAdd, Nat.reduceLeDiff, Nat.reduceMul, Nat.reduceSub, Int.reduceLE, Int.reduceLT, Int.reduceEq, Int.reduceToNat, Int.reducePow, Int.reduceNeg]
      refine callK_pure (verdict1_pure _) rfl rfl ?_
      simp -implicitDefEqProofs only [go_sem, ↓reduceIte, Nat.reduceEqDiff, Nat.reduceAdd, Nat.reduceLeDiff, Nat.reduceMul, Nat.reduceSub, Int.reduceLE, Int.reduceLT, Int.reduceEq, Int.reduceToNat, Int.reducePow, Int.reduceNeg]
      refine hK _ ?_; clear hK
      refine bwp_ret ?_
      simp only [go_sem]
      refine aend_ret _ rfl rfl ⟨?_, rfl⟩
      have hz : ((F.length - yesC locs nt kind rows F : Nat) : Int) = 0 ↔ F.length - yesC locs nt kind rows F = 0 := by omega
      by_cases h3 : F.length - yesC locs nt kind rows F = 0 <;> simp [fget, verdictC, h2, hz, h3]
    · refine bwp_cond false (by simp [ev, fget, h2]) (fun h => nomatch h) (fun _ => ?_)
      refine bwp_skip ?_
      refine hK _ ?_; clear hK
      refine bwp_seq fun K hK => bwp_region rfl ?_
      simp -implicitDefEqProofs only [go_sem, ↓reduceIte, Nat.reduceEqDiff, Nat.reduceAdd, Nat.reduceLeDiff, Nat.reduceMul, Nat.reduceSub, Int.reduceLE, Int.reduceLT, Int.reduceEq, Int.reduceToNat, Int.reducePow, Int.reduceNeg]
      refine hK _ ?_; clear hK
      refine bwp_ret ?_
      simp only [go_sem]
      refine aend_ret _ rfl rfl ⟨?_, rfl⟩
      simp [fget, verdictC, h1, h2]

end

/-! ### awake -/

theorem isBytes_x : IsBytes (.sl 1 [.int .u8 120]) [120] := .inr rfl

theorem awake24_pure : Pure Try.prog 11 [] (.d (.bool true)) := by
  have hx := isBytes_x
  have hT : lenA (.d (.sl 1 [.nsl])) = some 1 := rfl
  have hrow : IsSl2 Atom.cells [[⟨-1, 0, 120, 1⟩]] (.sl 1 [.sl 1 [.int .i64 (-1), .int .i64 0, .int .i64 120, .int .i64 1]]) :=
    ⟨[.sl 1 [.int .i64 (-1), .int .i64 0, .int .i64 120, .int .i64 1]], ⟨by decide, .inr rfl⟩, ⟨by decide, .inr rfl⟩, trivial⟩
  have hno : IsSl2 Atom.cells [] .nsl := ⟨[], ⟨by decide, .inl ⟨rfl, rfl⟩⟩, trivial⟩
  have hF : IsSl finE [] .nsl := ⟨by decide, .inl ⟨rfl, rfl⟩⟩
  refine acalls_of Try.func11 ac11_ok Try.ntmps11 Try.results11 rfl ?_
  unfold ac11
  refine bwp_seq fun K hK => bwp_region rfl ?_
  simp -implicitDefEqProofs only [go_sem, ↓reduceIte, Nat.reduceEqDiff, Nat.reduceAdd, Nat.reduceLeDiff, Nat.reduceMul, Nat.reduceSub, Int.reduceLE, Int.reduceLT, Int.reduceEq, Int.reduceToNat, Int.reducePow, Int.reduceNeg]
  refine hK _ ?_; clear hK
  refine bwp_seq fun K hK => bwp_region rfl ?_
  simp -implicitDefEqProofs only [go_sem, ↓reduceIte, Nat.reduceEqDiff, Nat.reduceAdd, Nat.reduceLeDiff, Nat.reduceMul, Nat.reduceSub, Int.reduceLE, Int.reduceLT, Int.reduceEq, Int.reduceToNat, Int.reducePow, Int.reduceNeg]
  refine hK _ ?_; clear hK
  refine bwp_seq fun K hK => bwp_region rfl ?_
  simp -implicitDefEqProofs only [go_sem, ↓reduceIte, Nat.reduceEqDiff, Nat.reduceAdd, Nat.reduceLeDiff, Nat.reduceMul, Nat.reduceSub, Int.reduceLE, Int.reduceLT, Int.reduceEq, Int.reduceToNat, Int.reducePow, Int.reduceNeg]
  refine hK _ ?_; clear hK
  have ha : DV.sl 1 [.sl 1 [.int .i64 (-1), .int .i64 0, .int .i64 120, .int .i64 1]] = DV.sl 1 [.sl 1 (Atom.cells ⟨-1, 0, 120, 1⟩)] := rfl
  refine bwp_leads (Leads.frz (S' := ⟨[(2, .dptr [.sl 1 [.int .u8 120], .sl 1 [.int .i64 0], .sl 1 [.nsl]]), (1, .dptr [.int .i64 1, .sl 1 [.sl 1 [.int .i64 (-1), .int .i64 0, .int .i64 120, .int .i64 1]]])], [], 0⟩) []
    [(0, [.int .i64 (-1), .int .i64 0, .int .i64 120, .int .i64 1]), (1, [.sl 1 [.int .i64 (-1), .int .i64 0, .int .i64 120, .int .i64 1]]), (2, [.int .i64 1, .sl 1 [.sl 1 [.int .i64 (-1), .int .i64 0, .int .i64 120, .int .i64 1]]]),
      (3, [.int .u8 120]), (4, [.int .i64 0]), (5, [.nsl]), (6, [.sl 1 [.int .u8 120], .sl 1 [.int .i64 0], .sl 1 [.nsl]])] ⟨?_, trivial, rfl, rfl, ?_⟩) ?_
  · simp [frzT, fget, AV.cv, zget]
  · simp [zokFrom, mget, cvL, AV.cv, zget]
  refine bwp_seq fun K hK => bwp_region rfl ?_
  simp -implicitDefEqProofs only [go_sem, ↓reduceIte, Nat.reduceEqDiff, Nat.reduceAdd, Nat.reduceLeDiff, Nat.reduceMul, Nat.reduceSub, Int.reduceLE, Int.reduceLT, Int.reduceEq, Int.reduceToNat, Int.reducePow, Int.reduceNeg]
  refine callK_pure (verdict_pure hx hT hrow 1 hF) rfl rfl ?_
  have e1 : verdictC [120] 1 1 [[⟨-1, 0, 120, 1⟩]] [] = 2 := by decide
  have e2 : holdsC [120] 1 1 [[⟨-1, 0, 120, 1⟩]] [0, 0, 0, 0, 0, 0, 0, 0, 0, 0, 0, 0, 0, 0, 0, 0, 1, 0, 0, 0] = true := by decide
  have e3 : verdictC [120] 1 0 [] [] = 0 := by decide
  simp -implicitDefEqProofs only [go_sem, ↓reduceIte, Nat.reduceEqDiff, Nat.reduceAdd, Nat.reduceLeDiff, Nat.reduceMul, Nat.reduceSub, Int.reduceLE, Int.reduceLT, Int.reduceEq, Int.reduceToNat, Int.reducePow, Int.reduceNeg, e1]
  refine callK_pure (holds_pure hx hT (f := [0, 0, 0, 0, 0, 0, 0, 0, 0, 0, 0, 0, 0, 0, 0, 0, 1, 0, 0, 0]) rfl hrow 1) rfl rfl ?_
  simp -implicitDefEqProofs only [go_sem, ↓reduceIte, Nat.reduceEqDiff, Nat.reduceAdd, Nat.reduceLeDiff, Nat.reduceMul, Nat.reduceSub, Int.reduceLE, Int.reduceLT, Int.reduceEq, Int.reduceToNat, Int.reducePow, Int.reduceNeg, e2]
  refine callK_pure (verdict_pure hx hT hno 0 hF) rfl rfl ?_
  simp -implicitDefEqProofs only [go_sem, ↓reduceIte, Nat.reduceEqDiff, Nat.reduceAdd, Nat.reduceLeDiff, Nat.reduceMul, Nat.reduceSub, Int.reduceLE, Int.reduceLT, Int.reduceEq, Int.reduceToNat, Int.reducePow, Int.reduceNeg, e3]
  refine hK _ ?_; clear hK
  refine bwp_ret ?_
  simp only [go_sem]
  refine aend_ret _ rfl rfl ⟨?_, rfl⟩
  simp [fget]

end Go.Proofs.Ytjfghjakpjfgpaa
