/- CondTurns comes to true, whatever it is given. -/
import Derived.Test.YtjfghjakpjfgpaaE4
import Derived.Test.YtjfghjakpjfgpaaC5
namespace Go.Proofs.Ytjfghjakpjfgpaa
open Go Go.Jq
set_option maxRecDepth 100000
set_option linter.unusedSimpArgs false

theorem smallThreads_len (ls : List Int) (locs most : Nat) : ∀ (n a mem : Nat) (ts : List (List Ins)), (smallThreads ls locs most n a mem ts).2.length = ts.length + n
  | 0, a, mem, ts => rfl
  | n + 1, a, mem, ts => by
    simp only [smallThreads]
    rw [smallThreads_len]
    simp; omega

theorem smallThreads_each (ls : List Int) (locs most : Nat) : ∀ (n a mem : Nat) (ts : List (List Ins)), (∀ l ∈ ts, l.length ≤ 6) → ∀ l ∈ (smallThreads ls locs most n a mem ts).2, l.length ≤ 6
  | 0, a, mem, ts, h => h
  | n + 1, a, mem, ts, h => by
    simp only [smallThreads]
    refine smallThreads_each ls locs most n _ _ _ ?_
    intro l hl
    rw [List.mem_append] at hl
    rcases hl with hl | hl
    · exact h l hl
    · simp only [List.mem_singleton] at hl
      subst hl
      have hb := smallThread_bounds ls locs most (nxN ls a % 3 + 1) (a + 1) mem []
      simp only [List.length_nil] at hb
      omega

theorem small_len (ls : List Int) (most : Nat) : (small ls most).threads.length = smallN ls := by
  simp only [small, smallTs]
  rw [smallThreads_len]; simp

theorem small_each (ls : List Int) (most : Nat) : ∀ l ∈ (small ls most).threads, l.length ≤ 6 := by
  simp only [small, smallTs]
  exact smallThreads_each ls _ most _ _ _ [] (by simp)

theorem smallN_le (ls : List Int) : smallN ls ≤ 3 := by unfold smallN; omega

section
variable (locs : List UInt8) (nt : Nat) (rows : List (List Atom))

theorem verdictC_not6 (kind : Int) (F : Fins) : verdictC locs nt kind rows F ≠ 6 := by
  unfold verdictC; repeat' split
  all_goals decide

theorem yesC_le (kind : Int) (F : Fins) : yesC locs nt kind rows F ≤ F.length := List.countP_le_length

theorem yesC_kind (F : Fins) : yesC locs nt 2 rows F = yesC locs nt 1 rows F := by
  unfold yesC
  congr 1

theorem yesC_take (F : Fins) (k : Nat) : yesC locs nt 1 rows (F.take k) ≤ yesC locs nt 1 rows F := by
  unfold yesC
  exact (List.take_sublist k F).countP_le

theorem noC_take (F : Fins) (k : Nat) : (F.take k).length - yesC locs nt 1 rows (F.take k) ≤ F.length - yesC locs nt 1 rows F := by
  have h1 : ∀ G : Fins, G.length - yesC locs nt 1 rows G = G.countP fun f => !holdsC locs nt 1 rows f.1 := by
    intro G
    unfold yesC
    have : G.length = G.countP (fun f => holdsC locs nt 1 rows f.1) + G.countP (fun f => decide ¬ (holdsC locs nt 1 rows f.1 = true)) := List.length_eq_countP_add_countP _
    have e : (fun f : { f : List Int // f.length = 20 } => decide ¬ (holdsC locs nt 1 rows f.1 = true)) = fun f => !holdsC locs nt 1 rows f.1 := by
      funext f; simp
    rw [e] at this
    omega
  rw [h1, h1]
  exact (List.take_sublist k F).countP_le

theorem v1 (F : Fins) : verdictC locs nt 1 rows F = if 0 < yesC locs nt 1 rows F then 1 else 2 := by simp [verdictC]
theorem v2 (F : Fins) : verdictC locs nt 2 rows F = if F.length - yesC locs nt 1 rows F = 0 then 1 else 2 := by simp [verdictC, yesC_kind]
end

/-- The state behind the beginning: the test, its program, in cells. -/
def ctS (X Y : DV) (at' : Int) (cs ps : List DV) : St := ⟨[(0, .d X), (1, .d Y), (2, .d (.int .i64 at')), (7, .ptr 0 0), (8, .ptr 1 0)], [(0, cs.map .d), (1, ps.map .d)], 2⟩

set_option maxHeartbeats 4000000 in
theorem condTurns_pure {ls : List Int} {X : DV} (hX : IsInts ls X) {F : Fins} {Y : DV} (hY : IsSl finE F Y) (at' : Int) : Pure Try.prog 4 [.d X, .d Y, .d (.int .i64 at')] (.d (.bool true)) := by
  refine acalls_of Try.func4 ac4_ok Try.ntmps4 Try.results4 rfl ?_
  unfold ac4
  refine bwp_seq fun K hK => bwp_region rfl ?_
  simp -implicitDefEqProofs only [go_sem, ↓reduceIte, Nat.reduceEqDiff, Nat.reduceAdd, Nat.reduceLeDiff, Nat.reduceMul, Nat.reduceSub, Int.reduceLE, Int.reduceLT, Int.reduceEq, Int.reduceToNat, Int.reducePow, Int.reduceNeg]
  refine hK _ ?_; clear hK
  refine bwp_seq fun K hK => bwp_region rfl ?_
  simp -implicitDefEqProofs only [go_sem, ↓reduceIte, Nat.reduceEqDiff, Nat.reduceAdd, Nat.reduceLeDiff, Nat.reduceMul, Nat.reduceSub, Int.reduceLE, Int.reduceLT, Int.reduceEq, Int.reduceToNat, Int.reducePow, Int.reduceNeg]
  refine callK_pureQ (small_calls hX (most := 6) (by omega)) rfl (fun v ⟨cs, h, _⟩ => by subst h; exact inL_data cs) ?_
  rintro v ⟨cs, rfl, hT⟩
  have hT0 := hT
  obtain ⟨I, T, A, rfl, hI, hTh, hA⟩ := hT
  simp -implicitDefEqProofs only [go_sem, ↓reduceIte, Nat.reduceEqDiff, Nat.reduceAdd, Nat.reduceLeDiff, Nat.reduceMul, Nat.reduceSub, Int.reduceLE, Int.reduceLT, Int.reduceEq, Int.reduceToNat, Int.reducePow, Int.reduceNeg]
  refine hK _ ?_; clear hK
  have hsl := small_len ls 6
  have hsn := smallN_le ls
  have hse := small_each ls 6
  refine bwp_seq fun K hK => bwp_region rfl ?_
  simp -implicitDefEqProofs only [go_sem, ↓reduceIte, Nat.reduceEqDiff, Nat.reduceAdd, Nat.reduceLeDiff, Nat.reduceMul, Nat.reduceSub, Int.reduceLE, Int.reduceLT, Int.reduceEq, Int.reduceToNat, Int.reducePow, Int.reduceNeg]
  refine callK_pureQ (compile_calls hT0 (by omega) (fun l hl => by have := hse l hl; omega)) rfl (fun v ⟨cs, h, _⟩ => by subst h; exact inL_data cs) ?_
  rintro v ⟨ps, rfl, hP⟩
  obtain ⟨J, U, rfl, hJ, hU⟩ := hP
  simp -implicitDefEqProofs only [go_sem, ↓reduceIte, Nat.reduceEqDiff, Nat.reduceAdd, Nat.reduceLeDiff, Nat.reduceMul, Nat.reduceSub, Int.reduceLE, Int.reduceLT, Int.reduceEq, Int.reduceToNat, Int.reducePow, Int.reduceNeg]
  refine hK _ ?_; clear hK
  have hL : IsBytes (bytesD (refProg (small ls 6)).locs) (refProg (small ls 6)).locs := .inr rfl
  have hnt := hU.len
  generalize (refProg (small ls 6)).locs = locs at hL
  generalize bytesD locs = L at hL
  generalize (refProg (small ls 6)).threads.length = nt at hnt
  generalize (small ls 6).kind = kd
  generalize (small ls 6).rows = rows at hA
  generalize (small ls 6).name = nm
  refine bwp_leads (S' := ctS X Y at' [.str nm, I, T, .int .i64 kd, A] [L, J, U]) (Leads.ent [(0, 0), (1, 1)] ⟨?_, ?_, rfl, rfl⟩) ?_
  · simp [ctS, entT, fget, AV.ren, renL, pget]
  · simp [ctS, entM, pinv, mget, mset, renL, AV.ren, pget]
  have hlen := hY.len
  have hbig := hY.1
  have hnil : IsSl finE [] .nsl := ⟨by simp, .inl ⟨rfl, rfl⟩⟩
  have V := fun (k : Int) {G : Fins} {Z : DV} (h : IsSl finE G Z) => verdict_pure (I := J) (T := U) hL hnt hA k h
  clear hI hTh hJ hU hT0 hX hsl hse
  unfold ctS
  refine bwp_seq fun K1 hK1 => ?_
  have early : ∀ t : Fr, fget t 28 = .d (.bool true) → fget t 7 = .ptr 0 0 → fget t 8 = .ptr 1 0 → BWP Try.prog (mbound []) 129 (.cond (.t 28) (.seq (.region false [⟨(some 29), .load (some 3) (.t 8), none⟩, ⟨(some 30), .faddr (.t 7) 3, none⟩, ⟨(some 31), .load (some 2) (.t 30), none⟩, ⟨(some 32), .callf 14 [(.t 29), (.t 31), (.c (.d .nsl))], none⟩, ⟨(some 33), .bin .neq (.t 32) (.c (.d (.int .i64 6))), none⟩, ⟨(some 34), .mv (.t 33), none⟩, ⟨(some 35), .callf 11 [], (some (34, true))⟩, ⟨(some 36), .pick (.t 34) (.t 35) (.c (.d (.bool false))), none⟩, ⟨(some 6), .mv (.t 36), none⟩] []) .ret) .skip) ⟨t, [(0, [.d (.str nm), .d I, .d T, .d (.int .i64 kd), .d A]), (1, [.d L, .d J, .d U])], 2⟩ (Exit.thenA K1 (AEnd Try.prog #[.tmp 6] (mbound []) fun r m' => r = .d (.bool true) ∧ m' = [])) := by
    intro t h28 h7 h8
    refine bwp_cond true (by simp [ev, fget, h28]) (fun _ => ?_) (fun h => nomatch h)
    refine bwp_seq fun K hK => bwp_region rfl ?_
    simp -implicitDefEqProofs only [go_sem, ↓reduceIte, Nat.reduceEqDiff, Nat.reduceAdd, Nat.reduceLeDiff, Nat.reduceMul, Nat.reduceSub, Int.reduceLE, Int.reduceLT, Int.reduceEq, Int.reduceToNat, Int.reducePow, Int.reduceNeg, h7, h8]
    refine callK_pure (V kd hnil) rfl rfl ?_
    simp -implicitDefEqProofs only [go_sem, ↓reduceIte, Nat.reduceEqDiff, Nat.reduceAdd, Nat.reduceLeDiff, Nat.reduceMul, Nat.reduceSub, Int.reduceLE, Int.reduceLT, Int.reduceEq, Int.reduceToNat, Int.reducePow, Int.reduceNeg, verdictC_not6, not_false_eq_true]
    refine callK_pure awake24_pure rfl rfl ?_
    simp -implicitDefEqProofs only [go_sem, ↓reduceIte, Nat.reduceEqDiff, Nat.reduceAdd, Nat.reduceLeDiff, Nat.reduceMul, Nat.reduceSub, Int.reduceLE, Int.reduceLT, Int.reduceEq, Int.reduceToNat, Int.reducePow, Int.reduceNeg]
    refine hK _ ?_; clear hK
    refine bwp_ret ?_
    simp only [go_sem]
    refine aend_ret _ rfl rfl ⟨?_, rfl⟩
    simp [fget]
  by_cases h0 : kd = 0
  · subst h0
    refine bwp_seq fun K hK => bwp_region rfl ?_
    simp -implicitDefEqProofs only [go_sem, ↓reduceIte, Nat.reduceEqDiff, Nat.reduceAdd, Nat.reduceLeDiff, Nat.reduceMul, Nat.reduceSub, Int.reduceLE, Int.reduceLT, Int.reduceEq, Int.reduceToNat, Int.reducePow, Int.reduceNeg]
    refine hK _ ?_; clear hK
    refine early _ ?_ ?_ ?_ <;> rfl
  by_cases h60 : 60 < F.length
  · have h60' : (60 : Int) < F.length := by omega
    refine bwp_seq fun K hK => bwp_region rfl ?_
    simp -implicitDefEqProofs only [go_sem, ↓reduceIte, Nat.reduceEqDiff, Nat.reduceAdd, Nat.reduceLeDiff, Nat.reduceMul, Nat.reduceSub, Int.reduceLE, Int.reduceLT, Int.reduceEq, Int.reduceToNat, Int.reducePow, Int.reduceNeg, h0, hlen, h60']
    refine hK _ ?_; clear hK
    refine early _ ?_ ?_ ?_ <;> rfl
  have h60' : ¬ (60 : Int) < F.length := by omega
  refine bwp_seq fun K hK => bwp_region rfl ?_
  simp -implicitDefEqProofs only [go_sem, ↓reduceIte, Nat.reduceEqDiff, Nat.reduceAdd, Nat.reduceLeDiff, Nat.reduceMul, Nat.reduceSub, Int.reduceLE, Int.reduceLT, Int.reduceEq, Int.reduceToNat, Int.reducePow, Int.reduceNeg, h0, hlen, h60']
  refine hK _ ?_; clear hK
  clear early
  refine bwp_cond false (by simp [ev, fget]) (fun h => nomatch h) (fun _ => ?_)
  refine bwp_skip ?_
  refine hK1 _ ?_; clear hK1
  refine bwp_seq fun K hK => bwp_region_draw rfl rfl ?_
  simp -implicitDefEqProofs only [go_sem, ↓reduceIte, Nat.reduceEqDiff, Nat.reduceAdd, Nat.reduceLeDiff, Nat.reduceMul, Nat.reduceSub, Int.reduceLE, Int.reduceLT, Int.reduceEq, Int.reduceToNat, Int.reducePow, Int.reduceNeg]
  refine ⟨rfl, hK _ ?_⟩; clear hK
  refine bwp_leads (S' := ⟨[(1, .d Y), (2, .d (.int .i64 at')), (8, .ptr 1 0), (9, .ptr 2 0), (10, .ptr 3 0)], [(0, [.d (.str nm), .d I, .d T, .d (.int .i64 kd), .d A]), (1, [.d L, .d J, .d U]), (2, [.d (.int .i64 kd), .d A]), (3, [.d (.int .i64 kd), .d A])], 4⟩) (Leads.ent [(0, 0), (1, 1), (6, 2), (7, 3)] ⟨by simp [entT, fget, AV.ren, renL, pget], by simp [entM, pinv, mget, mset, renL, AV.ren, pget, renL_append, -List.map_map], rfl, rfl⟩) ?_
  refine bwp_seq fun K hK => bwp_region rfl ?_
  simp -implicitDefEqProofs only [go_sem, ↓reduceIte, Nat.reduceEqDiff, Nat.reduceAdd, Nat.reduceLeDiff, Nat.reduceMul, Nat.reduceSub, Int.reduceLE, Int.reduceLT, Int.reduceEq, Int.reduceToNat, Int.reducePow, Int.reduceNeg]
  refine hK _ ?_; clear hK
  have hwn : IntKind.i64.wrap ((F.length : Int) + 1) = ((F.length + 1 : Nat) : Int) := by rw [wrap_i64 (by omega) (by omega)]; rfl
  have hn0 : ¬ ((F.length + 1 : Nat) : Int) = 0 := by omega
  refine bwp_seq fun K hK => bwp_region rfl ?_
  simp -implicitDefEqProofs only [go_sem, ↓reduceIte, Nat.reduceEqDiff, Nat.reduceAdd, Nat.reduceLeDiff, Nat.reduceMul, Nat.reduceSub, Int.reduceLE, Int.reduceLT, Int.reduceEq, Int.reduceToNat, Int.reducePow, Int.reduceNeg, low8_eq, hlen, hwn, hn0, tmod_nat]
  refine hK _ ?_; clear hK
  have hk : low8 at' % (F.length + 1) ≤ F.length := Nat.le_of_lt_succ (Nat.mod_lt _ (by omega))
  generalize low8 at' % (F.length + 1) = k at hk
  refine bwp_seq fun K hK => bwp_region rfl ?_
  simp -implicitDefEqProofs only [go_sem, ↓reduceIte, Nat.reduceEqDiff, Nat.reduceAdd, Nat.reduceLeDiff, Nat.reduceMul, Nat.reduceSub, Int.reduceLE, Int.reduceLT, Int.reduceEq, Int.reduceToNat, Int.reducePow, Int.reduceNeg]
  refine callK_pure (counts_pure (I := J) (T := U) hL hnt hA 1 hY) rfl rfl ?_
  simp -implicitDefEqProofs only [go_sem, ↓reduceIte, Nat.reduceEqDiff, Nat.reduceAdd, Nat.reduceLeDiff, Nat.reduceMul, Nat.reduceSub, Int.reduceLE, Int.reduceLT, Int.reduceEq, Int.reduceToNat, Int.reducePow, Int.reduceNeg]
  refine hK _ ?_; clear hK
  have e1 := v1 locs nt rows F
  have e2 := v2 locs nt rows F
  have hyl := yesC_le locs nt rows 1 F
  have hyt := yesC_take locs nt rows F k
  have hnt2 := noC_take locs nt rows F k
  have g1 := v1 locs nt rows (F.take k)
  have g2 := v2 locs nt rows (F.take k)
  obtain ⟨Z, hZe, hZ⟩ := hY.take (w := 20) (fun f => by simp [finE, finD, f.2]) k hk
  have hfl : F.length - yesC locs nt 1 rows F + yesC locs nt 1 rows F = F.length := by omega
  generalize hy : yesC locs nt 1 rows F = y at *
  generalize hyn : F.length - y = no at *
  have hw : IntKind.i64.wrap ((y : Int) + (no : Int)) = (F.length : Int) := by rw [wrap_i64 (by omega) (by omega)]; omega
  refine bwp_seq fun K1 hK1 => ?_
  have rest : ∀ t : Fr, fget t 81 = .d (.bool false) → fget t 1 = .d Y → fget t 8 = .ptr 1 0 → fget t 9 = .ptr 2 0 → fget t 10 = .ptr 3 0 → fget t 11 = .d (.int .i64 k) →
      BWP Try.prog (mbound []) 129 (.cond (.t 81) (.seq (.region false [⟨(some 6), .mv (.c (.d (.bool false))), none⟩] []) .ret) .skip) ⟨t, [(0, [.d (.str nm), .d I, .d T, .d (.int .i64 kd), .d A]), (1, [.d L, .d J, .d U]), (2, [.d (.int .i64 1), .d A]), (3, [.d (.int .i64 2), .d A])], 4⟩ (Exit.thenA K1 (AEnd Try.prog #[.tmp 6] (mbound []) fun r m' => r = .d (.bool true) ∧ m' = [])) := by
    intro t h81 h1 h8 h9 h10 h11
    refine bwp_cond false (by simp [ev, fget, h81]) (fun h => nomatch h) (fun _ => ?_)
    refine bwp_skip ?_
    refine hK1 _ ?_; clear hK1
    simp -implicitDefEqProofs only [go_sem, ↓reduceIte, Nat.reduceEqDiff, Nat.reduceAdd, Nat.reduceLeDiff, Nat.reduceMul, Nat.reduceSub, Int.reduceLE, Int.reduceLT, Int.reduceEq, Int.reduceToNat, Int.reducePow, Int.reduceNeg] at hZe
    refine bwp_seq fun K hK => bwp_region_draw rfl rfl ?_
    simp -implicitDefEqProofs only [go_sem, ↓reduceIte, Nat.reduceEqDiff, Nat.reduceAdd, Nat.reduceLeDiff, Nat.reduceMul, Nat.reduceSub, Int.reduceLE, Int.reduceLT, Int.reduceEq, Int.reduceToNat, Int.reducePow, Int.reduceNeg, h1, h8, h9, h10, h11, hlen, Int.natCast_nonneg, Int.toNat_natCast, hZe]
    refine dCallK_pure (V 1 hZ) rfl rfl ?_
    simp -implicitDefEqProofs only [go_sem, ↓reduceIte, Nat.reduceEqDiff, Nat.reduceAdd, Nat.reduceLeDiff, Nat.reduceMul, Nat.reduceSub, Int.reduceLE, Int.reduceLT, Int.reduceEq, Int.reduceToNat, Int.reducePow, Int.reduceNeg, h1, h8, h9, h10, h11, hlen, Int.natCast_nonneg, Int.toNat_natCast, hZe]
    refine dCallK_pure (V 2 hZ) rfl rfl ?_
    simp -implicitDefEqProofs only [go_sem, ↓reduceIte, Nat.reduceEqDiff, Nat.reduceAdd, Nat.reduceLeDiff, Nat.reduceMul, Nat.reduceSub, Int.reduceLE, Int.reduceLT, Int.reduceEq, Int.reduceToNat, Int.reducePow, Int.reduceNeg]
    refine ⟨rfl, hK _ ?_⟩; clear hK
    have n1 : verdictC locs nt 1 rows [] = 2 := rfl
    have n2 : verdictC locs nt 2 rows [] = 1 := rfl
    generalize yesC locs nt 1 rows (F.take k) = ya at *
    generalize (F.take k).length - ya = na at *
    generalize verdictC locs nt 1 rows (F.take k) = va at *
    generalize verdictC locs nt 2 rows (F.take k) = vb at *
    have tl : ∀ t : Fr, fget t 6 = .d (.bool true) → ∀ m n, BWP Try.prog (mbound []) 129 .ret ⟨t, m, n⟩ (AEnd Try.prog #[.tmp 6] (mbound []) fun r m' => r = .d (.bool true) ∧ m' = []) := by
      intro t h6 m n
      refine bwp_ret ?_
      exact aend_ret (.d (.bool true)) (by simp [resA, resVs, resV, h6]) rfl ⟨rfl, rfl⟩
    by_cases hA1 : 0 < ya
    · rw [if_pos hA1] at g1
      rw [if_pos (by omega)] at e1
      by_cases hB : na = 0
      · rw [if_pos hB] at g2
        subst g1 g2
        refine bwp_seq fun K hK => bwp_region rfl ?_
        simp -implicitDefEqProofs only [go_sem, ↓reduceIte, Nat.reduceEqDiff, Nat.reduceAdd, Nat.reduceLeDiff, Nat.reduceMul, Nat.reduceSub, Int.reduceLE, Int.reduceLT, Int.reduceEq, Int.reduceToNat, Int.reducePow, Int.reduceNeg, h1, h8, h9, h10]
        refine callK_pure (V 1 hY) rfl rfl ?_
        simp -implicitDefEqProofs only [go_sem, ↓reduceIte, Nat.reduceEqDiff, Nat.reduceAdd, Nat.reduceLeDiff, Nat.reduceMul, Nat.reduceSub, Int.reduceLE, Int.reduceLT, Int.reduceEq, Int.reduceToNat, Int.reducePow, Int.reduceNeg, e1, h1, h8, h9, h10]
        refine callK_pure (V 1 hnil) rfl rfl ?_
        simp -implicitDefEqProofs only [go_sem, ↓reduceIte, Nat.reduceEqDiff, Nat.reduceAdd, Nat.reduceLeDiff, Nat.reduceMul, Nat.reduceSub, Int.reduceLE, Int.reduceLT, Int.reduceEq, Int.reduceToNat, Int.reducePow, Int.reduceNeg, n1, h1, h8, h9, h10]
        refine callK_pure (V 2 hnil) rfl rfl ?_
        simp -implicitDefEqProofs only [go_sem, ↓reduceIte, Nat.reduceEqDiff, Nat.reduceAdd, Nat.reduceLeDiff, Nat.reduceMul, Nat.reduceSub, Int.reduceLE, Int.reduceLT, Int.reduceEq, Int.reduceToNat, Int.reducePow, Int.reduceNeg, n2, h1, h8, h9, h10]
        refine callK_pure awake24_pure rfl rfl ?_
        simp -implicitDefEqProofs only [go_sem, ↓reduceIte, Nat.reduceEqDiff, Nat.reduceAdd, Nat.reduceLeDiff, Nat.reduceMul, Nat.reduceSub, Int.reduceLE, Int.reduceLT, Int.reduceEq, Int.reduceToNat, Int.reducePow, Int.reduceNeg]
        refine hK _ ?_; clear hK
        exact tl _ rfl _ _
      · rw [if_neg hB] at g2
        rw [if_neg (by omega)] at e2
        subst g1 g2
        refine bwp_seq fun K hK => bwp_region rfl ?_
        simp -implicitDefEqProofs only [go_sem, ↓reduceIte, Nat.reduceEqDiff, Nat.reduceAdd, Nat.reduceLeDiff, Nat.reduceMul, Nat.reduceSub, Int.reduceLE, Int.reduceLT, Int.reduceEq, Int.reduceToNat, Int.reducePow, Int.reduceNeg, h1, h8, h9, h10]
        refine callK_pure (V 1 hY) rfl rfl ?_
        simp -implicitDefEqProofs only [go_sem, ↓reduceIte, Nat.reduceEqDiff, Nat.reduceAdd, Nat.reduceLeDiff, Nat.reduceMul, Nat.reduceSub, Int.reduceLE, Int.reduceLT, Int.reduceEq, Int.reduceToNat, Int.reducePow, Int.reduceNeg, e1, h1, h8, h9, h10]
        refine callK_pure (V 2 hY) rfl rfl ?_
        simp -implicitDefEqProofs only [go_sem, ↓reduceIte, Nat.reduceEqDiff, Nat.reduceAdd, Nat.reduceLeDiff, Nat.reduceMul, Nat.reduceSub, Int.reduceLE, Int.reduceLT, Int.reduceEq, Int.reduceToNat, Int.reducePow, Int.reduceNeg, e2, h1, h8, h9, h10]
        refine callK_pure (V 1 hnil) rfl rfl ?_
        simp -implicitDefEqProofs only [go_sem, ↓reduceIte, Nat.reduceEqDiff, Nat.reduceAdd, Nat.reduceLeDiff, Nat.reduceMul, Nat.reduceSub, Int.reduceLE, Int.reduceLT, Int.reduceEq, Int.reduceToNat, Int.reducePow, Int.reduceNeg, n1, h1, h8, h9, h10]
        refine callK_pure (V 2 hnil) rfl rfl ?_
        simp -implicitDefEqProofs only [go_sem, ↓reduceIte, Nat.reduceEqDiff, Nat.reduceAdd, Nat.reduceLeDiff, Nat.reduceMul, Nat.reduceSub, Int.reduceLE, Int.reduceLT, Int.reduceEq, Int.reduceToNat, Int.reducePow, Int.reduceNeg, n2, h1, h8, h9, h10]
        refine callK_pure awake24_pure rfl rfl ?_
        simp -implicitDefEqProofs only [go_sem, ↓reduceIte, Nat.reduceEqDiff, Nat.reduceAdd, Nat.reduceLeDiff, Nat.reduceMul, Nat.reduceSub, Int.reduceLE, Int.reduceLT, Int.reduceEq, Int.reduceToNat, Int.reducePow, Int.reduceNeg]
        refine hK _ ?_; clear hK
        exact tl _ rfl _ _
    · rw [if_neg hA1] at g1
      by_cases hB : na = 0
      · rw [if_pos hB] at g2
        subst g1 g2
        refine bwp_seq fun K hK => bwp_region rfl ?_
        simp -implicitDefEqProofs only [go_sem, ↓reduceIte, Nat.reduceEqDiff, Nat.reduceAdd, Nat.reduceLeDiff, Nat.reduceMul, Nat.reduceSub, Int.reduceLE, Int.reduceLT, Int.reduceEq, Int.reduceToNat, Int.reducePow, Int.reduceNeg, h1, h8, h9, h10]
        refine callK_pure (V 1 hnil) rfl rfl ?_
        simp -implicitDefEqProofs only [go_sem, ↓reduceIte, Nat.reduceEqDiff, Nat.reduceAdd, Nat.reduceLeDiff, Nat.reduceMul, Nat.reduceSub, Int.reduceLE, Int.reduceLT, Int.reduceEq, Int.reduceToNat, Int.reducePow, Int.reduceNeg, n1, h1, h8, h9, h10]
        refine callK_pure (V 2 hnil) rfl rfl ?_
        simp -implicitDefEqProofs only [go_sem, ↓reduceIte, Nat.reduceEqDiff, Nat.reduceAdd, Nat.reduceLeDiff, Nat.reduceMul, Nat.reduceSub, Int.reduceLE, Int.reduceLT, Int.reduceEq, Int.reduceToNat, Int.reducePow, Int.reduceNeg, n2, h1, h8, h9, h10]
        refine callK_pure awake24_pure rfl rfl ?_
        simp -implicitDefEqProofs only [go_sem, ↓reduceIte, Nat.reduceEqDiff, Nat.reduceAdd, Nat.reduceLeDiff, Nat.reduceMul, Nat.reduceSub, Int.reduceLE, Int.reduceLT, Int.reduceEq, Int.reduceToNat, Int.reducePow, Int.reduceNeg]
        refine hK _ ?_; clear hK
        exact tl _ rfl _ _
      · rw [if_neg hB] at g2
        rw [if_neg (by omega)] at e2
        subst g1 g2
        refine bwp_seq fun K hK => bwp_region rfl ?_
        simp -implicitDefEqProofs only [go_sem, ↓reduceIte, Nat.reduceEqDiff, Nat.reduceAdd, Nat.reduceLeDiff, Nat.reduceMul, Nat.reduceSub, Int.reduceLE, Int.reduceLT, Int.reduceEq, Int.reduceToNat, Int.reducePow, Int.reduceNeg, h1, h8, h9, h10]
        refine callK_pure (V 2 hY) rfl rfl ?_
        simp -implicitDefEqProofs only [go_sem, ↓reduceIte, Nat.reduceEqDiff, Nat.reduceAdd, Nat.reduceLeDiff, Nat.reduceMul, Nat.reduceSub, Int.reduceLE, Int.reduceLT, Int.reduceEq, Int.reduceToNat, Int.reducePow, Int.reduceNeg, e2, h1, h8, h9, h10]
        refine callK_pure (V 1 hnil) rfl rfl ?_
        simp -implicitDefEqProofs only [go_sem, ↓reduceIte, Nat.reduceEqDiff, Nat.reduceAdd, Nat.reduceLeDiff, Nat.reduceMul, Nat.reduceSub, Int.reduceLE, Int.reduceLT, Int.reduceEq, Int.reduceToNat, Int.reducePow, Int.reduceNeg, n1, h1, h8, h9, h10]
        refine callK_pure (V 2 hnil) rfl rfl ?_
        simp -implicitDefEqProofs only [go_sem, ↓reduceIte, Nat.reduceEqDiff, Nat.reduceAdd, Nat.reduceLeDiff, Nat.reduceMul, Nat.reduceSub, Int.reduceLE, Int.reduceLT, Int.reduceEq, Int.reduceToNat, Int.reducePow, Int.reduceNeg, n2, h1, h8, h9, h10]
        refine callK_pure awake24_pure rfl rfl ?_
        simp -implicitDefEqProofs only [go_sem, ↓reduceIte, Nat.reduceEqDiff, Nat.reduceAdd, Nat.reduceLeDiff, Nat.reduceMul, Nat.reduceSub, Int.reduceLE, Int.reduceLT, Int.reduceEq, Int.reduceToNat, Int.reducePow, Int.reduceNeg]
        refine hK _ ?_; clear hK
        exact tl _ rfl _ _
  clear hZe hZ hyt hnt2 g1 g2
  by_cases hy0 : 0 < y
  · rw [if_pos hy0] at e1
    have hy0' : (0 : Int) < y := by omega
    by_cases hn0 : no = 0
    · rw [if_pos hn0] at e2
      have hn0' : (no : Int) = 0 := by omega
      refine bwp_seq fun K hK => bwp_region rfl ?_
      simp -implicitDefEqProofs only [go_sem, ↓reduceIte, Nat.reduceEqDiff, Nat.reduceAdd, Nat.reduceLeDiff, Nat.reduceMul, Nat.reduceSub, Int.reduceLE, Int.reduceLT, Int.reduceEq, Int.reduceToNat, Int.reducePow, Int.reduceNeg, hw, hlen]
      refine callK_pure (V 1 hY) rfl rfl ?_
      simp -implicitDefEqProofs only [go_sem, ↓reduceIte, Nat.reduceEqDiff, Nat.reduceAdd, Nat.reduceLeDiff, Nat.reduceMul, Nat.reduceSub, Int.reduceLE, Int.reduceLT, Int.reduceEq, Int.reduceToNat, Int.reducePow, Int.reduceNeg, e1, hy0']
      refine callK_pure (V 2 hY) rfl rfl ?_
      simp -implicitDefEqProofs only [go_sem, ↓reduceIte, Nat.reduceEqDiff, Nat.reduceAdd, Nat.reduceLeDiff, Nat.reduceMul, Nat.reduceSub, Int.reduceLE, Int.reduceLT, Int.reduceEq, Int.reduceToNat, Int.reducePow, Int.reduceNeg, e2, hn0']
      refine hK _ ?_; clear hK
      exact rest _ rfl rfl rfl rfl rfl rfl
    · rw [if_neg hn0] at e2
      have hn0' : ¬ (no : Int) = 0 := by omega
      refine bwp_seq fun K hK => bwp_region rfl ?_
      simp -implicitDefEqProofs only [go_sem, ↓reduceIte, Nat.reduceEqDiff, Nat.reduceAdd, Nat.reduceLeDiff, Nat.reduceMul, Nat.reduceSub, Int.reduceLE, Int.reduceLT, Int.reduceEq, Int.reduceToNat, Int.reducePow, Int.reduceNeg, hw, hlen]
      refine callK_pure (V 1 hY) rfl rfl ?_
      simp -implicitDefEqProofs only [go_sem, ↓reduceIte, Nat.reduceEqDiff, Nat.reduceAdd, Nat.reduceLeDiff, Nat.reduceMul, Nat.reduceSub, Int.reduceLE, Int.reduceLT, Int.reduceEq, Int.reduceToNat, Int.reducePow, Int.reduceNeg, e1, hy0']
      refine callK_pure (V 2 hY) rfl rfl ?_
      simp -implicitDefEqProofs only [go_sem, ↓reduceIte, Nat.reduceEqDiff, Nat.reduceAdd, Nat.reduceLeDiff, Nat.reduceMul, Nat.reduceSub, Int.reduceLE, Int.reduceLT, Int.reduceEq, Int.reduceToNat, Int.reducePow, Int.reduceNeg, e2, hn0']
      refine hK _ ?_; clear hK
      exact rest _ rfl rfl rfl rfl rfl rfl
  · rw [if_neg hy0] at e1
    have hy0' : ¬ (0 : Int) < y := by omega
    by_cases hn0 : no = 0
    · rw [if_pos hn0] at e2
      have hn0' : (no : Int) = 0 := by omega
      refine bwp_seq fun K hK => bwp_region rfl ?_
      simp -implicitDefEqProofs only [go_sem, ↓reduceIte, Nat.reduceEqDiff, Nat.reduceAdd, Nat.reduceLeDiff, Nat.reduceMul, Nat.reduceSub, Int.reduceLE, Int.reduceLT, Int.reduceEq, Int.reduceToNat, Int.reducePow, Int.reduceNeg, hw, hlen]
      refine callK_pure (V 1 hY) rfl rfl ?_
      simp -implicitDefEqProofs only [go_sem, ↓reduceIte, Nat.reduceEqDiff, Nat.reduceAdd, Nat.reduceLeDiff, Nat.reduceMul, Nat.reduceSub, Int.reduceLE, Int.reduceLT, Int.reduceEq, Int.reduceToNat, Int.reducePow, Int.reduceNeg, e1, hy0']
      refine callK_pure (V 2 hY) rfl rfl ?_
      simp -implicitDefEqProofs only [go_sem, ↓reduceIte, Nat.reduceEqDiff, Nat.reduceAdd, Nat.reduceLeDiff, Nat.reduceMul, Nat.reduceSub, Int.reduceLE, Int.reduceLT, Int.reduceEq, Int.reduceToNat, Int.reducePow, Int.reduceNeg, e2, hn0']
      refine hK _ ?_; clear hK
      exact rest _ rfl rfl rfl rfl rfl rfl
    · rw [if_neg hn0] at e2
      have hn0' : ¬ (no : Int) = 0 := by omega
      refine bwp_seq fun K hK => bwp_region rfl ?_
      simp -implicitDefEqProofs only [go_sem, ↓reduceIte, Nat.reduceEqDiff, Nat.reduceAdd, Nat.reduceLeDiff, Nat.reduceMul, Nat.reduceSub, Int.reduceLE, Int.reduceLT, Int.reduceEq, Int.reduceToNat, Int.reducePow, Int.reduceNeg, hw, hlen]
      refine callK_pure (V 1 hY) rfl rfl ?_
      simp -implicitDefEqProofs only [go_sem, ↓reduceIte, Nat.reduceEqDiff, Nat.reduceAdd, Nat.reduceLeDiff, Nat.reduceMul, Nat.reduceSub, Int.reduceLE, Int.reduceLT, Int.reduceEq, Int.reduceToNat, Int.reducePow, Int.reduceNeg, e1, hy0']
      refine callK_pure (V 2 hY) rfl rfl ?_
      simp -implicitDefEqProofs only [go_sem, ↓reduceIte, Nat.reduceEqDiff, Nat.reduceAdd, Nat.reduceLeDiff, Nat.reduceMul, Nat.reduceSub, Int.reduceLE, Int.reduceLT, Int.reduceEq, Int.reduceToNat, Int.reducePow, Int.reduceNeg, e2, hn0']
      refine hK _ ?_; clear hK
      exact rest _ rfl rfl rfl rfl rfl rfl

end Go.Proofs.Ytjfghjakpjfgpaa
