/- What the statement's proof leans on, part 6: the layer, the walks, the plain laws. -/
import Derived.Test.YtpfbljkfbjjlkaaDoorMJP5e
import Derived.Test.YtpfbljkfbjjlkaaDoorMJP5c
import Derived.KernelRfl
import Derived.Test.YtpfbljkfbjjlkaaDoorMJP5d
set_option linter.unusedSimpArgs false
set_option linter.unusedVariables false

/- What the test made of numbers comes to, told without a heap: its model. -/
namespace Go.Proofs.YtpfbljkfbjjlkaaDoor
open Go Go.Jq
set_option maxRecDepth 100000
set_option linter.unusedSimpArgs false
def smallLoc (locs x : Nat) : Nat := 120 + x / 16 % locs
def smallVal (x : Nat) : Opnd := if x / 256 % 3 = 0 then ⟨(x / 1024 % 2 : Nat), 0⟩ else ⟨-1, (x / 64 % 3 : Nat)⟩
def smallReg (x : Nat) : Nat := x / 2048 % 2
def smallIns (locs x : Nat) : List Ins :=
  if x % 12 < 4 then [⟨1, 0, smallLoc locs x, smallVal x, 0, ⟨0, 0⟩, 0⟩]
  else if x % 12 < 8 then [⟨2, smallReg x, smallLoc locs x, ⟨0, 0⟩, 0, ⟨0, 0⟩, 0⟩]
  else if x % 12 = 8 then [⟨3, 0, 0, ⟨0, 0⟩, 0, ⟨0, 0⟩, 0⟩]
  else if x % 12 = 9 then [⟨4, smallReg x, smallLoc locs x, smallVal x, 0, ⟨-1, 1⟩, 0⟩]
  else if x % 12 = 10 then [⟨5, smallReg x, 0, smallVal x, 6, ⟨-1, 1⟩, 0⟩]
  else [⟨6, 0, 0, smallVal x, 0, ⟨-1, 0⟩, 1⟩, ⟨1, 0, smallLoc locs x, ⟨-1, 2⟩, 0, ⟨0, 0⟩, 0⟩]
def smallMem (x : Nat) : Nat := if x % 12 = 8 ∨ x % 12 = 10 then 0 else 1
def smallThread (ls : List Int) (locs most : Nat) : Nat → Nat → Nat → List Ins → Nat × Nat × List Ins
  | 0, a, mem, s => (a, mem, s)
  | k + 1, a, mem, s => if mem < most then smallThread ls locs most k (a + 1) (mem + smallMem (nxN ls a)) (s ++ smallIns locs (nxN ls a)) else (a, mem, s)
def smallThreads (ls : List Int) (locs most : Nat) : Nat → Nat → Nat → List (List Ins) → Nat × List (List Ins)
  | 0, a, _, ts => (a, ts)
  | n + 1, a, mem, ts =>
    let r := smallThread ls locs most (nxN ls a % 3 + 1) (a + 1) mem []
    smallThreads ls locs most n r.1 r.2.1 (ts ++ [r.2.2])
def smT (X : DV) (n locs most i mem : Nat) (s : List Ins) : Fr :=
  [(1, .d (.int .i64 most)), (4, .ptr 0 0), (5, .ptr 1 0), (7, .fn 63 [.ptr 2 0, .dptr [X]]), (8, .d (.int .i64 n)), (9, .d (.int .i64 locs)), (10, .d (.int .i64 mem)), (11, .d (.int .i64 i)), (12, .sl 4 9 0 s.length)]
def smM (Iv : DV) (ds : List DV) (i a : Nat) (s : List Ins) : Mem :=
  [(0, [.d (.str []), .d .nsl, .d .nsl, .d (.int .i64 0), .d .nsl]), (1, [.d (.str [116]), .d Iv, .sl 3 1 0 i, .d (.int .i64 0), .d .nsl]), (2, [.d (.int .i64 a)]), (3, ds.map .d), (4, (s.flatMap Ins.cells).map .d)]
def smS (X Iv : DV) (ds : List DV) (n locs most i k a mem : Nat) (s : List Ins) : St := ⟨(13, .d (.int .i64 k)) :: smT X n locs most i mem s, smM Iv ds i a s, 5⟩
def smE (X Iv : DV) (ds : List DV) (n locs most i a mem : Nat) (s : List Ins) : St := ⟨smT X n locs most i mem s, smM Iv ds i a s, 5⟩
theorem insLen (s : List Ins) : (s.flatMap Ins.cells).length = s.length * 9 := by
  induction s with
  | nil => rfl
  | cons a l ih => rw [List.flatMap_cons, List.length_append, ih, List.length_cons, Nat.succ_mul, Nat.add_comm]; rfl
set_option maxHeartbeats 4000000 in
theorem small_loop {ls : List Int} {X Iv : DV} (hX : IsInts ls X) {ds : List DV} {n locs most i : Nat} (hl0 : 0 < locs) (hl : locs ≤ 10) (hmost : most ≤ 1000) {Q : Exit → St → Prop} :
    ∀ (k a mem : Nat) (s : List Ins), k ≤ 10 → a + k ≤ 1000000 → mem + k ≤ 1000000 → s.length + 2 * k ≤ 1000000 →
      Q (.exit 2) (smE X Iv ds n locs most i (smallThread ls locs most k a mem s).1 (smallThread ls locs most k a mem s).2.1 (smallThread ls locs most k a mem s).2.2) → BWP Tryd.prog (mbound []) 184 (.loop ac29L0) (smS X Iv ds n locs most i k a mem s) Q := by
  intro k a mem s hk ha hme hs hQ
  refine bwp_loop (fun S => ∃ k' a' mem' s', k' ≤ 10 ∧ a' + k' ≤ 1000000 ∧ mem' + k' ≤ 1000000 ∧ s'.length + 2 * k' ≤ 1000000 ∧ smallThread ls locs most k' a' mem' s' = smallThread ls locs most k a mem s ∧ S = smS X Iv ds n locs most i k' a' mem' s')
    (fun S => match fget S.t 13 with
      | .d (.int _ k) => k.toNat
      | _ => 0) ⟨k, a, mem, s, hk, ha, hme, hs, rfl, rfl⟩ ?_
  rintro S ⟨k, a, mem, s, hk, ha, hme, hs, hrec, rfl⟩
  rw [← hrec] at hQ
  unfold ac29L0 smS smT smM
  have stop : ∀ (t : Fr), fget t 57 = .d (.bool false) → fget t 1 = .d (.int .i64 most) → fget t 4 = .ptr 0 0 → fget t 5 = .ptr 1 0 → fget t 7 = .fn 63 [.ptr 2 0, .dptr [X]] → fget t 8 = .d (.int .i64 n) → fget t 9 = .d (.int .i64 locs) →
      fget t 10 = .d (.int .i64 mem) → fget t 11 = .d (.int .i64 i) → fget t 12 = .sl 4 9 0 s.length → smallThread ls locs most k a mem s = (a, mem, s) → ∀ Q', (∀ S, Q (.exit 2) S → Q' (.exit 2) S) → BWP Tryd.prog (mbound []) 184 (.cond (.t 57) .skip (.exit 2)) ⟨t, smM Iv ds i a s, 5⟩ Q' := by
    intro t h57 h1 h4 h5 h7 h8 h9 h10 h11 h12 he Q' hQ'
    refine bwp_cond false (by simp [ev, fget, h57]) (fun h => nomatch h) (fun _ => ?_)
    rw [he] at hQ
    refine bwp_leads (S' := smE X Iv ds n locs most i a mem s) (Leads.ent [(0, 0), (1, 1), (2, 2), (3, 3), (4, 4)] ⟨?_, ?_, rfl, ?_⟩) (bwp_exit (hQ' _ hQ))
    · simp [smE, smT, entT, AV.ren, renL, pget, h1, h4, h5, h7, h8, h9, h10, h11, h12]
    · simp [smE, smM, entM, pinv, mget, renL, AV.ren, pget]
    · simp [keepRen]
  refine bwp_seq fun K1 hK1 => ?_
  cases k with
  | zero =>
    have h0 : ¬ (0 : Int) < ((0 : Nat) : Int) := by omega
    refine bwp_seq fun K hK => bwp_region rfl ?_
    simp only [go_sem, ↓reduceIte, Nat.reduceEqDiff, Nat.reduceAdd, Nat.reduceLeDiff, Nat.reduceMul, Int.reduceEq, h0]
    refine hK _ ?_; clear hK
    exact stop _ rfl rfl rfl rfl rfl rfl rfl rfl rfl rfl rfl _ fun _ h => h
  | succ k =>
    have h0 : (0 : Int) < ((k + 1 : Nat) : Int) := by omega
    by_cases hmm : mem < most
    · have hmm' : (mem : Int) < most := by omega
      refine bwp_seq fun K hK => bwp_region rfl ?_
      simp -implicitDefEqProofs only [go_sem, ↓reduceIte, Nat.reduceEqDiff, Nat.reduceAdd, Nat.reduceLeDiff, Nat.reduceMul, Nat.reduceSub, Int.reduceLE, Int.reduceLT, Int.reduceEq, Int.reduceToNat, Int.reducePow, Int.reduceNeg, h0, hmm']
      refine hK _ ?_; clear hK
      refine bwp_cond true (by simp [ev, fget]) (fun _ => ?_) (fun h => nomatch h)
      refine bwp_skip ?_
      refine hK1 _ ?_; clear hK1
      refine bwp_seq fun K1 hK1 => ?_
      refine bwp_block ?_
      refine bwp_seq fun K hK => bwp_region rfl ?_
      simp -implicitDefEqProofs only [go_sem, ↓reduceIte, Nat.reduceEqDiff, Nat.reduceAdd, Nat.reduceLeDiff, Nat.reduceMul, Nat.reduceSub, Int.reduceLE, Int.reduceLT, Int.reduceEq, Int.reduceToNat, Int.reducePow, Int.reduceNeg]
      refine ⟨rfl, smNext_callK hX (by omega) rfl ?_⟩
      simp -implicitDefEqProofs only [go_sem, ↓reduceIte, Nat.reduceEqDiff, Nat.reduceAdd, Nat.reduceLeDiff, Nat.reduceMul, Nat.reduceSub, Int.reduceLE, Int.reduceLT, Int.reduceEq, Int.reduceToNat, Int.reducePow, Int.reduceNeg]
      refine hK _ ?_; clear hK
      have hx := nxN_le ls a
      generalize hxe : nxN ls a = x at hx
      have hl0' : ¬ (locs : Int) = 0 := by omega
      have hmod : x / 16 % locs < 10 := Nat.lt_of_lt_of_le (Nat.mod_lt _ hl0) hl
      have hwl : IntKind.i64.wrap (120 + ((x / 16 % locs : Nat) : Int)) = (smallLoc locs x : Int) := by rw [wrap_i64 (by omega) (by omega)]; simp [smallLoc]
      refine bwp_seq fun K hK => bwp_region rfl ?_
      simp -implicitDefEqProofs only [go_sem, ↓reduceIte, Nat.reduceEqDiff, Nat.reduceAdd, Nat.reduceLeDiff, Nat.reduceMul, Nat.reduceSub, Int.reduceLE, Int.reduceLT, Int.reduceEq, Int.reduceToNat, Int.reducePow, Int.reduceNeg, fd16 x, hl0', tmod_nat, hwl]
      refine hK _ ?_; clear hK
      refine bwp_seq fun K hK => bwp_region rfl ?_
      simp -implicitDefEqProofs only [go_sem, ↓reduceIte, Nat.reduceEqDiff, Nat.reduceAdd, Nat.reduceLeDiff, Nat.reduceMul, Nat.reduceSub, Int.reduceLE, Int.reduceLT, Int.reduceEq, Int.reduceToNat, Int.reducePow, Int.reduceNeg, fd64 x, tm3]
      refine hK _ ?_; clear hK
      refine bwp_seq fun K2 hK2 => ?_
      have mid : ∀ t : Fr, fget t 1 = .d (.int .i64 most) → fget t 4 = .ptr 0 0 → fget t 5 = .ptr 1 0 → fget t 7 = .fn 63 [.ptr 2 0, .dptr [X]] → fget t 8 = .d (.int .i64 n) → fget t 9 = .d (.int .i64 locs) →
          fget t 10 = .d (.int .i64 mem) → fget t 11 = .d (.int .i64 i) → fget t 12 = .sl 4 9 0 s.length → fget t 13 = .d (.int .i64 (k + 1 : Nat)) → fget t 14 = .d (.int .i64 x) → fget t 15 = .d (.int .i64 (smallLoc locs x)) → fget t 16 = .ptr 6 0 →
          K2 ⟨t, [(0, [.d (.str []), .d .nsl, .d .nsl, .d (.int .i64 0), .d .nsl]), (1, [.d (.str [116]), .d Iv, .sl 3 1 0 i, .d (.int .i64 0), .d .nsl]), (2, [.d (.int .i64 (a + 1 : Nat))]), (3, ds.map .d), (4, (s.flatMap Ins.cells).map .d), (6, [.d (.int .i64 (smallVal x).reg), .d (.int .i64 (smallVal x).value)])], 7⟩ := by
        intro t h1 h4 h5 h7 h8 h9 h10 h11 h12 h13 h14 h15 h16
        have back : ∀ (t : Fr) (is : List Ins) (mem' : Nat) (c7 : List AV), fget t 1 = .d (.int .i64 most) → fget t 4 = .ptr 0 0 → fget t 5 = .ptr 1 0 → fget t 7 = .fn 63 [.ptr 2 0, .dptr [X]] → fget t 8 = .d (.int .i64 n) → fget t 9 = .d (.int .i64 locs) →
            fget t 10 = .d (.int .i64 mem') → fget t 11 = .d (.int .i64 i) → fget t 12 = .sl 8 9 0 (s.length + is.length) → fget t 13 = .d (.int .i64 (k + 1 : Nat)) → smallIns locs x = is → is.length ≤ 2 → mem' = mem + smallMem x →
            K1 ⟨t, [(0, [.d (.str []), .d .nsl, .d .nsl, .d (.int .i64 0), .d .nsl]), (1, [.d (.str [116]), .d Iv, .sl 3 1 0 i, .d (.int .i64 0), .d .nsl]), (2, [.d (.int .i64 (a + 1 : Nat))]), (3, ds.map .d), (6, [.d (.int .i64 (smallVal x).reg), .d (.int .i64 (smallVal x).value)]), (7, c7),
              (8, (s.flatMap Ins.cells).map .d ++ (is.flatMap Ins.cells).map .d)], 9⟩ := by
          intro t is mem' c7 h1 h4 h5 h7 h8 h9 h10 h11 h12 h13 his hil hmem
          have hwk : IntKind.i64.wrap (((k + 1 : Nat) : Int) - 1) = (k : Int) := by rw [wrap_i64 (by omega) (by omega)]; omega
          refine hK1 _ ?_; clear hK1
          refine bwp_region rfl ?_
          simp -implicitDefEqProofs only [go_sem, ↓reduceIte, Nat.reduceEqDiff, Nat.reduceAdd, Nat.reduceLeDiff, Nat.reduceMul, Nat.reduceSub, Int.reduceLE, Int.reduceLT, Int.reduceEq, Int.reduceToNat, Int.reducePow, Int.reduceNeg, h13, hwk]
          have hrec' : smallThread ls locs most k (a + 1) mem' (s ++ is) = smallThread ls locs most (k + 1) a mem s := by
            simp only [smallThread, hmm, if_true, hxe, his, hmem]
          have hsm : smallMem x ≤ 1 := by unfold smallMem; split <;> omega
          refine ⟨smS X Iv ds n locs most i k (a + 1) mem' (s ++ is), Leads.ent [(0, 0), (1, 1), (2, 2), (3, 3), (8, 4)] ⟨?_, ?_, rfl, rfl⟩, ⟨k, a + 1, mem', s ++ is, by omega, by omega, by omega, by simp; omega, hrec'.trans hrec, rfl⟩, ?_⟩
          · simp [smS, smT, entT, fget, AV.ren, renL, pget, h1, h4, h5, h7, h8, h9, h10, h11, h12]
          · simp [smS, smM, entM, pinv, mget, renL, AV.ren, pget, renL_append]
          · simp only [smS, fget, ↓reduceIte, Nat.reduceEqDiff, Int.toNat_natCast]
            omega
        have hwm : IntKind.i64.wrap ((mem : Int) + 1) = ((mem + 1 : Nat) : Int) := by rw [wrap_i64 (by omega) (by omega)]; rfl
        have hb1 : (s.length + 1) * 72 ≤ 140737488351232 := by omega
        have hb2 : (s.length + 2) * 72 ≤ 140737488351232 := by omega
        have hil := insLen s
        refine hK2 _ ?_; clear hK2
        refine bwp_seq fun K hK => bwp_region rfl ?_
        simp -implicitDefEqProofs only [go_sem, ↓reduceIte, Nat.reduceEqDiff, Nat.reduceAdd, Nat.reduceLeDiff, Nat.reduceMul, Nat.reduceSub, Int.reduceLE, Int.reduceLT, Int.reduceEq, Int.reduceToNat, Int.reducePow, Int.reduceNeg, h14, fd2048 x, and1]
        refine hK _ ?_; clear hK
        refine bwp_seq fun K hK => bwp_region rfl ?_
        simp -implicitDefEqProofs only [go_sem, ↓reduceIte, Nat.reduceEqDiff, Nat.reduceAdd, Nat.reduceLeDiff, Nat.reduceMul, Nat.reduceSub, Int.reduceLE, Int.reduceLT, Int.reduceEq, Int.reduceToNat, Int.reducePow, Int.reduceNeg, h14, tm12 x]
        refine hK _ ?_; clear hK
        refine bwp_block ?_
        have h12c : x % 12 = 0 ∨ x % 12 = 1 ∨ x % 12 = 2 ∨ x % 12 = 3 ∨ x % 12 = 4 ∨ x % 12 = 5 ∨ x % 12 = 6 ∨ x % 12 = 7 ∨ x % 12 = 8 ∨ x % 12 = 9 ∨ x % 12 = 10 ∨ x % 12 = 11 := by omega
        rcases h12c with h | h | h | h | h | h | h | h | h | h | h | h
        · have hc : ((x % 12 : Nat) : Int) = 0 := by omega
          repeat (first
            | (refine bwp_seq fun K hK => bwp_region rfl ?_; simp -implicitDefEqProofs only [go_sem, ↓reduceIte, Nat.reduceEqDiff, Nat.reduceAdd, Nat.reduceLeDiff, Nat.reduceMul, Nat.reduceSub, Int.reduceLE, Int.reduceLT, Int.reduceEq, Int.reduceToNat, Int.reducePow, Int.reduceNeg, h1, h4, h5, h7, h8, h9, h10, h11, h12, h13, h14, h15, h16, hc, hwm, hb1, hb2, hil, List.length_append]; refine hK _ ?_; clear hK)
            | (refine bwp_seq fun K hK => ?_)
            | (refine bwp_cond true ?_ (fun _ => ?_) (fun h => nomatch h); focus (simp [ev, fget, h1, h4, h5, h7, h8, h9, h10, h11, h12, h13, h14, h15, h16, hc, hwm, hb1, hb2, hil, List.length_append]; done))
            | (refine bwp_cond false ?_ (fun h => nomatch h) (fun _ => ?_); focus (simp [ev, fget, h1, h4, h5, h7, h8, h9, h10, h11, h12, h13, h14, h15, h16, hc, hwm, hb1, hb2, hil, List.length_append]; done))
            | (refine bwp_block ?_)
            | (refine bwp_skip ?_; refine hK _ ?_; clear hK)
            | (refine bwp_region rfl ?_; simp -implicitDefEqProofs only [go_sem, ↓reduceIte, Nat.reduceEqDiff, Nat.reduceAdd, Nat.reduceLeDiff, Nat.reduceMul, Nat.reduceSub, Int.reduceLE, Int.reduceLT, Int.reduceEq, Int.reduceToNat, Int.reducePow, Int.reduceNeg, h1, h4, h5, h7, h8, h9, h10, h11, h12, h13, h14, h15, h16, hc, hwm, hb1, hb2, hil, List.length_append]; refine hK _ ?_; clear hK))
          refine bwp_region rfl ?_
          simp -implicitDefEqProofs only [go_sem, ↓reduceIte, Nat.reduceEqDiff, Nat.reduceAdd, Nat.reduceLeDiff, Nat.reduceMul, Nat.reduceSub, Int.reduceLE, Int.reduceLT, Int.reduceEq, Int.reduceToNat, Int.reducePow, Int.reduceNeg, h1, h4, h5, h7, h8, h9, h10, h11, h12, h13, h14, h15, h16, hc, hwm, hb1, hb2, hil, List.length_append]
          exact back _ [⟨1, 0, smallLoc locs x, smallVal x, 0, ⟨0, 0⟩, 0⟩] (mem + 1) _ h1 h4 h5 h7 h8 h9 rfl h11 rfl h13 (by simp [smallIns, h]) (by simp) (by simp [smallMem, h])
        · have hc : ((x % 12 : Nat) : Int) = 1 := by omega
          repeat (first
            | (refine bwp_seq fun K hK => bwp_region rfl ?_; simp -implicitDefEqProofs only [go_sem, ↓reduceIte, Nat.reduceEqDiff, Nat.reduceAdd, Nat.reduceLeDiff, Nat.reduceMul, Nat.reduceSub, Int.reduceLE, Int.reduceLT, Int.reduceEq, Int.reduceToNat, Int.reducePow, Int.reduceNeg, h1, h4, h5, h7, h8, h9, h10, h11, h12, h13, h14, h15, h16, hc, hwm, hb1, hb2, hil, List.length_append]; refine hK _ ?_; clear hK)
            | (refine bwp_seq fun K hK => ?_)
            | (refine bwp_cond true ?_ (fun _ => ?_) (fun h => nomatch h); focus (simp [ev, fget, h1, h4, h5, h7, h8, h9, h10, h11, h12, h13, h14, h15, h16, hc, hwm, hb1, hb2, hil, List.length_append]; done))
            | (refine bwp_cond false ?_ (fun h => nomatch h) (fun _ => ?_); focus (simp [ev, fget, h1, h4, h5, h7, h8, h9, h10, h11, h12, h13, h14, h15, h16, hc, hwm, hb1, hb2, hil, List.length_append]; done))
            | (refine bwp_block ?_)
            | (refine bwp_skip ?_; refine hK _ ?_; clear hK)
            | (refine bwp_region rfl ?_; simp -implicitDefEqProofs only [go_sem, ↓reduceIte, Nat.reduceEqDiff, Nat.reduceAdd, Nat.reduceLeDiff, Nat.reduceMul, Nat.reduceSub, Int.reduceLE, Int.reduceLT, Int.reduceEq, Int.reduceToNat, Int.reducePow, Int.reduceNeg, h1, h4, h5, h7, h8, h9, h10, h11, h12, h13, h14, h15, h16, hc, hwm, hb1, hb2, hil, List.length_append]; refine hK _ ?_; clear hK))
          refine bwp_region rfl ?_
          simp -implicitDefEqProofs only [go_sem, ↓reduceIte, Nat.reduceEqDiff, Nat.reduceAdd, Nat.reduceLeDiff, Nat.reduceMul, Nat.reduceSub, Int.reduceLE, Int.reduceLT, Int.reduceEq, Int.reduceToNat, Int.reducePow, Int.reduceNeg, h1, h4, h5, h7, h8, h9, h10, h11, h12, h13, h14, h15, h16, hc, hwm, hb1, hb2, hil, List.length_append]
          exact back _ [⟨1, 0, smallLoc locs x, smallVal x, 0, ⟨0, 0⟩, 0⟩] (mem + 1) _ h1 h4 h5 h7 h8 h9 rfl h11 rfl h13 (by simp [smallIns, h]) (by simp) (by simp [smallMem, h])
        · have hc : ((x % 12 : Nat) : Int) = 2 := by omega
          repeat (first
            | (refine bwp_seq fun K hK => bwp_region rfl ?_; simp -implicitDefEqProofs only [go_sem, ↓reduceIte, Nat.reduceEqDiff, Nat.reduceAdd, Nat.reduceLeDiff, Nat.reduceMul, Nat.reduceSub, Int.reduceLE, Int.reduceLT, Int.reduceEq, Int.reduceToNat, Int.reducePow, Int.reduceNeg, h1, h4, h5, h7, h8, h9, h10, h11, h12, h13, h14, h15, h16, hc, hwm, hb1, hb2, hil, List.length_append]; refine hK _ ?_; clear hK)
            | (refine bwp_seq fun K hK => ?_)
            | (refine bwp_cond true ?_ (fun _ => ?_) (fun h => nomatch h); focus (simp [ev, fget, h1, h4, h5, h7, h8, h9, h10, h11, h12, h13, h14, h15, h16, hc, hwm, hb1, hb2, hil, List.length_append]; done))
            | (refine bwp_cond false ?_ (fun h => nomatch h) (fun _ => ?_); focus (simp [ev, fget, h1, h4, h5, h7, h8, h9, h10, h11, h12, h13, h14, h15, h16, hc, hwm, hb1, hb2, hil, List.length_append]; done))
            | (refine bwp_block ?_)
            | (refine bwp_skip ?_; refine hK _ ?_; clear hK)
            | (refine bwp_region rfl ?_; simp -implicitDefEqProofs only [go_sem, ↓reduceIte, Nat.reduceEqDiff, Nat.reduceAdd, Nat.reduceLeDiff, Nat.reduceMul, Nat.reduceSub, Int.reduceLE, Int.reduceLT, Int.reduceEq, Int.reduceToNat, Int.reducePow, Int.reduceNeg, h1, h4, h5, h7, h8, h9, h10, h11, h12, h13, h14, h15, h16, hc, hwm, hb1, hb2, hil, List.length_append]; refine hK _ ?_; clear hK))
          refine bwp_region rfl ?_
          simp -implicitDefEqProofs only [go_sem, ↓reduceIte, Nat.reduceEqDiff, Nat.reduceAdd, Nat.reduceLeDiff, Nat.reduceMul, Nat.reduceSub, Int.reduceLE, Int.reduceLT, Int.reduceEq, Int.reduceToNat, Int.reducePow, Int.reduceNeg, h1, h4, h5, h7, h8, h9, h10, h11, h12, h13, h14, h15, h16, hc, hwm, hb1, hb2, hil, List.length_append]
          exact back _ [⟨1, 0, smallLoc locs x, smallVal x, 0, ⟨0, 0⟩, 0⟩] (mem + 1) _ h1 h4 h5 h7 h8 h9 rfl h11 rfl h13 (by simp [smallIns, h]) (by simp) (by simp [smallMem, h])
        · have hc : ((x % 12 : Nat) : Int) = 3 := by omega
          repeat (first
            | (refine bwp_seq fun K hK => bwp_region rfl ?_; simp -implicitDefEqProofs only [go_sem, ↓reduceIte, Nat.reduceEqDiff, Nat.reduceAdd, Nat.reduceLeDiff, Nat.reduceMul, Nat.reduceSub, Int.reduceLE, Int.reduceLT, Int.reduceEq, Int.reduceToNat, Int.reducePow, Int.reduceNeg, h1, h4, h5, h7, h8, h9, h10, h11, h12, h13, h14, h15, h16, hc, hwm, hb1, hb2, hil, List.length_append]; refine hK _ ?_; clear hK)
            | (refine bwp_seq fun K hK => ?_)
            | (refine bwp_cond true ?_ (fun _ => ?_) (fun h => nomatch h); focus (simp [ev, fget, h1, h4, h5, h7, h8, h9, h10, h11, h12, h13, h14, h15, h16, hc, hwm, hb1, hb2, hil, List.length_append]; done))
            | (refine bwp_cond false ?_ (fun h => nomatch h) (fun _ => ?_); focus (simp [ev, fget, h1, h4, h5, h7, h8, h9, h10, h11, h12, h13, h14, h15, h16, hc, hwm, hb1, hb2, hil, List.length_append]; done))
            | (refine bwp_block ?_)
            | (refine bwp_skip ?_; refine hK _ ?_; clear hK)
            | (refine bwp_region rfl ?_; simp -implicitDefEqProofs only [go_sem, ↓reduceIte, Nat.reduceEqDiff, Nat.reduceAdd, Nat.reduceLeDiff, Nat.reduceMul, Nat.reduceSub, Int.reduceLE, Int.reduceLT, Int.reduceEq, Int.reduceToNat, Int.reducePow, Int.reduceNeg, h1, h4, h5, h7, h8, h9, h10, h11, h12, h13, h14, h15, h16, hc, hwm, hb1, hb2, hil, List.length_append]; refine hK _ ?_; clear hK))
          refine bwp_region rfl ?_
          simp -implicitDefEqProofs only [go_sem, ↓reduceIte, Nat.reduceEqDiff, Nat.reduceAdd, Nat.reduceLeDiff, Nat.reduceMul, Nat.reduceSub, Int.reduceLE, Int.reduceLT, Int.reduceEq, Int.reduceToNat, Int.reducePow, Int.reduceNeg, h1, h4, h5, h7, h8, h9, h10, h11, h12, h13, h14, h15, h16, hc, hwm, hb1, hb2, hil, List.length_append]
          exact back _ [⟨1, 0, smallLoc locs x, smallVal x, 0, ⟨0, 0⟩, 0⟩] (mem + 1) _ h1 h4 h5 h7 h8 h9 rfl h11 rfl h13 (by simp [smallIns, h]) (by simp) (by simp [smallMem, h])
        · have hc : ((x % 12 : Nat) : Int) = 4 := by omega
          repeat (first
            | (refine bwp_seq fun K hK => bwp_region rfl ?_; simp -implicitDefEqProofs only [go_sem, ↓reduceIte, Nat.reduceEqDiff, Nat.reduceAdd, Nat.reduceLeDiff, Nat.reduceMul, Nat.reduceSub, Int.reduceLE, Int.reduceLT, Int.reduceEq, Int.reduceToNat, Int.reducePow, Int.reduceNeg, h1, h4, h5, h7, h8, h9, h10, h11, h12, h13, h14, h15, h16, hc, hwm, hb1, hb2, hil, List.length_append]; refine hK _ ?_; clear hK)
            | (refine bwp_seq fun K hK => ?_)
            | (refine bwp_cond true ?_ (fun _ => ?_) (fun h => nomatch h); focus (simp [ev, fget, h1, h4, h5, h7, h8, h9, h10, h11, h12, h13, h14, h15, h16, hc, hwm, hb1, hb2, hil, List.length_append]; done))
            | (refine bwp_cond false ?_ (fun h => nomatch h) (fun _ => ?_); focus (simp [ev, fget, h1, h4, h5, h7, h8, h9, h10, h11, h12, h13, h14, h15, h16, hc, hwm, hb1, hb2, hil, List.length_append]; done))
            | (refine bwp_block ?_)
            | (refine bwp_skip ?_; refine hK _ ?_; clear hK)
            | (refine bwp_region rfl ?_; simp -implicitDefEqProofs only [go_sem, ↓reduceIte, Nat.reduceEqDiff, Nat.reduceAdd, Nat.reduceLeDiff, Nat.reduceMul, Nat.reduceSub, Int.reduceLE, Int.reduceLT, Int.reduceEq, Int.reduceToNat, Int.reducePow, Int.reduceNeg, h1, h4, h5, h7, h8, h9, h10, h11, h12, h13, h14, h15, h16, hc, hwm, hb1, hb2, hil, List.length_append]; refine hK _ ?_; clear hK))
          refine bwp_region rfl ?_
          simp -implicitDefEqProofs only [go_sem, ↓reduceIte, Nat.reduceEqDiff, Nat.reduceAdd, Nat.reduceLeDiff, Nat.reduceMul, Nat.reduceSub, Int.reduceLE, Int.reduceLT, Int.reduceEq, Int.reduceToNat, Int.reducePow, Int.reduceNeg, h1, h4, h5, h7, h8, h9, h10, h11, h12, h13, h14, h15, h16, hc, hwm, hb1, hb2, hil, List.length_append]
          exact back _ [⟨2, smallReg x, smallLoc locs x, ⟨0, 0⟩, 0, ⟨0, 0⟩, 0⟩] (mem + 1) _ h1 h4 h5 h7 h8 h9 rfl h11 rfl h13 (by simp [smallIns, h]) (by simp) (by simp [smallMem, h])
        · have hc : ((x % 12 : Nat) : Int) = 5 := by omega
          repeat (first
            | (refine bwp_seq fun K hK => bwp_region rfl ?_; simp -implicitDefEqProofs only [go_sem, ↓reduceIte, Nat.reduceEqDiff, Nat.reduceAdd, Nat.reduceLeDiff, Nat.reduceMul, Nat.reduceSub, Int.reduceLE, Int.reduceLT, Int.reduceEq, Int.reduceToNat, Int.reducePow, Int.reduceNeg, h1, h4, h5, h7, h8, h9, h10, h11, h12, h13, h14, h15, h16, hc, hwm, hb1, hb2, hil, List.length_append]; refine hK _ ?_; clear hK)
            | (refine bwp_seq fun K hK => ?_)
            | (refine bwp_cond true ?_ (fun _ => ?_) (fun h => nomatch h); focus (simp [ev, fget, h1, h4, h5, h7, h8, h9, h10, h11, h12, h13, h14, h15, h16, hc, hwm, hb1, hb2, hil, List.length_append]; done))
            | (refine bwp_cond false ?_ (fun h => nomatch h) (fun _ => ?_); focus (simp [ev, fget, h1, h4, h5, h7, h8, h9, h10, h11, h12, h13, h14, h15, h16, hc, hwm, hb1, hb2, hil, List.length_append]; done))
            | (refine bwp_block ?_)
            | (refine bwp_skip ?_; refine hK _ ?_; clear hK)
            | (refine bwp_region rfl ?_; simp -implicitDefEqProofs only [go_sem, ↓reduceIte, Nat.reduceEqDiff, Nat.reduceAdd, Nat.reduceLeDiff, Nat.reduceMul, Nat.reduceSub, Int.reduceLE, Int.reduceLT, Int.reduceEq, Int.reduceToNat, Int.reducePow, Int.reduceNeg, h1, h4, h5, h7, h8, h9, h10, h11, h12, h13, h14, h15, h16, hc, hwm, hb1, hb2, hil, List.length_append]; refine hK _ ?_; clear hK))
          refine bwp_region rfl ?_
          simp -implicitDefEqProofs only [go_sem, ↓reduceIte, Nat.reduceEqDiff, Nat.reduceAdd, Nat.reduceLeDiff, Nat.reduceMul, Nat.reduceSub, Int.reduceLE, Int.reduceLT, Int.reduceEq, Int.reduceToNat, Int.reducePow, Int.reduceNeg, h1, h4, h5, h7, h8, h9, h10, h11, h12, h13, h14, h15, h16, hc, hwm, hb1, hb2, hil, List.length_append]
          exact back _ [⟨2, smallReg x, smallLoc locs x, ⟨0, 0⟩, 0, ⟨0, 0⟩, 0⟩] (mem + 1) _ h1 h4 h5 h7 h8 h9 rfl h11 rfl h13 (by simp [smallIns, h]) (by simp) (by simp [smallMem, h])
        · have hc : ((x % 12 : Nat) : Int) = 6 := by omega
          repeat (first
            | (refine bwp_seq fun K hK => bwp_region rfl ?_; simp -implicitDefEqProofs only [go_sem, ↓reduceIte, Nat.reduceEqDiff, Nat.reduceAdd, Nat.reduceLeDiff, Nat.reduceMul, Nat.reduceSub, Int.reduceLE, Int.reduceLT, Int.reduceEq, Int.reduceToNat, Int.reducePow, Int.reduceNeg, h1, h4, h5, h7, h8, h9, h10, h11, h12, h13, h14, h15, h16, hc, hwm, hb1, hb2, hil, List.length_append]; refine hK _ ?_; clear hK)
            | (refine bwp_seq fun K hK => ?_)
            | (refine bwp_cond true ?_ (fun _ => ?_) (fun h => nomatch h); focus (simp [ev, fget, h1, h4, h5, h7, h8, h9, h10, h11, h12, h13, h14, h15, h16, hc, hwm, hb1, hb2, hil, List.length_append]; done))
            | (refine bwp_cond false ?_ (fun h => nomatch h) (fun _ => ?_); focus (simp [ev, fget, h1, h4, h5, h7, h8, h9, h10, h11, h12, h13, h14, h15, h16, hc, hwm, hb1, hb2, hil, List.length_append]; done))
            | (refine bwp_block ?_)
            | (refine bwp_skip ?_; refine hK _ ?_; clear hK)
            | (refine bwp_region rfl ?_; simp -implicitDefEqProofs only [go_sem, ↓reduceIte, Nat.reduceEqDiff, Nat.reduceAdd, Nat.reduceLeDiff, Nat.reduceMul, Nat.reduceSub, Int.reduceLE, Int.reduceLT, Int.reduceEq, Int.reduceToNat, Int.reducePow, Int.reduceNeg, h1, h4, h5, h7, h8, h9, h10, h11, h12, h13, h14, h15, h16, hc, hwm, hb1, hb2, hil, List.length_append]; refine hK _ ?_; clear hK))
          refine bwp_region rfl ?_
          simp -implicitDefEqProofs only [go_sem, ↓reduceIte, Nat.reduceEqDiff, Nat.reduceAdd, Nat.reduceLeDiff, Nat.reduceMul, Nat.reduceSub, Int.reduceLE, Int.reduceLT, Int.reduceEq, Int.reduceToNat, Int.reducePow, Int.reduceNeg, h1, h4, h5, h7, h8, h9, h10, h11, h12, h13, h14, h15, h16, hc, hwm, hb1, hb2, hil, List.length_append]
          exact back _ [⟨2, smallReg x, smallLoc locs x, ⟨0, 0⟩, 0, ⟨0, 0⟩, 0⟩] (mem + 1) _ h1 h4 h5 h7 h8 h9 rfl h11 rfl h13 (by simp [smallIns, h]) (by simp) (by simp [smallMem, h])
        · have hc : ((x % 12 : Nat) : Int) = 7 := by omega
          repeat (first
            | (refine bwp_seq fun K hK => bwp_region rfl ?_; simp -implicitDefEqProofs only [go_sem, ↓reduceIte, Nat.reduceEqDiff, Nat.reduceAdd, Nat.reduceLeDiff, Nat.reduceMul, Nat.reduceSub, Int.reduceLE, Int.reduceLT, Int.reduceEq, Int.reduceToNat, Int.reducePow, Int.reduceNeg, h1, h4, h5, h7, h8, h9, h10, h11, h12, h13, h14, h15, h16, hc, hwm, hb1, hb2, hil, List.length_append]; refine hK _ ?_; clear hK)
            | (refine bwp_seq fun K hK => ?_)
            | (refine bwp_cond true ?_ (fun _ => ?_) (fun h => nomatch h); focus (simp [ev, fget, h1, h4, h5, h7, h8, h9, h10, h11, h12, h13, h14, h15, h16, hc, hwm, hb1, hb2, hil, List.length_append]; done))
            | (refine bwp_cond false ?_ (fun h => nomatch h) (fun _ => ?_); focus (simp [ev, fget, h1, h4, h5, h7, h8, h9, h10, h11, h12, h13, h14, h15, h16, hc, hwm, hb1, hb2, hil, List.length_append]; done))
            | (refine bwp_block ?_)
            | (refine bwp_skip ?_; refine hK _ ?_; clear hK)
            | (refine bwp_region rfl ?_; simp -implicitDefEqProofs only [go_sem, ↓reduceIte, Nat.reduceEqDiff, Nat.reduceAdd, Nat.reduceLeDiff, Nat.reduceMul, Nat.reduceSub, Int.reduceLE, Int.reduceLT, Int.reduceEq, Int.reduceToNat, Int.reducePow, Int.reduceNeg, h1, h4, h5, h7, h8, h9, h10, h11, h12, h13, h14, h15, h16, hc, hwm, hb1, hb2, hil, List.length_append]; refine hK _ ?_; clear hK))
          refine bwp_region rfl ?_
          simp -implicitDefEqProofs only [go_sem, ↓reduceIte, Nat.reduceEqDiff, Nat.reduceAdd, Nat.reduceLeDiff, Nat.reduceMul, Nat.reduceSub, Int.reduceLE, Int.reduceLT, Int.reduceEq, Int.reduceToNat, Int.reducePow, Int.reduceNeg, h1, h4, h5, h7, h8, h9, h10, h11, h12, h13, h14, h15, h16, hc, hwm, hb1, hb2, hil, List.length_append]
          exact back _ [⟨2, smallReg x, smallLoc locs x, ⟨0, 0⟩, 0, ⟨0, 0⟩, 0⟩] (mem + 1) _ h1 h4 h5 h7 h8 h9 rfl h11 rfl h13 (by simp [smallIns, h]) (by simp) (by simp [smallMem, h])
        · have hc : ((x % 12 : Nat) : Int) = 8 := by omega
          repeat (first
            | (refine bwp_seq fun K hK => bwp_region rfl ?_; simp -implicitDefEqProofs only [go_sem, ↓reduceIte, Nat.reduceEqDiff, Nat.reduceAdd, Nat.reduceLeDiff, Nat.reduceMul, Nat.reduceSub, Int.reduceLE, Int.reduceLT, Int.reduceEq, Int.reduceToNat, Int.reducePow, Int.reduceNeg, h1, h4, h5, h7, h8, h9, h10, h11, h12, h13, h14, h15, h16, hc, hwm, hb1, hb2, hil, List.length_append]; refine hK _ ?_; clear hK)
            | (refine bwp_seq fun K hK => ?_)
            | (refine bwp_cond true ?_ (fun _ => ?_) (fun h => nomatch h); focus (simp [ev, fget, h1, h4, h5, h7, h8, h9, h10, h11, h12, h13, h14, h15, h16, hc, hwm, hb1, hb2, hil, List.length_append]; done))
            | (refine bwp_cond false ?_ (fun h => nomatch h) (fun _ => ?_); focus (simp [ev, fget, h1, h4, h5, h7, h8, h9, h10, h11, h12, h13, h14, h15, h16, hc, hwm, hb1, hb2, hil, List.length_append]; done))
            | (refine bwp_block ?_)
            | (refine bwp_skip ?_; refine hK _ ?_; clear hK)
            | (refine bwp_region rfl ?_; simp -implicitDefEqProofs only [go_sem, ↓reduceIte, Nat.reduceEqDiff, Nat.reduceAdd, Nat.reduceLeDiff, Nat.reduceMul, Nat.reduceSub, Int.reduceLE, Int.reduceLT, Int.reduceEq, Int.reduceToNat, Int.reducePow, Int.reduceNeg, h1, h4, h5, h7, h8, h9, h10, h11, h12, h13, h14, h15, h16, hc, hwm, hb1, hb2, hil, List.length_append]; refine hK _ ?_; clear hK))
          refine bwp_region rfl ?_
          simp -implicitDefEqProofs only [go_sem, ↓reduceIte, Nat.reduceEqDiff, Nat.reduceAdd, Nat.reduceLeDiff, Nat.reduceMul, Nat.reduceSub, Int.reduceLE, Int.reduceLT, Int.reduceEq, Int.reduceToNat, Int.reducePow, Int.reduceNeg, h1, h4, h5, h7, h8, h9, h10, h11, h12, h13, h14, h15, h16, hc, hwm, hb1, hb2, hil, List.length_append]
          exact back _ [⟨3, 0, 0, ⟨0, 0⟩, 0, ⟨0, 0⟩, 0⟩] mem _ h1 h4 h5 h7 h8 h9 h10 h11 rfl h13 (by simp [smallIns, h]) (by simp) (by simp [smallMem, h])
        · have hc : ((x % 12 : Nat) : Int) = 9 := by omega
          repeat (first
            | (refine bwp_seq fun K hK => bwp_region rfl ?_; simp -implicitDefEqProofs only [go_sem, ↓reduceIte, Nat.reduceEqDiff, Nat.reduceAdd, Nat.reduceLeDiff, Nat.reduceMul, Nat.reduceSub, Int.reduceLE, Int.reduceLT, Int.reduceEq, Int.reduceToNat, Int.reducePow, Int.reduceNeg, h1, h4, h5, h7, h8, h9, h10, h11, h12, h13, h14, h15, h16, hc, hwm, hb1, hb2, hil, List.length_append]; refine hK _ ?_; clear hK)
            | (refine bwp_seq fun K hK => ?_)
            | (refine bwp_cond true ?_ (fun _ => ?_) (fun h => nomatch h); focus (simp [ev, fget, h1, h4, h5, h7, h8, h9, h10, h11, h12, h13, h14, h15, h16, hc, hwm, hb1, hb2, hil, List.length_append]; done))
            | (refine bwp_cond false ?_ (fun h => nomatch h) (fun _ => ?_); focus (simp [ev, fget, h1, h4, h5, h7, h8, h9, h10, h11, h12, h13, h14, h15, h16, hc, hwm, hb1, hb2, hil, List.length_append]; done))
            | (refine bwp_block ?_)
            | (refine bwp_skip ?_; refine hK _ ?_; clear hK)
            | (refine bwp_region rfl ?_; simp -implicitDefEqProofs only [go_sem, ↓reduceIte, Nat.reduceEqDiff, Nat.reduceAdd, Nat.reduceLeDiff, Nat.reduceMul, Nat.reduceSub, Int.reduceLE, Int.reduceLT, Int.reduceEq, Int.reduceToNat, Int.reducePow, Int.reduceNeg, h1, h4, h5, h7, h8, h9, h10, h11, h12, h13, h14, h15, h16, hc, hwm, hb1, hb2, hil, List.length_append]; refine hK _ ?_; clear hK))
          refine bwp_region rfl ?_
          simp -implicitDefEqProofs only [go_sem, ↓reduceIte, Nat.reduceEqDiff, Nat.reduceAdd, Nat.reduceLeDiff, Nat.reduceMul, Nat.reduceSub, Int.reduceLE, Int.reduceLT, Int.reduceEq, Int.reduceToNat, Int.reducePow, Int.reduceNeg, h1, h4, h5, h7, h8, h9, h10, h11, h12, h13, h14, h15, h16, hc, hwm, hb1, hb2, hil, List.length_append]
          exact back _ [⟨4, smallReg x, smallLoc locs x, smallVal x, 0, ⟨-1, 1⟩, 0⟩] (mem + 1) _ h1 h4 h5 h7 h8 h9 rfl h11 rfl h13 (by simp [smallIns, h]) (by simp) (by simp [smallMem, h])
        · have hc : ((x % 12 : Nat) : Int) = 10 := by omega
          repeat (first
            | (refine bwp_seq fun K hK => bwp_region rfl ?_; simp -implicitDefEqProofs only [go_sem, ↓reduceIte, Nat.reduceEqDiff, Nat.reduceAdd, Nat.reduceLeDiff, Nat.reduceMul, Nat.reduceSub, Int.reduceLE, Int.reduceLT, Int.reduceEq, Int.reduceToNat, Int.reducePow, Int.reduceNeg, h1, h4, h5, h7, h8, h9, h10, h11, h12, h13, h14, h15, h16, hc, hwm, hb1, hb2, hil, List.length_append]; refine hK _ ?_; clear hK)
            | (refine bwp_seq fun K hK => ?_)
            | (refine bwp_cond true ?_ (fun _ => ?_) (fun h => nomatch h); focus (simp [ev, fget, h1, h4, h5, h7, h8, h9, h10, h11, h12, h13, h14, h15, h16, hc, hwm, hb1, hb2, hil, List.length_append]; done))
            | (refine bwp_cond false ?_ (fun h => nomatch h) (fun _ => ?_); focus (simp [ev, fget, h1, h4, h5, h7, h8, h9, h10, h11, h12, h13, h14, h15, h16, hc, hwm, hb1, hb2, hil, List.length_append]; done))
            | (refine bwp_block ?_)
            | (refine bwp_skip ?_; refine hK _ ?_; clear hK)
            | (refine bwp_region rfl ?_; simp -implicitDefEqProofs only [go_sem, ↓reduceIte, Nat.reduceEqDiff, Nat.reduceAdd, Nat.reduceLeDiff, Nat.reduceMul, Nat.reduceSub, Int.reduceLE, Int.reduceLT, Int.reduceEq, Int.reduceToNat, Int.reducePow, Int.reduceNeg, h1, h4, h5, h7, h8, h9, h10, h11, h12, h13, h14, h15, h16, hc, hwm, hb1, hb2, hil, List.length_append]; refine hK _ ?_; clear hK))
          refine bwp_region rfl ?_
          simp -implicitDefEqProofs only [go_sem, ↓reduceIte, Nat.reduceEqDiff, Nat.reduceAdd, Nat.reduceLeDiff, Nat.reduceMul, Nat.reduceSub, Int.reduceLE, Int.reduceLT, Int.reduceEq, Int.reduceToNat, Int.reducePow, Int.reduceNeg, h1, h4, h5, h7, h8, h9, h10, h11, h12, h13, h14, h15, h16, hc, hwm, hb1, hb2, hil, List.length_append]
          exact back _ [⟨5, smallReg x, 0, smallVal x, 6, ⟨-1, 1⟩, 0⟩] mem _ h1 h4 h5 h7 h8 h9 h10 h11 rfl h13 (by simp [smallIns, h]) (by simp) (by simp [smallMem, h])
        · have hc : ((x % 12 : Nat) : Int) = 11 := by omega
          repeat (first
            | (refine bwp_seq fun K hK => bwp_region rfl ?_; simp -implicitDefEqProofs only [go_sem, ↓reduceIte, Nat.reduceEqDiff, Nat.reduceAdd, Nat.reduceLeDiff, Nat.reduceMul, Nat.reduceSub, Int.reduceLE, Int.reduceLT, Int.reduceEq, Int.reduceToNat, Int.reducePow, Int.reduceNeg, h1, h4, h5, h7, h8, h9, h10, h11, h12, h13, h14, h15, h16, hc, hwm, hb1, hb2, hil, List.length_append]; refine hK _ ?_; clear hK)
            | (refine bwp_seq fun K hK => ?_)
            | (refine bwp_cond true ?_ (fun _ => ?_) (fun h => nomatch h); focus (simp [ev, fget, h1, h4, h5, h7, h8, h9, h10, h11, h12, h13, h14, h15, h16, hc, hwm, hb1, hb2, hil, List.length_append]; done))
            | (refine bwp_cond false ?_ (fun h => nomatch h) (fun _ => ?_); focus (simp [ev, fget, h1, h4, h5, h7, h8, h9, h10, h11, h12, h13, h14, h15, h16, hc, hwm, hb1, hb2, hil, List.length_append]; done))
            | (refine bwp_block ?_)
            | (refine bwp_skip ?_; refine hK _ ?_; clear hK)
            | (refine bwp_region rfl ?_; simp -implicitDefEqProofs only [go_sem, ↓reduceIte, Nat.reduceEqDiff, Nat.reduceAdd, Nat.reduceLeDiff, Nat.reduceMul, Nat.reduceSub, Int.reduceLE, Int.reduceLT, Int.reduceEq, Int.reduceToNat, Int.reducePow, Int.reduceNeg, h1, h4, h5, h7, h8, h9, h10, h11, h12, h13, h14, h15, h16, hc, hwm, hb1, hb2, hil, List.length_append]; refine hK _ ?_; clear hK))
          refine bwp_region rfl ?_
          simp -implicitDefEqProofs only [go_sem, ↓reduceIte, Nat.reduceEqDiff, Nat.reduceAdd, Nat.reduceLeDiff, Nat.reduceMul, Nat.reduceSub, Int.reduceLE, Int.reduceLT, Int.reduceEq, Int.reduceToNat, Int.reducePow, Int.reduceNeg, h1, h4, h5, h7, h8, h9, h10, h11, h12, h13, h14, h15, h16, hc, hwm, hb1, hb2, hil, List.length_append]
          exact back _ [⟨6, 0, 0, smallVal x, 0, ⟨-1, 0⟩, 1⟩, ⟨1, 0, smallLoc locs x, ⟨-1, 2⟩, 0, ⟨0, 0⟩, 0⟩] (mem + 1) _ h1 h4 h5 h7 h8 h9 rfl h11 rfl h13 (by simp [smallIns, h]) (by simp) (by simp [smallMem, h])
      refine bwp_seq fun K hK => bwp_region rfl ?_
      simp -implicitDefEqProofs only [go_sem, ↓reduceIte, Nat.reduceEqDiff, Nat.reduceAdd, Nat.reduceLeDiff, Nat.reduceMul, Nat.reduceSub, Int.reduceLE, Int.reduceLT, Int.reduceEq, Int.reduceToNat, Int.reducePow, Int.reduceNeg, fd256 x, tm3]
      refine hK _ ?_; clear hK
      by_cases hv : x / 256 % 3 = 0
      · have hv' : ((x / 256 % 3 : Nat) : Int) = 0 := by omega
        refine bwp_cond true (by simp [ev, fget, hv]) (fun _ => ?_) (fun h => nomatch h)
        refine bwp_region rfl ?_
        simp -implicitDefEqProofs only [go_sem, ↓reduceIte, Nat.reduceEqDiff, Nat.reduceAdd, Nat.reduceLeDiff, Nat.reduceMul, Nat.reduceSub, Int.reduceLE, Int.reduceLT, Int.reduceEq, Int.reduceToNat, Int.reducePow, Int.reduceNeg, fd1024 x, and1]
        have := mid
        simp only [smallVal, hv, if_true] at this
        exact this _ rfl rfl rfl rfl rfl rfl rfl rfl rfl rfl rfl rfl rfl
      · refine bwp_cond false (by simp [ev, fget]; omega) (fun h => nomatch h) (fun _ => ?_)
        refine bwp_skip ?_
        have := mid
        simp only [smallVal, hv, if_false] at this
        exact this _ rfl rfl rfl rfl rfl rfl rfl rfl rfl rfl rfl rfl rfl
    · have hmm' : ¬ (mem : Int) < most := by omega
      refine bwp_seq fun K hK => bwp_region rfl ?_
      simp only [go_sem, ↓reduceIte, Nat.reduceEqDiff, Nat.reduceAdd, Nat.reduceLeDiff, Nat.reduceMul, Int.reduceEq, h0, hmm']
      refine hK _ ?_; clear hK
      exact stop _ rfl rfl rfl rfl rfl rfl rfl rfl rfl rfl (by simp [smallThread, hmm]) _ fun _ h => h
end Go.Proofs.YtpfbljkfbjjlkaaDoor

/- What the test made of numbers comes to, told without a heap: its threads. -/
namespace Go.Proofs.YtpfbljkfbjjlkaaDoor
open Go Go.Jq
set_option maxRecDepth 100000
set_option linter.unusedSimpArgs false
theorem smallIns_len (locs x : Nat) : (smallIns locs x).length ≤ 2 := by
  unfold smallIns
  repeat' split
  all_goals simp
theorem smallMem_le (x : Nat) : smallMem x ≤ 1 := by unfold smallMem; split <;> omega
theorem smallThread_bounds (ls : List Int) (locs most : Nat) : ∀ (k a mem : Nat) (s : List Ins), (smallThread ls locs most k a mem s).1 ≤ a + k ∧ (smallThread ls locs most k a mem s).2.1 ≤ mem + k ∧ (smallThread ls locs most k a mem s).2.2.length ≤ s.length + 2 * k
  | 0, a, mem, s => by simp [smallThread]
  | k + 1, a, mem, s => by
    simp only [smallThread]
    split
    · have h := smallThread_bounds ls locs most k (a + 1) (mem + smallMem (nxN ls a)) (s ++ smallIns locs (nxN ls a))
      have h1 := smallIns_len locs (nxN ls a)
      have h2 := smallMem_le (nxN ls a)
      simp only [List.length_append] at h
      omega
    · simp only; omega
def smO (X Iv : DV) (ds : List DV) (n locs most i a mem : Nat) : St :=
  ⟨[(1, .d (.int .i64 most)), (4, .ptr 0 0), (5, .ptr 1 0), (7, .fn 63 [.ptr 2 0, .dptr [X]]), (8, .d (.int .i64 n)), (9, .d (.int .i64 locs)), (10, .d (.int .i64 mem)), (11, .d (.int .i64 i))],
    [(0, [.d (.str []), .d .nsl, .d .nsl, .d (.int .i64 0), .d .nsl]), (1, [.d (.str [116]), .d Iv, .sl 3 1 0 i, .d (.int .i64 0), .d .nsl]), (2, [.d (.int .i64 a)]), (3, ds.map .d)], 4⟩
set_option maxHeartbeats 4000000 in
theorem small_threads {ls : List Int} {X Iv : DV} (hX : IsInts ls X) {n locs most : Nat} (hn : n ≤ 3) (hl0 : 0 < locs) (hl : locs ≤ 10) (hmost : most ≤ 1000) {Q : Exit → St → Prop} {a0 : Nat} (ha0 : a0 ≤ 10)
    (hQ : ∀ ds, IsSls Ins.cells (smallThreads ls locs most n a0 0 []).2 ds → ds.length = n → (smallThreads ls locs most n a0 0 []).1 ≤ 100 → ∀ mem, Q (.exit 0) (smO X Iv ds n locs most n (smallThreads ls locs most n a0 0 []).1 mem)) :
    BWP Tryd.prog (mbound []) 184 (.loop ac29L1) (smO X Iv [] n locs most 0 a0 0) Q := by
  refine bwp_loop (fun S => ∃ i a mem ts ds, IsSls Ins.cells ts ds ∧ ts.length = i ∧ i ≤ n ∧ a ≤ 10 + 10 * i ∧ mem ≤ 10 * i ∧ smallThreads ls locs most (n - i) a mem ts = smallThreads ls locs most n a0 0 [] ∧ S = smO X Iv ds n locs most i a mem)
    (fun S => match fget S.t 11 with
      | .d (.int _ i) => n - i.toNat
      | _ => 0) ⟨0, a0, 0, [], [], trivial, rfl, Nat.zero_le _, by omega, by omega, rfl, rfl⟩ ?_
  rintro S ⟨i, a, mem, ts, ds, hds, htl, hi, ha, hme, hrec, rfl⟩
  have hdl : ds.length = i := by rw [hds.length, htl]
  unfold ac29L1
  refine bwp_seq fun K1 hK1 => ?_
  by_cases hlt : i < n
  · have hlt' : (i : Int) < n := by omega
    unfold smO
    refine bwp_seq fun K hK => bwp_region rfl ?_
    simp only [go_sem, ↓reduceIte, Nat.reduceEqDiff, Nat.reduceAdd, hlt']
    refine hK _ ?_; clear hK
    refine bwp_cond true (by simp [ev, fget]) (fun _ => ?_) (fun h => nomatch h)
    refine bwp_skip ?_
    refine hK1 _ ?_; clear hK1
    refine bwp_seq fun K1 hK1 => ?_
    refine bwp_block ?_
    refine bwp_seq fun K hK => bwp_region rfl ?_
    simp only [go_sem, ↓reduceIte, Nat.reduceEqDiff, Nat.reduceAdd]
    refine hK _ ?_; clear hK
    refine bwp_seq fun K2 hK2 => ?_
    refine bwp_seq fun K hK => bwp_region rfl ?_
    simp only [go_sem, ↓reduceIte, Nat.reduceEqDiff, Nat.reduceAdd]
    refine ⟨rfl, smNext_callK hX (by omega) rfl ?_⟩
    have hk4 : nxN ls a % 3 + 1 ≤ 10 := by omega
    have hw3 : IntKind.i64.wrap (((nxN ls a % 3 : Nat) : Int) + 1) = ((nxN ls a % 3 + 1 : Nat) : Int) := by rw [wrap_i64 (by omega) (by omega)]; rfl
    simp only [go_sem, ↓reduceIte, Nat.reduceEqDiff, Nat.reduceAdd, Nat.reduceLeDiff, Nat.reduceMul, Int.reduceEq, tm3, hw3]
    refine hK _ ?_; clear hK
    refine bwp_block ?_
    refine bwp_leads (S' := ⟨[(12, .d .nsl), (13, .d (.int .i64 (nxN ls a % 3 + 1 : Nat))), (1, .d (.int .i64 most)), (4, .ptr 0 0), (5, .ptr 1 0), (7, .fn 63 [.ptr 2 0, .dptr [X]]), (8, .d (.int .i64 n)), (9, .d (.int .i64 locs)), (10, .d (.int .i64 mem)), (11, .d (.int .i64 i))],
      [(0, [.d (.str []), .d .nsl, .d .nsl, .d (.int .i64 0), .d .nsl]), (1, [.d (.str [116]), .d Iv, .sl 3 1 0 i, .d (.int .i64 0), .d .nsl]), (2, [.d (.int .i64 (a + 1 : Nat))]), (3, ds.map .d)], 4⟩) (Leads.ent [(0, 0), (1, 1), (2, 2), (3, 3)] ⟨?_, ?_, rfl, rfl⟩) ?_
    · simp [entT, fget, AV.ren, renL, pget]
    · simp [entM, pinv, mget, renL, AV.ren, pget]
    refine bwp_leads (Leads.nil 12 9 rfl rfl) ?_
    refine bwp_leads (S' := smS X Iv ds n locs most i (nxN ls a % 3 + 1) (a + 1) mem []) (Leads.ent [(0, 0), (1, 1), (2, 2), (3, 3), (4, 4)] ⟨?_, ?_, rfl, rfl⟩) ?_
    · simp [smS, smT, entT, fget, AV.ren, renL, pget]
    · simp [smS, smM, entM, pinv, mget, mset, renL, AV.ren, pget]
    refine small_loop hX hl0 hl hmost _ _ _ _ hk4 (by omega) (by omega) (by simp; omega) ?_
    have hb := smallThread_bounds ls locs most (nxN ls a % 3 + 1) (a + 1) mem []
    have hrec2 : smallThreads ls locs most (n - i) a mem ts = smallThreads ls locs most (n - (i + 1)) (smallThread ls locs most (nxN ls a % 3 + 1) (a + 1) mem []).1 (smallThread ls locs most (nxN ls a % 3 + 1) (a + 1) mem []).2.1 (ts ++ [(smallThread ls locs most (nxN ls a % 3 + 1) (a + 1) mem []).2.2]) := by
      rw [show n - i = (n - (i + 1)) + 1 by omega]
      rfl
    generalize smallThread ls locs most (nxN ls a % 3 + 1) (a + 1) mem [] = r at hb hrec2
    obtain ⟨a', mem', s'⟩ := r
    simp only [List.length_nil, Nat.zero_add] at hb
    simp only [go_sem, ↓reduceIte, Nat.reduceEqDiff, Nat.reduceAdd]
    refine hK2 _ ?_; clear hK2
    have htk : (s'.flatMap Ins.cells).take (s'.length * 9) = s'.flatMap Ins.cells := List.take_of_length_le (by rw [insLen]; omega)
    refine bwp_leads (Leads.frz (S' := ⟨[(12, .d (.sl s'.length (s'.flatMap Ins.cells))), (1, .d (.int .i64 most)), (4, .ptr 0 0), (5, .ptr 1 0), (7, .fn 63 [.ptr 2 0, .dptr [X]]), (8, .d (.int .i64 n)), (9, .d (.int .i64 locs)), (10, .d (.int .i64 mem')), (11, .d (.int .i64 i))],
      [(0, [.d (.str []), .d .nsl, .d .nsl, .d (.int .i64 0), .d .nsl]), (1, [.d (.str [116]), .d Iv, .sl 3 1 0 i, .d (.int .i64 0), .d .nsl]), (2, [.d (.int .i64 a')]), (3, ds.map .d)], 4⟩) [(0, 0), (1, 1), (2, 2), (3, 3)] [(4, s'.flatMap Ins.cells)] ⟨?_, ?_, rfl, rfl, ?_⟩) ?_
    · simp [smE, smT, frzT, fget, AV.cv, cvL, zget, pget, htk]
    · simp [smE, smM, frzM, pinv, zget, mget, cvL, AV.cv, pget, cvL_d]
    · simp [smE, smM, zokFrom, mget, cvL_d]
    have hi24 : (i + 1) * 24 ≤ 140737488351232 := by omega
    refine bwp_region rfl ?_
    simp only [go_sem, ↓reduceIte, Nat.reduceEqDiff, Nat.reduceAdd, List.length_append, hdl, hi24]
    refine hK1 _ ?_; clear hK1
    have hwi : IntKind.i64.wrap ((i : Int) + 1) = ((i + 1 : Nat) : Int) := by rw [wrap_i64 (by omega) (by omega)]; rfl
    refine bwp_region rfl ?_
    simp only [go_sem, ↓reduceIte, Nat.reduceEqDiff, Nat.reduceAdd, hwi]
    refine ⟨smO X Iv (ds ++ [.sl s'.length (s'.flatMap Ins.cells)]) n locs most (i + 1) a' mem', Leads.ent [(0, 0), (1, 1), (2, 2), (5, 3)] ⟨?_, ?_, rfl, rfl⟩, ⟨i + 1, a', mem', ts ++ [s'], _, hds.append ⟨by omega, .inr rfl⟩, by simp [htl], by omega, by omega, by omega, hrec2.symm.trans hrec, rfl⟩, ?_⟩
    · simp [smO, entT, fget, AV.ren, renL, pget]
    · simp [smO, entM, pinv, mget, renL, AV.ren, pget, renL_append]
    · simp only [smO, fget, ↓reduceIte, Nat.reduceEqDiff, Int.toNat_natCast]
      omega
  · have hlt' : ¬ (i : Int) < n := by omega
    have hin : i = n := by omega
    unfold smO
    refine bwp_seq fun K hK => bwp_region rfl ?_
    simp only [go_sem, ↓reduceIte, Nat.reduceEqDiff, Nat.reduceAdd, hlt']
    refine hK _ ?_; clear hK
    refine bwp_cond false (by simp [ev, fget]) (fun h => nomatch h) (fun _ => ?_)
    subst hin
    refine bwp_leads (S' := smO X Iv ds i locs most i a mem) (Leads.ent [(0, 0), (1, 1), (2, 2), (3, 3)] ⟨?_, ?_, rfl, rfl⟩) (bwp_exit ?_)
    · simp [smO, entT, fget, AV.ren, renL, pget]
    · simp [smO, entM, pinv, mget, renL, AV.ren, pget]
    · rw [Nat.sub_self] at hrec
      simp only [smallThreads] at hrec
      simp only [go_sem, ↓reduceIte, Nat.reduceEqDiff, Nat.reduceAdd]
      rw [← hrec] at hQ
      exact hQ ds hds hdl (by simp only; omega) mem
end Go.Proofs.YtpfbljkfbjjlkaaDoor

/- What the test made of numbers comes to, told without a heap. -/
namespace Go.Proofs.YtpfbljkfbjjlkaaDoor
open Go Go.Jq
set_option maxRecDepth 100000
set_option linter.unusedSimpArgs false
def smallN (ls : List Int) : Nat := nxN ls 0 % 2 + 2
def smallLocs (ls : List Int) : Nat := nxN ls 1 % 2 + 2
def smallInits (ls : List Int) : List Init := if nxN ls 2 % 4 = 0 then [⟨120, (nxN ls 3 % 3 : Nat)⟩] else []
def smallAt (ls : List Int) : Nat := if nxN ls 2 % 4 = 0 then 4 else 3
def smallTs (ls : List Int) (most : Nat) : Nat × List (List Ins) := smallThreads ls (smallLocs ls) most (smallN ls) (smallAt ls) 0 []
def smallC (ls : List Int) (most : Nat) : Nat := nxN ls (smallTs ls most).1
def smallRows (x : Nat) : List (List Atom) := if x % 3 = 0 then [[⟨0, (x / 8 % 2 : Nat), 0, (x / 16 % 2 : Nat)⟩], [⟨-1, 0, 120, (x / 32 % 3 : Nat)⟩, ⟨1, 0, 0, (x / 128 % 2 : Nat)⟩]] else []
def smallKind (x : Nat) : Int := if x % 3 = 0 then ((x / 3 % 2 + 1 : Nat) : Int) else 0
def small (ls : List Int) (most : Nat) : Test := ⟨[116], smallInits ls, (smallTs ls most).2, smallKind (smallC ls most), smallRows (smallC ls most)⟩
def smL (X Iv : DV) (ds : List DV) (n a : Nat) : St :=
  ⟨[(4, .ptr 0 0), (5, .ptr 1 0), (7, .fn 63 [.ptr 2 0, .dptr [X]])],
    [(0, [.d (.str []), .d .nsl, .d .nsl, .d (.int .i64 0), .d .nsl]), (1, [.d (.str [116]), .d Iv, .d (.sl n ds), .d (.int .i64 0), .d .nsl]), (2, [.d (.int .i64 a)])], 3⟩
def smEnd (Iv : DV) (ds : List DV) (n : Nat) (kind : Int) (Av : DV) : St :=
  ⟨[(4, .ptr 0 0), (5, .ptr 1 0)], [(0, [.d (.str []), .d .nsl, .d .nsl, .d (.int .i64 0), .d .nsl]), (1, [.d (.str [116]), .d Iv, .d (.sl n ds), .d (.int .i64 kind), .d Av])], 2⟩
theorem small_end {Iv Av : DV} {ds : List DV} {n : Nat} {kind : Int} {Q : AV → Mem → Prop} (hQ : Q (.agg [.d (.str [116]), .d Iv, .d (.sl n ds), .d (.int .i64 kind), .d Av]) []) :
    BWP Tryd.prog (mbound []) 184 (.seq (.region false [⟨(some 183), .load (some 5) (.t 5), none⟩, ⟨none, .store 5 (.t 4) (.t 183), none⟩] []) .ret) (smEnd Iv ds n kind Av) (AEnd Tryd.prog #[.cell 4 54] (mbound []) Q) := by
  have hld : ldk Tryd.prog 54 = some (some 5) := by kernel_rfl
  unfold smEnd
  refine bwp_seq fun K hK => bwp_region rfl ?_
  simp -implicitDefEqProofs only [go_sem, ↓reduceIte, Nat.reduceEqDiff, Nat.reduceAdd, Nat.reduceLeDiff, Nat.reduceMul, Nat.reduceSub, Int.reduceLE, Int.reduceLT, Int.reduceEq, Int.reduceToNat, Int.reducePow, Int.reduceNeg]
  refine hK _ ?_; clear hK
  refine bwp_ret ?_
  simp only [go_sem]
  refine aend_mem (.agg [.d (.str [116]), .d Iv, .d (.sl n ds), .d (.int .i64 kind), .d Av]) [] [] ?_ rfl rfl trivial ?_
  · simp [resA, resVs, resV, fget, hld, mget, loadA]
  · simpa [AV.ren, renL] using hQ
def smSeq : Nat → ACode → ACode
  | 0, c => c
  | n + 1, .seq _ b => smSeq n b
  | _, c => c
theorem small_tail {ls : List Int} {X : DV} (hX : IsInts ls X) {Iv : DV} {ds : List DV} {n a x : Nat} (ha : a ≤ 1000) (hxe : nxN ls a = x) (hdl : ds.length = n) {Q : AV → Mem → Prop}
    (hQ : ∀ Av, IsSl2 Atom.cells (smallRows x) Av → Q (.agg [.d (.str [116]), .d Iv, .d (.sl n ds), .d (.int .i64 (smallKind x)), .d Av]) []) :
    BWP Tryd.prog (mbound []) 184 (smSeq 9 ac29) (smL X Iv ds n a) (AEnd Tryd.prog #[.cell 4 54] (mbound []) Q) := by
  have hx := nxN_le ls a
  rw [hxe] at hx
  unfold ac29 smL
  simp only [smSeq]
  refine bwp_seq fun K1 hK1 => ?_
  refine bwp_seq fun K hK => bwp_region rfl ?_
  simp -implicitDefEqProofs only [go_sem, ↓reduceIte, Nat.reduceEqDiff, Nat.reduceAdd, Nat.reduceLeDiff, Nat.reduceMul, Nat.reduceSub, Int.reduceLE, Int.reduceLT, Int.reduceEq, Int.reduceToNat, Int.reducePow, Int.reduceNeg]
  refine ⟨rfl, smNext_callK (a := a) hX (by omega) rfl ?_⟩
  simp -implicitDefEqProofs only [go_sem, ↓reduceIte, Nat.reduceEqDiff, Nat.reduceAdd, Nat.reduceLeDiff, Nat.reduceMul, Nat.reduceSub, Int.reduceLE, Int.reduceLT, Int.reduceEq, Int.reduceToNat, Int.reducePow, Int.reduceNeg, hxe]
  refine hK _ ?_; clear hK
  have fin : ∀ (S : St) (Av : DV), Leads (mbound []) 184 S (smEnd Iv ds n (smallKind x) Av) → IsSl2 Atom.cells (smallRows x) Av → K1 S := by
    intro S Av hS hAv
    refine hK1 _ ?_; clear hK1
    exact bwp_leads hS (small_end (hQ Av hAv))
  refine bwp_seq fun K hK => bwp_region rfl ?_
  simp -implicitDefEqProofs only [go_sem, ↓reduceIte, Nat.reduceEqDiff, Nat.reduceAdd, Nat.reduceLeDiff, Nat.reduceMul, Nat.reduceSub, Int.reduceLE, Int.reduceLT, Int.reduceEq, Int.reduceToNat, Int.reducePow, Int.reduceNeg, tm3]
  refine hK _ ?_; clear hK
  have htk : ds.take n = ds := List.take_of_length_le (by omega)
  by_cases hz : x % 3 = 0
  · refine bwp_cond true (by simp [ev, fget, hz]) (fun _ => ?_) (fun h => nomatch h)
    have hwk : IntKind.i64.wrap (((x / 3 % 2 : Nat) : Int) + 1) = ((x / 3 % 2 + 1 : Nat) : Int) := by rw [wrap_i64 (by omega) (by omega)]; rfl
    have hw3 : IntKind.i64.wrap ((x / 3 : Nat) : Int) = ((x / 3 : Nat) : Int) := Go.Jq.wrap_small (by omega)
    refine bwp_region rfl ?_
    simp -implicitDefEqProofs only [go_sem, ↓reduceIte, Nat.reduceEqDiff, Nat.reduceAdd, Nat.reduceLeDiff, Nat.reduceMul, Nat.reduceSub, Int.reduceLE, Int.reduceLT, Int.reduceEq, Int.reduceToNat, Int.reducePow, Int.reduceNeg, td3, hw3, tm2, tm3, hwk, fd8, fd16, fd32, fd128, and1]
    refine fin _ (.sl 2 [.sl 1 (Atom.cells ⟨0, (x / 8 % 2 : Nat), 0, (x / 16 % 2 : Nat)⟩), .sl 2 (Atom.cells ⟨-1, 0, 120, (x / 32 % 3 : Nat)⟩ ++ Atom.cells ⟨1, 0, 0, (x / 128 % 2 : Nat)⟩)])
      (Leads.frz [(0, 0), (1, 1)] [(4, Atom.cells ⟨0, (x / 8 % 2 : Nat), 0, (x / 16 % 2 : Nat)⟩), (5, Atom.cells ⟨-1, 0, 120, (x / 32 % 3 : Nat)⟩ ++ Atom.cells ⟨1, 0, 0, (x / 128 % 2 : Nat)⟩),
        (6, [.sl 1 (Atom.cells ⟨0, (x / 8 % 2 : Nat), 0, (x / 16 % 2 : Nat)⟩), .sl 2 (Atom.cells ⟨-1, 0, 120, (x / 32 % 3 : Nat)⟩ ++ Atom.cells ⟨1, 0, 0, (x / 128 % 2 : Nat)⟩)])] ⟨?_, ?_, rfl, rfl, ?_⟩) ?_
    · simp [smEnd, frzT, fget, AV.cv, zget, pget]
    · simp [smEnd, frzM, pinv, zget, mget, cvL, AV.cv, smallKind, hz]
    · simp [zokFrom, zget, mget, cvL, AV.cv, Atom.cells]
    · simp only [smallRows, hz, if_true]
      refine ⟨[.sl 1 (Atom.cells ⟨0, (x / 8 % 2 : Nat), 0, (x / 16 % 2 : Nat)⟩), .sl 2 (Atom.cells ⟨-1, 0, 120, (x / 32 % 3 : Nat)⟩ ++ Atom.cells ⟨1, 0, 0, (x / 128 % 2 : Nat)⟩)], ⟨by simp, .inr ?_⟩, ?_⟩
      · rfl
      · exact ⟨⟨by simp, .inr rfl⟩, ⟨by simp, .inr rfl⟩, trivial⟩
  · refine bwp_cond false (by simp [ev, fget]; omega) (fun h => nomatch h) (fun _ => ?_)
    refine bwp_skip ?_
    refine fin _ .nsl (Leads.ent [(0, 0), (1, 1)] ⟨?_, ?_, rfl, rfl⟩) ?_
    · simp [smEnd, entT, fget, AV.ren, pget]
    · simp [smEnd, entM, pinv, mget, renL, AV.ren, smallKind, hz]
    · simp only [smallRows, hz, if_false]
      exact ⟨[], ⟨by decide, .inl ⟨rfl, rfl⟩⟩, trivial⟩
end Go.Proofs.YtpfbljkfbjjlkaaDoor

/- The test made of numbers is a good one: plain Lean, no program in sight. -/
namespace Go.Proofs.YtpfbljkfbjjlkaaDoor
open Go Go.Jq
def JumpOk (l : List Ins) : Prop := ∀ (i : Nat) (x : Ins), l[i]? = some x → x.kind = 6 → x.n = 1 ∧ i + 1 < l.length
theorem JumpOk.append {l l' : List Ins} (h : JumpOk l) (h' : JumpOk l') : JumpOk (l ++ l') := by
  intro i x hx hk
  rcases Nat.lt_or_ge i l.length with hi | hi
  · rw [List.getElem?_append_left hi] at hx
    have := h i x hx hk
    rw [List.length_append]; omega
  · rw [List.getElem?_append_right hi] at hx
    have := h' _ x hx hk
    rw [List.length_append]; omega
structure GoodThread (l : List Ins) : Prop where
  len : l.length ≤ 6
  ok : ∀ x ∈ l, okInsB x = true
  loc : ∀ x ∈ l, x.loc = 0 ∨ (120 ≤ x.loc ∧ x.loc ≤ 122)
  jump : JumpOk l
theorem smallVal_ok (x : Nat) : isOpB (smallVal x) = true := by
  unfold smallVal
  split
  · have : x / 1024 % 2 < 2 := Nat.mod_lt _ (by omega)
    have h1 : isRegB ((x / 1024 % 2 : Nat) : Int) = true := by
      generalize x / 1024 % 2 = q at this
      simp only [isRegB, Bool.and_eq_true, decide_eq_true_eq]; omega
    simp only [isOpB, h1, Bool.true_and, Bool.or_eq_true]
    exact .inr rfl
  · simp [isOpB]
theorem smallReg_ok (x : Nat) : isRegB (smallReg x : Nat) = true := by
  have : smallReg x < 2 := Nat.mod_lt _ (by omega)
  simp only [isRegB, Bool.and_eq_true, decide_eq_true_eq]
  omega
theorem smallLoc_ok {locs : Nat} (h0 : 0 < locs) (h3 : locs ≤ 3) (x : Nat) : 120 ≤ smallLoc locs x ∧ smallLoc locs x ≤ 122 := by
  have : x / 16 % locs < locs := Nat.mod_lt _ h0
  unfold smallLoc
  omega
theorem smallIns_ok {locs : Nat} (h0 : 0 < locs) (h3 : locs ≤ 3) (x : Nat) : (∀ i ∈ smallIns locs x, okInsB i = true ∧ (i.loc = 0 ∨ (120 ≤ i.loc ∧ i.loc ≤ 122))) ∧ JumpOk (smallIns locs x) := by
  have hv := smallVal_ok x
  have hr := smallReg_ok x
  have hl := smallLoc_ok h0 h3 x
  have hlB : isLocB (smallLoc locs x : Nat) = true := (isLocB_iff _).2 (by omega)
  have hlI : (120 : Int) ≤ (smallLoc locs x : Nat) ∧ ((smallLoc locs x : Nat) : Int) ≤ 122 := by omega
  unfold smallIns
  generalize smallLoc locs x = L at *
  generalize smallReg x = R at *
  generalize smallVal x = V at *
  have hop1 : isOpB ⟨-1, 1⟩ = true := rfl
  have hop0 : isOpB ⟨-1, 0⟩ = true := rfl
  have hop2 : isOpB ⟨-1, 2⟩ = true := rfl
  have one : ∀ y : Ins, y.kind ≠ 6 → JumpOk [y] := by
    intro y hy i x hx hk
    cases i with
    | zero => simp at hx; subst hx; exact absurd hk hy
    | succ i => simp at hx
  split
  · refine ⟨?_, one _ (by simp)⟩
    intro i hi
    simp only [List.mem_singleton] at hi
    subst hi
    exact ⟨by simp [okInsB, eqIns, hlB, hv], .inr hlI⟩
  · split
    · refine ⟨?_, one _ (by simp)⟩
      intro i hi
      simp only [List.mem_singleton] at hi
      subst hi
      exact ⟨by simp [okInsB, eqIns, hlB, hr], .inr hlI⟩
    · split
      · refine ⟨?_, one _ (by simp)⟩
        intro i hi
        simp only [List.mem_singleton] at hi
        subst hi
        exact ⟨by decide, .inl rfl⟩
      · split
        · refine ⟨?_, one _ (by simp)⟩
          intro i hi
          simp only [List.mem_singleton] at hi
          subst hi
          exact ⟨by simp [okInsB, eqIns, hlB, hr, hv, hop1], .inr hlI⟩
        · split
          · refine ⟨?_, one _ (by simp)⟩
            intro i hi
            simp only [List.mem_singleton] at hi
            subst hi
            exact ⟨by simp [okInsB, eqIns, hr, hv, hop1], .inl rfl⟩
          · refine ⟨?_, ?_⟩
            · intro i hi
              simp only [List.mem_cons, List.not_mem_nil, or_false] at hi
              rcases hi with rfl | rfl
              · exact ⟨by simp [okInsB, eqIns, hv, hop0], .inl rfl⟩
              · exact ⟨by simp [okInsB, eqIns, hlB, hop2], .inr hlI⟩
            · intro i x hx hk
              match i with
              | 0 => simp at hx; subst hx; exact ⟨rfl, by simp⟩
              | 1 => simp at hx; subst hx; simp at hk
              | i + 2 => simp at hx
theorem smallThread_ok (ls : List Int) {locs : Nat} (h0 : 0 < locs) (h3 : locs ≤ 3) (most : Nat) : ∀ (k a mem : Nat) (s : List Ins), (∀ i ∈ s, okInsB i = true ∧ (i.loc = 0 ∨ (120 ≤ i.loc ∧ i.loc ≤ 122))) → JumpOk s →
    (∀ i ∈ (smallThread ls locs most k a mem s).2.2, okInsB i = true ∧ (i.loc = 0 ∨ (120 ≤ i.loc ∧ i.loc ≤ 122))) ∧ JumpOk (smallThread ls locs most k a mem s).2.2
  | 0, a, mem, s, h, hj => ⟨h, hj⟩
  | k + 1, a, mem, s, h, hj => by
    simp only [smallThread]
    split
    · have hi := smallIns_ok h0 h3 (nxN ls a)
      refine smallThread_ok ls h0 h3 most k _ _ _ ?_ (hj.append hi.2)
      intro i him
      rcases List.mem_append.1 him with him | him
      · exact h i him
      · exact hi.1 i him
    · exact ⟨h, hj⟩
theorem smallThreads_ok (ls : List Int) {locs : Nat} (h0 : 0 < locs) (h3 : locs ≤ 3) (most : Nat) : ∀ (n a mem : Nat) (ts : List (List Ins)), (∀ l ∈ ts, GoodThread l) → ∀ l ∈ (smallThreads ls locs most n a mem ts).2, GoodThread l
  | 0, a, mem, ts, h => h
  | n + 1, a, mem, ts, h => by
    simp only [smallThreads]
    refine smallThreads_ok ls h0 h3 most n _ _ _ ?_
    intro l hl
    rw [List.mem_append] at hl
    rcases hl with hl | hl
    · exact h l hl
    · simp only [List.mem_singleton] at hl
      subst hl
      have hb := smallThread_bounds ls locs most (nxN ls a % 3 + 1) (a + 1) mem []
      have hk := smallThread_ok ls h0 h3 most (nxN ls a % 3 + 1) (a + 1) mem [] (by simp) (fun i x hx => by simp at hx)
      simp only [List.length_nil] at hb
      exact ⟨by omega, fun x hx => (hk.1 x hx).1, fun x hx => (hk.1 x hx).2, hk.2⟩
theorem small_good (ls : List Int) (most : Nat) : ∀ l ∈ (small ls most).threads, GoodThread l := by
  simp only [small, smallTs]
  exact smallThreads_ok ls (by unfold smallLocs; omega) (by unfold smallLocs; omega) most _ _ _ [] (by simp)
structure GoodTest (t : Test) : Prop where
  name : isWordB t.name = true
  short : t.name.length ≤ 20
  threads : ∀ l ∈ t.threads, GoodThread l
  inits : ∀ x ∈ t.inits, x.loc = 120
  once : t.inits.length ≤ 1
  cond : okCondB t.kind t.rows = true
  rows : t.rows.length ≤ 8
  row : ∀ l ∈ t.rows, l.length ≤ 8
  rloc : ∀ l ∈ t.rows, ∀ a ∈ l, a.loc = 0 ∨ a.loc = 120
theorem GoodTest.ok {t : Test} (h : GoodTest t) : okB t = true := by
  have h1 : badInitB t.inits = false := by
    unfold badInitB
    rw [List.any_eq_false]
    intro x hx
    rw [h.inits x hx]
    decide
  have h2 : t.threads.any badThreadB = false := by
    rw [List.any_eq_false]
    intro l hl
    unfold badThreadB
    rw [Bool.not_eq_true, List.any_eq_false]
    intro x hx
    rw [(h.threads l hl).ok x hx]
    decide
  simp [okB, h.name, h1, h2, h.cond]
theorem small_goodTest (ls : List Int) (most : Nat) : GoodTest (small ls most) := by
  refine ⟨by show isWordB [116] = true; decide +kernel, by simp [small], small_good ls most, ?_, ?_, ?_, ?_, ?_, ?_⟩
  · intro x hx
    simp only [small, smallInits] at hx
    split at hx
    · simp only [List.mem_singleton] at hx; subst hx; rfl
    · simp at hx
  · simp only [small, smallInits]; split <;> simp
  · simp only [small]
    generalize smallC ls most = x
    unfold okCondB smallKind smallRows
    by_cases hz : x % 3 = 0
    · have h2 : x / 3 % 2 < 2 := Nat.mod_lt _ (by omega)
      have h8 : x / 8 % 2 < 2 := Nat.mod_lt _ (by omega)
      have hk : ((x / 3 % 2 + 1 : Nat) : Int) = 1 ∨ ((x / 3 % 2 + 1 : Nat) : Int) = 2 := by omega
      have hr8 : isRegB ((x / 8 % 2 : Nat) : Int) = true := by simp only [isRegB, Bool.and_eq_true, decide_eq_true_eq]; omega
      have hr0 : isRegB 0 = true := rfl
      have hl : isLocB 120 = true := rfl
      simp only [hz, if_true]
      generalize ((x / 3 % 2 + 1 : Nat) : Int) = kd at hk
      generalize ((x / 8 % 2 : Nat) : Int) = r8 at hr8
      rcases hk with rfl | rfl
      · simp [badRowB, okAtomB, hr8, hr0, hl]
      · simp [badRowB, okAtomB, hr8, hr0, hl]
    · simp [hz]
  · simp only [small, smallRows]; split <;> simp
  · intro l hl
    simp only [small, smallRows] at hl
    split at hl
    · simp only [List.mem_cons, List.not_mem_nil, or_false] at hl
      rcases hl with rfl | rfl <;> simp
    · simp at hl
  · intro l hl a ha
    simp only [small, smallRows] at hl
    split at hl
    · simp only [List.mem_cons, List.not_mem_nil, or_false] at hl
      rcases hl with rfl | rfl
      · simp only [List.mem_singleton] at ha; subst ha; exact .inl rfl
      · simp only [List.mem_cons, List.not_mem_nil, or_false] at ha
        rcases ha with rfl | rfl
        · exact .inr rfl
        · exact .inl rfl
    · simp at hl
end Go.Proofs.YtpfbljkfbjjlkaaDoor

/- The test made of numbers has a short text. -/
namespace Go.Proofs.YtpfbljkfbjjlkaaDoor
open Go Go.Jq
theorem smallIns_i64 {locs x : Nat} (hl : locs ≤ 3) (h0 : 0 < locs) : ∀ i ∈ smallIns locs x, I64i i := by
  have hv : I64 (smallVal x).reg ∧ I64 (smallVal x).value := by
    unfold smallVal
    split
    · have := Nat.mod_lt (x / 1024) (by omega : 0 < 2)
      simp only [I64]
      omega
    · have := Nat.mod_lt (x / 64) (by omega : 0 < 3)
      simp only [I64]
      omega
  have hr : I64 (smallReg x : Nat) := by
    have : smallReg x < 2 := Nat.mod_lt _ (by omega)
    simp only [I64]
    omega
  have z : I64 0 := by simp [I64]
  have o : I64 1 := by simp [I64]
  have w : I64 2 := by simp [I64]
  have mo : I64 (-1) := by simp [I64]
  intro i hi
  unfold smallIns at hi
  repeat' split at hi
  all_goals simp only [List.mem_cons, List.not_mem_nil, or_false] at hi
  · subst hi; exact ⟨z, hv.1, hv.2, z, z, z⟩
  · subst hi; exact ⟨hr, z, z, z, z, z⟩
  · subst hi; exact ⟨z, z, z, z, z, z⟩
  · subst hi; exact ⟨hr, hv.1, hv.2, mo, o, z⟩
  · subst hi; exact ⟨hr, hv.1, hv.2, mo, o, z⟩
  · rcases hi with rfl | rfl
    · exact ⟨z, hv.1, hv.2, mo, z, o⟩
    · exact ⟨z, mo, w, z, z, z⟩
theorem smallThread_i64 (ls : List Int) {locs : Nat} (h0 : 0 < locs) (h3 : locs ≤ 3) (most : Nat) : ∀ (k a mem : Nat) (s : List Ins), (∀ i ∈ s, I64i i) → ∀ i ∈ (smallThread ls locs most k a mem s).2.2, I64i i
  | 0, a, mem, s, h => h
  | k + 1, a, mem, s, h => by
    simp only [smallThread]
    split
    · refine smallThread_i64 ls h0 h3 most k _ _ _ ?_
      intro i him
      rcases List.mem_append.1 him with him | him
      · exact h i him
      · exact smallIns_i64 h3 h0 i him
    · exact h
theorem smallThreads_i64 (ls : List Int) {locs : Nat} (h0 : 0 < locs) (h3 : locs ≤ 3) (most : Nat) : ∀ (n a mem : Nat) (ts : List (List Ins)), (∀ l ∈ ts, ∀ i ∈ l, I64i i) → ∀ l ∈ (smallThreads ls locs most n a mem ts).2, ∀ i ∈ l, I64i i
  | 0, a, mem, ts, h => h
  | n + 1, a, mem, ts, h => by
    simp only [smallThreads]
    refine smallThreads_i64 ls h0 h3 most n _ _ _ ?_
    intro l hl
    rw [List.mem_append] at hl
    rcases hl with hl | hl
    · exact h l hl
    · simp only [List.mem_singleton] at hl
      subst hl
      exact smallThread_i64 ls h0 h3 most _ _ _ [] (by simp)
theorem smallThreads_len (ls : List Int) (locs most : Nat) : ∀ (n a mem : Nat) (ts : List (List Ins)), (smallThreads ls locs most n a mem ts).2.length = ts.length + n
  | 0, a, mem, ts => rfl
  | n + 1, a, mem, ts => by
    simp only [smallThreads]
    rw [smallThreads_len, List.length_append, List.length_singleton]
    omega
theorem small_len (ls : List Int) (most : Nat) : (small ls most).threads.length = smallN ls := by
  simp only [small, smallTs]
  rw [smallThreads_len]
  simp
theorem smallN_le (ls : List Int) : smallN ls ≤ 3 := by unfold smallN; omega
theorem small_few (ls : List Int) (most : Nat) : FewT (small ls most) := by
  have hg := small_goodTest ls most
  refine ⟨by simp [small], Nat.le_trans hg.once (by omega), ?_, by rw [small_len]; have := smallN_le ls; omega, fun l hl => ⟨by have := (hg.threads l hl).len; omega, ?_⟩, by have := hg.rows; omega, fun l hl => ⟨by have := hg.row l hl; omega, ?_⟩⟩
  · intro x hx
    simp only [small, smallInits] at hx
    split at hx
    · simp only [List.mem_singleton] at hx
      subst hx
      have := Nat.mod_lt (nxN ls 3) (by omega : 0 < 3)
      simp only [I64]
      omega
    · simp at hx
  · simp only [small, smallTs] at hl
    exact smallThreads_i64 ls (by unfold smallLocs; omega) (by unfold smallLocs; omega) most _ _ _ [] (by simp) l hl
  · simp only [small] at hl
    generalize smallC ls most = x at hl
    unfold smallRows at hl
    have b1 := Nat.mod_lt (x / 8) (by omega : 0 < 2)
    have b2 := Nat.mod_lt (x / 16) (by omega : 0 < 2)
    have b3 := Nat.mod_lt (x / 32) (by omega : 0 < 3)
    have b4 := Nat.mod_lt (x / 128) (by omega : 0 < 2)
    intro a ha
    split at hl
    · simp only [List.mem_cons, List.not_mem_nil, or_false] at hl
      rcases hl with rfl | rfl
      · simp only [List.mem_singleton] at ha; subst ha; simp only [I64a, I64]; omega
      · simp only [List.mem_cons, List.not_mem_nil, or_false] at ha
        rcases ha with rfl | rfl
        · simp only [I64a, I64]; omega
        · simp only [I64a, I64]; omega
    · simp at hl
end Go.Proofs.YtpfbljkfbjjlkaaDoor

/- A test's text: what stands where. -/
namespace Go.Proofs.YtpfbljkfbjjlkaaDoor
open Go Go.Jq
def isEnd (b : UInt8) : Bool := b == 123 || b == 59 || b == 125
def GoodRow (r : List (List UInt8)) : Prop := ∃ ws e, r = ws ++ [[e]] ∧ (∀ w ∈ ws, Clean w) ∧ isEnd e = true
theorem word_clean {s : List UInt8} (h : isWordB s = true) : Clean s := by
  unfold isWordB at h
  simp only [Bool.and_eq_true, List.all_eq_true, List.mem_range, decide_eq_true_eq] at h
  refine ⟨h.2, List.all_eq_true.2 fun b hb => ?_⟩
  obtain ⟨i, hi, rfl⟩ := List.getElem_of_mem hb
  have := h.1 i hi
  simp only [wordAt, Bool.or_eq_true, Bool.and_eq_true, decide_eq_true_eq] at this
  have e : s.getD i 0 = s[i] := by simp [hi]
  rw [e] at this
  exact cleanC_of (by omega)
theorem atomW_clean {a : Atom} (h : okAtomB a = true) : ∀ w ∈ atomW a, Clean w := by
  have w1 : Clean [58] := ⟨by simp, by decide⟩
  have w2 : Clean [61] := ⟨by simp, by decide⟩
  unfold atomW
  unfold okAtomB at h
  split
  · rename_i ht
    rw [if_pos ht] at h
    simp only [Bool.and_eq_true] at h
    simp only [List.cons_append, List.nil_append, List.forall_mem_cons]
    exact ⟨locT_clean h.2, w2, itoa_clean _, by simp⟩
  · simp only [List.cons_append, List.nil_append, List.forall_mem_cons]
    exact ⟨itoa_clean _, w1, regT_clean _, w2, itoa_clean _, by simp⟩
theorem sepW_clean {s : List UInt8} (hs : Clean s) : ∀ {l : List (List (List UInt8))}, (∀ r ∈ l, ∀ w ∈ r, Clean w) → ∀ w ∈ sepW s l, Clean w
  | [], _ => by simp [sepW]
  | [r], h => by simpa [sepW] using h
  | r :: r' :: l, h => by
    intro w hw
    simp only [sepW, List.mem_append, List.mem_singleton] at hw
    rcases hw with (hw | rfl) | hw
    · exact h r (by simp) w hw
    · exact hs
    · exact sepW_clean hs (fun x hx => h x (List.mem_cons_of_mem _ hx)) w hw
theorem testW_good {t : Test} (h : okB t = true) : ∀ r ∈ testW t, GoodRow r := by
  simp only [okB, Bool.and_eq_true, Bool.not_eq_true', List.any_eq_false] at h
  have hth : ∀ l ∈ t.threads, ∀ x ∈ l, okInsB x = true := fun l hl x hx => by
    have := h.1.2 l hl
    simp only [badThreadB, List.any_eq_true, not_exists, not_and, Bool.not_eq_true', Bool.not_eq_false] at this
    exact this x hx
  have hin : ∀ x ∈ t.inits, isLocB x.loc = true := fun x hx => by
    have := h.1.1.2
    simp only [badInitB, List.any_eq_false, Bool.not_eq_true', Bool.not_eq_false] at this
    exact this x hx
  have w1 : Clean [116, 101, 115, 116] := ⟨by simp, by decide⟩
  have w2 : Clean [105, 110, 105, 116] := ⟨by simp, by decide⟩
  have w3 : Clean [116, 104, 114, 101, 97, 100] := ⟨by simp, by decide⟩
  have w4 : Clean [61] := ⟨by simp, by decide⟩
  have gE : GoodRow [[125]] := ⟨[], 125, rfl, by simp, rfl⟩
  intro r hr
  simp only [testW, List.mem_cons, List.mem_append, List.mem_flatMap, List.not_mem_nil, or_false] at hr
  rcases hr with rfl | ((hr | ⟨l, hl, hr⟩) | hr) | rfl
  · exact ⟨[[116, 101, 115, 116], t.name], 123, rfl, by simp only [List.forall_mem_cons]; exact ⟨w1, word_clean h.1.1.1, by simp⟩, rfl⟩
  · split at hr
    · simp at hr
    · simp only [List.mem_cons, List.mem_append, List.mem_map, List.not_mem_nil, or_false] at hr
      rcases hr with rfl | ⟨x, hx, rfl⟩ | rfl
      · exact ⟨[[105, 110, 105, 116]], 123, rfl, by simp only [List.forall_mem_cons]; exact ⟨w2, by simp⟩, rfl⟩
      · exact ⟨[locT x.loc, [61], Lib.itoa x.value], 59, rfl, by simp only [List.forall_mem_cons]; exact ⟨locT_clean (hin x hx), w4, itoa_clean _, by simp⟩, rfl⟩
      · exact gE
  · simp only [threadW, List.mem_cons, List.mem_append, List.mem_map, List.not_mem_nil, or_false] at hr
    rcases hr with rfl | ⟨x, hx, rfl⟩ | rfl
    · exact ⟨[[116, 104, 114, 101, 97, 100]], 123, rfl, by simp only [List.forall_mem_cons]; exact ⟨w3, by simp⟩, rfl⟩
    · exact ⟨partsI x, 59, rfl, parts_clean (hth l hl x hx), rfl⟩
    · exact gE
  · split at hr
    · simp at hr
    · rename_i hk
      simp only [List.mem_cons, List.not_mem_nil, or_false] at hr
      subst hr
      obtain ⟨_, h1, h2⟩ := rows_ok hk h.2
      refine ⟨[askW t.kind] ++ sepW [124] (t.rows.map rowW), 59, rfl, ?_, rfl⟩
      intro w hw
      rcases List.mem_append.1 hw with hw | hw
      · simp only [List.mem_singleton] at hw
        subst hw
        unfold askW
        split <;> exact ⟨by simp, by decide⟩
      · refine sepW_clean (s := [124]) ⟨by simp, by decide⟩ ?_ w hw
        intro r hr
        obtain ⟨l, hl, rfl⟩ := List.mem_map.1 hr
        refine sepW_clean (s := [38]) ⟨by simp, by decide⟩ ?_
        intro r hr
        obtain ⟨a, ha, rfl⟩ := List.mem_map.1 hr
        exact atomW_clean ((h2 l hl).2 a ha)
  · exact gE
theorem end_byte {e : UInt8} (h : isEnd e = true) : e = 123 ∨ e = 59 ∨ e = 125 := by
  simpa [isEnd, or_assoc] using h
end Go.Proofs.YtpfbljkfbjjlkaaDoor

/- A printed test's words are read as it is. -/
namespace Go.Proofs.YtpfbljkfbjjlkaaDoor
open Go Go.Jq
set_option maxRecDepth 100000
set_option linter.unusedSimpArgs false
theorem sepW_cons (s : List UInt8) (w : List (List UInt8)) : ∀ ws : List (List (List UInt8)), sepW s (w :: ws) = w ++ ws.flatMap fun v => s :: v
  | [] => by simp [sepW]
  | v :: ws => by
    have ih := sepW_cons s v ws
    simp only [sepW, ih, List.flatMap_cons, List.append_assoc, List.cons_append, List.nil_append]
theorem app_K {α : Type} (t : PT α) (ws : List (List UInt8)) (u : KT) (r : List KT) {x : α} (h : ∀ u r, t.runK (ws.map kW ++ u :: r) = some (x, u :: r)) (vs : List (List UInt8)) : ∃ v w, vs.map kW ++ u :: r = v :: w ∧ t.runK ((ws ++ vs).map kW ++ u :: r) = some (x, vs.map kW ++ u :: r) := by
  obtain ⟨v, w, hv⟩ : ∃ v w, vs.map kW ++ u :: r = v :: w := by
    cases vs with
    | nil => exact ⟨_, _, rfl⟩
    | cons v vs => exact ⟨_, _, rfl⟩
  refine ⟨v, w, hv, ?_⟩
  rw [List.map_append, List.append_assoc, hv]
  exact h v w
theorem row_K : ∀ (l : List Atom) (n : Nat), (∀ a ∈ l, okAtomB a = true ∧ I64a a) → l.length < n → ∀ (u : KT) (r : List KT), u.2 ≠ [38] →
    (tRow n).runK ((l.flatMap fun a => [38] :: atomW a).map kW ++ u :: r) = some (l, u :: r)
  | _, 0, _, h, _, _, _ => absurd h (Nat.not_lt_zero _)
  | [], n + 1, _, _, u, r, hu => by
    simp only [List.flatMap_nil, List.map_nil, List.nil_append, tRow]
    rw [take_no _ _ _ _ hu]
    rfl
  | a :: l, n + 1, hp, hl, u, r, hu => by
    have ih := row_K l n (fun b hb => hp b (List.mem_cons_of_mem _ hb)) (by simp at hl; omega) u r hu
    obtain ⟨ha, hv⟩ := hp a List.mem_cons_self
    obtain ⟨v, w, hvw, h1⟩ := app_K tAtom (atomW a) u r (atom_K ha hv) (l.flatMap fun a => [38] :: atomW a)
    have e : ((a :: l).flatMap fun a => [38] :: atomW a).map kW ++ u :: r = kW [38] :: ((atomW a ++ l.flatMap fun a => [38] :: atomW a).map kW ++ u :: r) := by simp
    obtain ⟨v', w', hvw'⟩ : ∃ v' w', (atomW a ++ l.flatMap fun a => [38] :: atomW a).map kW ++ u :: r = v' :: w' := by
      obtain ⟨y, ys, hy⟩ := List.exists_cons_of_ne_nil (atomW_ne a)
      rw [hy]
      exact ⟨_, _, rfl⟩
    rw [e, tRow, hvw', take_K (.inl (by decide)), ← hvw', PT.runK_bind, h1]
    simp only [PT.runK_bind, ih]
    rfl
theorem rowW_cons (a : Atom) (l : List Atom) : rowW (a :: l) = atomW a ++ l.flatMap fun a => [38] :: atomW a := by
  unfold rowW
  rw [List.map_cons, sepW_cons, List.flatMap_map]
theorem rows_K : ∀ (l : List Atom) (ls : List (List Atom)) (n : Nat), (∀ l' ∈ l :: ls, l' ≠ [] ∧ l'.length ≤ fuelP ∧ ∀ a ∈ l', okAtomB a = true ∧ I64a a) → ls.length < n → ∀ (u : KT) (r : List KT), u.2 ≠ [38] → u.2 ≠ [124] →
    (tRows n).runK ((rowW l ++ ls.flatMap fun l => [124] :: rowW l).map kW ++ u :: r) = some (l :: ls, u :: r)
  | _, _, 0, _, h, _, _, _, _ => absurd h (Nat.not_lt_zero _)
  | l, ls, n + 1, hp, hl, u, r, h38, h124 => by
    obtain ⟨hne, hlen, hok⟩ := hp l List.mem_cons_self
    obtain ⟨a, l', rfl⟩ := List.exists_cons_of_ne_nil hne
    obtain ⟨ha, hv⟩ := hok a List.mem_cons_self
    have hrow := row_K l' fuelP (fun b hb => hok b (List.mem_cons_of_mem _ hb)) (by simp at hlen; omega)
    rw [rowW_cons, List.append_assoc]
    obtain ⟨v, w, hvw, h1⟩ := app_K tAtom (atomW a) u r (atom_K ha hv) ((l'.flatMap fun a => [38] :: atomW a) ++ ls.flatMap fun l => [124] :: rowW l)
    rw [tRows, PT.runK_bind, h1]
    simp only [PT.runK_bind]
    rw [List.map_append, List.append_assoc]
    cases ls with
    | nil =>
      simp only [List.flatMap_nil, List.map_nil, List.nil_append]
      rw [hrow u r h38]
      simp only
      rw [take_no _ _ _ _ h124]
      rfl
    | cons l2 ls =>
      have ih := rows_K l2 ls n (fun x hx => hp x (List.mem_cons_of_mem _ hx)) (by simp at hl; omega) u r h38 h124
      have e : (((l2 :: ls).flatMap fun l => [124] :: rowW l)).map kW ++ u :: r = kW [124] :: ((rowW l2 ++ ls.flatMap fun l => [124] :: rowW l).map kW ++ u :: r) := by simp
      rw [e, hrow (kW [124]) _ (by decide)]
      simp only
      obtain ⟨v', w', hvw'⟩ : ∃ v' w', (rowW l2 ++ ls.flatMap fun l => [124] :: rowW l).map kW ++ u :: r = v' :: w' := by
        obtain ⟨y, ys, hy⟩ := List.exists_cons_of_ne_nil (rowW_ne (hp l2 (by simp)).1)
        rw [hy]
        exact ⟨_, _, rfl⟩
      rw [hvw', take_K (.inl (by decide)), ← hvw', PT.runK_bind, ih]
      rfl
structure FitT (t : Test) : Prop where
  ok : okB t = true
  inits : ∀ x ∈ t.inits, I64 x.value
  ins : ∀ l ∈ t.threads, ∀ x ∈ l, I64i x
  atoms : ∀ l ∈ t.rows, ∀ a ∈ l, I64a a
  ni : t.inits.length < fuelP
  nt : t.threads.length < fuelP
  nl : ∀ l ∈ t.threads, l.length < fuelP
  nr : t.rows.length < fuelP
  na : ∀ l ∈ t.rows, l.length < fuelP
theorem FitT.parts {t : Test} (h : FitT t) : isWordB t.name = true ∧ (∀ x ∈ t.inits, isLocB x.loc = true) ∧ (∀ l ∈ t.threads, ∀ x ∈ l, okInsB x = true) ∧ okCondB t.kind t.rows = true := by
  have h := h.ok
  simp only [okB, Bool.and_eq_true, Bool.not_eq_true', List.any_eq_false] at h
  refine ⟨h.1.1.1, fun x hx => ?_, fun l hl x hx => ?_, h.2⟩
  · have := h.1.1.2
    simp only [badInitB, List.any_eq_false, Bool.not_eq_true', Bool.not_eq_false] at this
    exact this x hx
  · have := h.1.2 l hl
    simp only [badThreadB, List.any_eq_true, not_exists, not_and, Bool.not_eq_true', Bool.not_eq_false] at this
    exact this x hx
theorem insW_head {x : Ins} (h : okInsB x = true) : ∃ w ws, insW x = w :: ws ∧ w ≠ [125] := by
  have hc := parts_clean h
  unfold insW
  cases hp : partsI x with
  | nil => exact ⟨[59], [], rfl, by decide⟩
  | cons w ws =>
    refine ⟨w, ws ++ [[59]], rfl, ?_⟩
    rintro rfl
    have := (hc [125] (by rw [hp]; simp)).2
    revert this
    decide
theorem threads_K : ∀ (ls : List (List Ins)) (n : Nat), (∀ l ∈ ls, l.length < fuelP ∧ ∀ x ∈ l, okInsB x = true ∧ I64i x) → ls.length < n → ∀ (u : KT) (r : List KT), u.2 ≠ wThread →
    (tThreads n).runK ((ls.flatMap fun l => (threadW l).flatten).map kW ++ u :: r) = some (ls, u :: r)
  | _, 0, _, h, _, _, _ => absurd h (Nat.not_lt_zero _)
  | [], n + 1, _, _, u, r, hu => by
    simp only [List.flatMap_nil, List.map_nil, List.nil_append, tThreads]
    rw [take_no _ _ _ _ hu]
    rfl
  | l :: ls, n + 1, hp, hl, u, r, hu => by
    have ih := threads_K ls n (fun b hb => hp b (List.mem_cons_of_mem _ hb)) (by simp at hl; omega) u r hu
    obtain ⟨hlen, hok⟩ := hp l List.mem_cons_self
    have hm := many_K (one := tInsE) (f := insW) (p := fun x => okInsB x = true ∧ I64i x) (fun a ha u r => ins_K ha.1 ha.2 u r) (fun a ha => insW_head ha.1) l fuelP hok hlen
    have e : ((l :: ls).flatMap fun l => (threadW l).flatten).map kW ++ u :: r = kW wThread :: kW [123] :: ((l.flatMap insW).map kW ++ kW [125] :: ((ls.flatMap fun l => (threadW l).flatten).map kW ++ u :: r)) := by
      simp [threadW, wThread, List.flatMap]
    obtain ⟨v, w, hv⟩ : ∃ v w, (ls.flatMap fun l => (threadW l).flatten).map kW ++ u :: r = v :: w := by
      cases h : (ls.flatMap fun l => (threadW l).flatten).map kW with
      | nil => exact ⟨_, _, rfl⟩
      | cons v vs => exact ⟨_, _, rfl⟩
    obtain ⟨v', w', hv'⟩ : ∃ v' w', (l.flatMap insW).map kW ++ kW [125] :: ((ls.flatMap fun l => (threadW l).flatten).map kW ++ u :: r) = v' :: w' := by
      cases h : (l.flatMap insW).map kW with
      | nil => exact ⟨_, _, rfl⟩
      | cons v vs => exact ⟨_, _, rfl⟩
    rw [e, tThreads, take_K (.inr (by decide)), PT.runK_bind]
    unfold tThread
    rw [hv', PT.runK_bind, must_K (.inl (by decide))]
    simp only
    rw [← hv', hv, hm, ← hv]
    simp only [PT.runK_bind, ih]
    rfl
theorem name_K {s : List UInt8} (h : isWordB s = true) (u : KT) (r : List KT) : tWord.runK (kW s :: u :: r) = some (s, u :: r) := by
  have hk : kdOf s = 1 := by
    unfold isWordB at h
    simp only [Bool.and_eq_true, List.all_eq_true, List.mem_range, decide_eq_true_eq] at h
    cases s with
    | nil => exact absurd rfl h.2
    | cons c r =>
      have := h.1 0 (by simp)
      simp only [wordAt, List.getD_cons_zero, Bool.or_eq_true, Bool.and_eq_true, decide_eq_true_eq] at this
      have hl : letB c = true := by
        simp only [letB, Bool.and_eq_true, decide_eq_true_eq]
        rcases this with h1 | h1
        · exact h1
        · exact absurd rfl h1.1.1
      simp [kdOf, hl]
  simp [tWord, PT.runK, kW, hk]
theorem cond_K {kind : Int} {rows : List (List Atom)} (h : okCondB kind rows = true) (hv : ∀ l ∈ rows, ∀ a ∈ l, I64a a) (hn : rows.length < fuelP) (hl : ∀ l ∈ rows, l.length < fuelP) (r : List KT) :
    tCond.runK (((if kind = 0 then [] else [condW kind rows]).flatten).map kW ++ kW [125] :: r) = some ((kind, rows), kW [125] :: r) := by
  by_cases h0 : kind = 0
  · subst h0
    have : rows = [] := by
      unfold okCondB at h
      rw [if_pos rfl] at h
      simpa using h
    subst this
    simp only [if_true, List.flatten_nil, List.map_nil, List.nil_append]
    unfold tCond
    rw [take_no _ _ _ _ (by decide), take_no _ _ _ _ (by decide)]
    rfl
  · obtain ⟨hk, hne, hrows⟩ := rows_ok h0 h
    obtain ⟨l, ls, rfl⟩ := List.exists_cons_of_ne_nil hne
    have hr := rows_K l ls fuelP (fun l' hl' => ⟨(hrows l' hl').1, Nat.le_of_lt (hl l' hl'), fun a ha => ⟨(hrows l' hl').2 a ha, hv l' hl' a ha⟩⟩) (by simp at hn; omega) (kW [59]) (kW [125] :: r) (by decide) (by decide)
    have e : ((if kind = 0 then [] else [condW kind (l :: ls)]).flatten).map kW ++ kW [125] :: r = kW (askW kind) :: ((rowW l ++ ls.flatMap fun l => [124] :: rowW l).map kW ++ kW [59] :: kW [125] :: r) := by
      rw [if_neg h0]
      simp [condW, sepW_cons, List.flatMap_map]
    obtain ⟨v, w, hvw⟩ : ∃ v w, (rowW l ++ ls.flatMap fun l => [124] :: rowW l).map kW ++ kW [59] :: kW [125] :: r = v :: w := by
      obtain ⟨y, ys, hy⟩ := List.exists_cons_of_ne_nil (rowW_ne (hrows l (by simp)).1)
      rw [hy]
      exact ⟨_, _, rfl⟩
    rw [e]
    unfold tCond
    rcases hk with rfl | rfl
    · have : askW 1 = wExists := rfl
      rw [this, hvw, take_K (.inr (by decide)), ← hvw]
      unfold tAsk
      rw [PT.runK_bind, hr]
      simp only [PT.runK_bind, must_W (w := [59]) (.inl (by decide))]
      rfl
    · have : askW 2 = wForall := rfl
      rw [this, take_no _ _ _ _ (by decide), hvw, take_K (.inr (by decide)), ← hvw]
      unfold tAsk
      rw [PT.runK_bind, hr]
      simp only [PT.runK_bind, must_W (w := [59]) (.inl (by decide))]
      rfl
def wordsT (t : Test) : List (List UInt8) := (testW t).flatten
theorem head_cons (vs : List (List UInt8)) (u : KT) (r : List KT) : ∃ v w, vs.map kW ++ u :: r = v :: w := by
  cases vs with
  | nil => exact ⟨_, _, rfl⟩
  | cons v vs => exact ⟨_, _, rfl⟩
theorem first_not {P : List UInt8 → Prop} (ws : List (List UInt8)) (h : ∀ w ∈ ws.head?, P w) (u : KT) (hu : P u.2) (r : List KT) : ∃ v w, ws.map kW ++ u :: r = v :: w ∧ P v.2 := by
  cases ws with
  | nil => exact ⟨u, r, rfl, hu⟩
  | cons w ws => exact ⟨kW w, _, rfl, h w rfl⟩
set_option maxHeartbeats 1000000 in
theorem test_K {t : Test} (h : FitT t) : tTest.runK ((wordsT t).map kW ++ [endK]) = some (t, [endK]) := by
  obtain ⟨hn, hi, hx, hc⟩ := h.parts
  have k1 := threads_K t.threads fuelP (fun l hl => ⟨h.nl l hl, fun x hxl => ⟨hx l hl x hxl, h.ins l hl x hxl⟩⟩) h.nt
  have k2 := cond_K hc h.atoms h.nr h.na [endK]
  have k3 := many_K (one := tInit) (f := initW) (p := fun x => isLocB x.loc = true ∧ I64 x.value) (fun a ha u r => init_K ha.1 ha.2 u r) (fun a ha => ⟨locT a.loc, _, rfl, by
    obtain ⟨h0, h1, _, _⟩ := loc_byte ha.1
    rw [h0]
    intro e
    have e1 : UInt8.ofNat a.loc.toNat = 125 := by simpa using e
    have h2 := ha.1
    simp only [isLocB, Bool.and_eq_true, decide_eq_true_eq] at h2
    rw [e1] at h1
    have e2 : (125 : UInt8).toNat = 125 := rfl
    rw [e2] at h1
    omega⟩) t.inits fuelP (fun x hx => ⟨hi x hx, h.inits x hx⟩) h.ni
  -- the parts, from behind
  generalize hC : (if t.kind = 0 then [] else [condW t.kind t.rows]).flatten = C at k2
  generalize hT : (t.threads.flatMap fun l => (threadW l).flatten) = T at k1
  have hCh : ∀ w ∈ C.head?, w ≠ wThread ∧ w ≠ wInit := by
    rw [← hC]
    split
    · simp
    · rename_i h0
      intro w hw
      have : w = askW t.kind := by
        simp [condW] at hw
        exact hw.symm
      rw [this]
      unfold askW
      split <;> decide
  have hTh : ∀ w ∈ T.head?, w ≠ wInit := by
    rw [← hT]
    cases t.threads with
    | nil => simp
    | cons l ls =>
      intro w hw
      have : w = wThread := by
        simp [threadW, wThread] at hw
        exact hw.symm
      rw [this]
      decide
  obtain ⟨c1, cr, hcr, hc1⟩ := first_not (P := fun w => w ≠ wThread ∧ w ≠ wInit) C hCh (kW [125]) (by decide) [endK]
  have k1' : (tThreads fuelP).runK (T.map kW ++ (C.map kW ++ kW [125] :: [endK])) = some (t.threads, C.map kW ++ kW [125] :: [endK]) := by
    rw [hcr]
    exact k1 c1 cr hc1.1
  obtain ⟨d1, dr, hdr, hd1⟩ := first_not (P := fun w => w ≠ wInit) T hTh c1 hc1.2 cr
  rw [← hcr] at hdr
  have kI : (tTake wInit tInits (.ret [])).runK (((if t.inits = [] then [] else [[105, 110, 105, 116], [123]] :: (t.inits.map initW ++ [[[125]]])).flatten).map kW ++ (T.map kW ++ (C.map kW ++ kW [125] :: [endK]))) = some (t.inits, T.map kW ++ (C.map kW ++ kW [125] :: [endK])) := by
    by_cases h0 : t.inits = []
    · rw [if_pos h0, h0]
      simp only [List.flatten_nil, List.map_nil, List.nil_append]
      rw [hdr, take_no _ _ _ _ hd1]
      rfl
    · rw [if_neg h0]
      have e : (([[105, 110, 105, 116], [123]] :: (t.inits.map initW ++ [[[125]]])).flatten).map kW ++ (T.map kW ++ (C.map kW ++ kW [125] :: [endK])) = kW wInit :: kW [123] :: ((t.inits.flatMap initW).map kW ++ kW [125] :: (T.map kW ++ (C.map kW ++ kW [125] :: [endK]))) := by
        simp [wInit, List.flatMap]
      obtain ⟨e1, er, her⟩ : ∃ v w, (t.inits.flatMap initW).map kW ++ kW [125] :: (T.map kW ++ (C.map kW ++ kW [125] :: [endK])) = v :: w := by
        cases hh : (t.inits.flatMap initW).map kW with
        | nil => exact ⟨_, _, rfl⟩
        | cons v vs => exact ⟨_, _, rfl⟩
      rw [e, take_K (.inr (by decide))]
      unfold tInits
      rw [her, PT.runK_bind, must_K (.inl (by decide))]
      simp only
      rw [← her, hdr, k3]
  generalize hI : (if t.inits = [] then [] else [[105, 110, 105, 116], [123]] :: (t.inits.map initW ++ [[[125]]])).flatten = I at kI
  obtain ⟨i1, ir, hir⟩ : ∃ v w, I.map kW ++ (T.map kW ++ (C.map kW ++ kW [125] :: [endK])) = v :: w := by
    rw [hdr]
    exact head_cons I d1 dr
  have e : (wordsT t).map kW ++ [endK] = kW wTest :: kW t.name :: kW [123] :: (I.map kW ++ (T.map kW ++ (C.map kW ++ kW [125] :: [endK]))) := by
    unfold wordsT testW
    rw [← hI, ← hT, ← hC]
    simp [wTest, List.flatMap, List.flatten_append, Function.comp_def]
    rw [List.flatten_flatten, List.map_map]
    rfl
  rw [e]
  unfold tTest
  rw [PT.runK_bind, must_K (.inr (by decide))]
  simp only
  rw [PT.runK_bind, name_K hn]
  simp only
  rw [hir, PT.runK_bind, must_K (.inl (by decide))]
  simp only
  rw [← hir, PT.runK_bind, kI]
  simp only
  rw [PT.runK_bind, k1']
  simp only
  rw [PT.runK_bind, k2]
  simp only
  rw [PT.runK_bind, must_K (.inl (by decide))]
  simp only [PT.runK, endK, if_true]
end Go.Proofs.YtpfbljkfbjjlkaaDoor

/- A text of words with blanks between them is read as its words. -/
namespace Go.Proofs.YtpfbljkfbjjlkaaDoor
open Go Go.Jq
set_option maxRecDepth 100000
set_option linter.unusedSimpArgs false
def GoodTk (w : List UInt8) : Prop := (∃ c r, w = c :: r ∧ blankB c = false ∧ c ≠ 35) ∧ ∀ a, tokAt a w = (⟨kdOf w, w, a⟩, a + w.length, 0)
def Blanks (z : List UInt8) : Prop := z.all blankB = true
def laceT : List (List UInt8 × List UInt8) → List UInt8
  | [] => []
  | p :: l => p.1 ++ p.2 ++ laceT l
def GoodLace (l : List (List UInt8 × List UInt8)) : Prop := ∀ p ∈ l, GoodTk p.1 ∧ p.2 ≠ [] ∧ Blanks p.2
theorem skipN_blanks : ∀ (z l : List UInt8), Blanks z → skipN false (z ++ l) = z.length + skipN false l
  | [], l, _ => by simp
  | c :: z, l, h => by
    unfold Blanks at h
    rw [List.all_cons, Bool.and_eq_true] at h
    rw [List.cons_append, skipN, if_pos h.1, skipN_blanks z l h.2, List.length_cons]
    omega
theorem kdOf_ne {w : List UInt8} : kdOf w ≠ 4 := by
  unfold kdOf
  split
  · decide
  · split
    · decide
    · split <;> decide
theorem tl_lace : ∀ (l : List (List UInt8 × List UInt8)) (pre z : List UInt8), GoodLace l → Blanks z → ∃ toks, TL (pre ++ z ++ laceT l) pre.length toks ∧ toks.map ktT = l.map (fun p => kW p.1) ++ [endK]
  | [], pre, z, _, hz => by
    have hd : (pre ++ z ++ laceT []).drop pre.length = z := by simp [laceT]
    have hs : skipA (pre ++ z ++ laceT []) pre.length = pre.length + z.length := by
      unfold skipA
      rw [hd]
      have := skipN_blanks z [] hz
      rw [List.append_nil] at this
      rw [this]; rfl
    have hn : nextW (pre ++ z ++ laceT []) pre.length = (⟨4, [], pre.length + z.length⟩, pre.length + z.length, 0) := by
      unfold nextW
      rw [hs, List.drop_of_length_le (by simp [laceT])]
      rfl
    exact ⟨[⟨4, [], pre.length + z.length⟩], ⟨_, hn, by rw [if_pos rfl]⟩, rfl⟩
  | p :: l, pre, z, hg, hz => by
    obtain ⟨w, y⟩ := p
    obtain ⟨⟨⟨c, r, hw, hc, h35⟩, ht⟩, hy, hyb⟩ := hg _ List.mem_cons_self
    simp only at hw ht hy hyb
    obtain ⟨toks, h1, h2⟩ := tl_lace l (pre ++ z ++ w) y (fun q hq => hg q (List.mem_cons_of_mem _ hq)) hyb
    obtain ⟨x, y', rfl⟩ := List.exists_cons_of_ne_nil hy
    have hx : blankB x = true := by
      simp only [Blanks, List.all_cons, Bool.and_eq_true] at hyb
      exact hyb.1
    have hd : (pre ++ z ++ laceT ((w, x :: y') :: l)).drop pre.length = z ++ (w ++ x :: (y' ++ laceT l)) := by simp [laceT]
    have hsk : skipN false (w ++ x :: (y' ++ laceT l)) = 0 := by
      rw [hw, List.cons_append, skipN, if_neg (by rw [hc]; decide), if_neg h35]
    have hs : skipA (pre ++ z ++ laceT ((w, x :: y') :: l)) pre.length = pre.length + z.length := by
      unfold skipA
      rw [hd, skipN_blanks z _ hz, hsk]
      rfl
    have hn : nextW (pre ++ z ++ laceT ((w, x :: y') :: l)) pre.length = (⟨kdOf w, w, pre.length + z.length⟩, pre.length + z.length + w.length, 0) := by
      unfold nextW
      have hd2 : (pre ++ z ++ laceT ((w, x :: y') :: l)).drop (pre.length + z.length) = w ++ x :: (y' ++ laceT l) := by
        rw [← List.drop_drop, hd, List.drop_left]
      rw [hs, hd2]
      have := tokAt_cut hx (pre.length + z.length) (l := w) (m := w.length) (by rw [hw]; simp) (Nat.le_refl _) (.inl rfl) (y' ++ laceT l)
      rw [List.take_length] at this
      rw [this, ht]
    refine ⟨⟨kdOf w, w, pre.length + z.length⟩ :: toks, ⟨_, hn, ?_⟩, ?_⟩
    · rw [if_neg kdOf_ne]
      have e1 : pre ++ z ++ w ++ (x :: y') ++ laceT l = pre ++ z ++ laceT ((w, x :: y') :: l) := by simp [laceT]
      have e2 : (pre ++ z ++ w).length = pre.length + z.length + w.length := by simp only [List.length_append]
      rw [← e1, ← e2]
      exact h1
    · rw [List.map_cons, h2]
      rfl
theorem lace_reads {t : Test} (h : FitT t) {l : List (List UInt8 × List UInt8)} (hg : GoodLace l) (hl : l.map (·.1) = wordsT t) (hlen : (laceT l).length ≤ 4000) : pTest (laceT l) = .ok t := by
  obtain ⟨toks, h1, h2⟩ := tl_lace l [] [] hg rfl
  simp only [List.nil_append, List.length_nil] at h1
  have hk := test_K h
  have e : l.map (fun p => kW p.1) = (wordsT t).map kW := by rw [← hl, List.map_map]; rfl
  rw [e] at h2
  rw [← h2] at hk
  obtain ⟨b, l', hr, _⟩ := tTest.run_of_runK (Nat.zero_le _) h1 hk
  have hgo : goW (laceT l) 0 = .ok 0 := by
    cases toks with
    | nil => cases h1
    | cons d r =>
      obtain ⟨e, he, _⟩ := h1
      unfold goW
      rw [he]; rfl
  unfold pTest
  rw [if_neg (by omega), hgo]
  simp only [hr]
theorem tk_word {c : UInt8} {r : List UInt8} (hc : letB c = true) (hr : r.all alnB = true) : GoodTk (c :: r) := by
  refine ⟨⟨c, r, rfl, ?_, ?_⟩, fun a => ?_⟩
  · cases hb : blankB c with
    | false => rfl
    | true =>
      have := (blank_nots hb).1
      simp [alnB, hc] at this
  · rintro rfl
    revert hc
    decide
  · have h1 := runL_all r hr
    have hk : kdOf (c :: r) = 1 := by simp only [kdOf]; rw [if_pos hc]
    rw [tokAt, if_pos hc, h1, List.take_length, hk]
    simp only [List.length_cons]
    rw [Nat.add_comm 1]
theorem tk_num {n : Int} (h : I64 n) : GoodTk (Lib.itoa n) := by
  obtain ⟨c, r, h1, h2, h3⟩ := itoa_form n
  refine ⟨⟨c, r, h1, ?_, ?_⟩, fun a => ?_⟩
  · rcases h3 with h3 | ⟨rfl, _⟩
    · cases hb : blankB c with
      | false => rfl
      | true => rw [(blank_nots hb).2.1] at h3; cases h3
    · rfl
  · rintro rfl
    rcases h3 with h3 | ⟨h3, _⟩
    · revert h3; decide
    · revert h3; decide
  · have := num_tok a n [] rfl
    rw [List.append_nil] at this
    rw [this, parseW_itoa h, if_pos rfl, kd_num]
theorem tk_const {w : List UInt8} (h : w ∈ ([[123], [125], [59], [58], [61], [43], [45], [42], [38], [124], [94], [60, 60], [62, 62], [61, 61], [33, 61], [60]] : List (List UInt8))) : GoodTk w := by
  simp only [List.mem_cons, List.not_mem_nil, or_false] at h
  rcases h with rfl | rfl | rfl | rfl | rfl | rfl | rfl | rfl | rfl | rfl | rfl | rfl | rfl | rfl | rfl | rfl
  all_goals exact ⟨⟨_, _, rfl, rfl, by decide⟩, fun a => rfl⟩
end Go.Proofs.YtpfbljkfbjjlkaaDoor

/- A printed test's text as words and blanks; with more blanks it is read as it was. -/
namespace Go.Proofs.YtpfbljkfbjjlkaaDoor
open Go Go.Jq
set_option maxRecDepth 100000
set_option linter.unusedSimpArgs false
theorem tk_loc {n : Int} (h : isLocB n = true) : GoodTk (locT n) := by
  obtain ⟨h0, _, _, h3⟩ := loc_byte h
  rw [h0]
  exact tk_word h3 rfl
theorem tk_reg {n : Int} (h : isRegB n = true) : GoodTk (regT n) := by
  rw [(reg_text h).1]
  rcases reg_cases h with rfl | rfl | rfl | rfl <;> exact tk_word (by decide) (by decide)
theorem tk_opd {o : Opnd} (h : isOpB o = true) (hv : I64 o.value) : GoodTk (opT o) := by
  unfold opT
  split
  · exact tk_num hv
  · rename_i hr
    unfold isOpB at h
    simp only [Bool.or_eq_true, Bool.and_eq_true, decide_eq_true_eq] at h
    rcases h with h | h
    · exact absurd h hr
    · exact tk_reg h.1
theorem tk_sign {op : Int} (h1 : 1 ≤ op) (h2 : op ≤ 11) : GoodTk (signT op) := by
  have hm : ∀ q : Fin 12, 1 ≤ q.1 → signsT.getD q.1 [] ∈ ([[123], [125], [59], [58], [61], [43], [45], [42], [38], [124], [94], [60, 60], [62, 62], [61, 61], [33, 61], [60]] : List (List UInt8)) := by decide
  have key : ∀ q : Fin 12, 1 ≤ q.1 → GoodTk (signsT.getD q.1 []) := fun q hq => tk_const (hm q hq)
  unfold signT
  rw [if_pos ⟨h1, h2⟩]
  exact key ⟨op.toNat, by omega⟩ (by show 1 ≤ op.toNat; omega)
theorem tk_name {s : List UInt8} (h : isWordB s = true) : GoodTk s := by
  unfold isWordB at h
  simp only [Bool.and_eq_true, List.all_eq_true, List.mem_range, decide_eq_true_eq] at h
  cases s with
  | nil => exact absurd rfl h.2
  | cons c r =>
    have h0 := h.1 0 (by simp)
    simp only [wordAt, List.getD_cons_zero, Bool.or_eq_true, Bool.and_eq_true, decide_eq_true_eq] at h0
    refine tk_word ?_ (List.all_eq_true.2 fun b hb => ?_)
    · simp only [letB, Bool.and_eq_true, decide_eq_true_eq]
      rcases h0 with h1 | h1
      · exact h1
      · exact absurd rfl h1.1.1
    · obtain ⟨i, hi, rfl⟩ := List.getElem_of_mem hb
      have := h.1 (i + 1) (by simp; exact hi)
      have e : (c :: r).getD (i + 1) 0 = r[i] := by simp [hi]
      rw [e] at this
      simp only [wordAt, Bool.or_eq_true, Bool.and_eq_true, decide_eq_true_eq] at this
      simp only [alnB, letB, digB, Bool.or_eq_true, Bool.and_eq_true, decide_eq_true_eq]
      rcases this with h1 | h1
      · exact .inl h1
      · exact .inr ⟨h1.1.2, h1.2⟩
theorem tk_ins {x : Ins} (h : okInsB x = true) (hv : I64i x) : ∀ w ∈ insW x, GoodTk w := by
  have w1 : GoodTk [115, 116, 111, 114, 101] := tk_word (by decide) (by decide)
  have w2 : GoodTk [108, 111, 97, 100] := tk_word (by decide) (by decide)
  have w3 : GoodTk [102, 101, 110, 99, 101] := tk_word (by decide) (by decide)
  have w4 : GoodTk [99, 97, 115] := tk_word (by decide) (by decide)
  have w5 : GoodTk [115, 107, 105, 112] := tk_word (by decide) (by decide)
  have w6 : GoodTk [105, 102] := tk_word (by decide) (by decide)
  have w7 : GoodTk [61, 61] := tk_const (by decide)
  have w8 : GoodTk [61] := tk_const (by decide)
  have w9 : GoodTk [59] := tk_const (by decide)
  obtain ⟨_, _, v2, _, v4, v5⟩ := hv
  intro w hw
  unfold insW at hw
  rcases List.mem_append.1 hw with hw | hw
  rotate_left
  · simp only [List.mem_cons, List.not_mem_nil, or_false] at hw
    subst hw
    exact w9
  unfold okInsB at h
  unfold partsI at hw
  by_cases k1 : x.kind = 1
  · rw [if_pos k1] at h hw
    simp only [Bool.and_eq_true] at h
    have hall : ∀ w ∈ [[115, 116, 111, 114, 101], locT x.loc, opT x.a], GoodTk w := by
      simp only [List.forall_mem_cons]
      exact ⟨w1, tk_loc h.1.1, tk_opd h.1.2 v2, by simp⟩
    exact hall w hw
  rw [if_neg k1] at h hw
  by_cases k2 : x.kind = 2
  · rw [if_pos k2] at h hw
    simp only [Bool.and_eq_true] at h
    have hall : ∀ w ∈ [regT x.reg, [61], [108, 111, 97, 100], locT x.loc], GoodTk w := by
      simp only [List.forall_mem_cons]
      exact ⟨tk_reg h.1.2, w8, w2, tk_loc h.1.1, by simp⟩
    exact hall w hw
  rw [if_neg k2] at h hw
  by_cases k3 : x.kind = 3
  · rw [if_pos k3] at hw
    simp only [List.mem_cons, List.not_mem_nil, or_false] at hw
    subst hw
    exact w3
  rw [if_neg k3] at h hw
  by_cases k4 : x.kind = 4
  · rw [if_pos k4] at h hw
    simp only [Bool.and_eq_true] at h
    have hall : ∀ w ∈ [regT x.reg, [61], [99, 97, 115], locT x.loc, opT x.a, opT x.b], GoodTk w := by
      simp only [List.forall_mem_cons]
      exact ⟨tk_reg h.1.1.1.2, w8, w4, tk_loc h.1.1.1.1, tk_opd h.1.1.2 v2, tk_opd h.1.2 v4, by simp⟩
    exact hall w hw
  rw [if_neg k4] at h hw
  by_cases k5 : x.kind = 5
  · rw [if_pos k5] at h hw
    simp only [Bool.and_eq_true, decide_eq_true_eq] at h
    rcases List.mem_append.1 hw with hw | hw
    · have hall : ∀ w ∈ [regT x.reg, [61], opT x.a], GoodTk w := by
        simp only [List.forall_mem_cons]
        exact ⟨tk_reg h.1.1.1.1.1.1, w8, tk_opd h.1.1.1.1.1.2 v2, by simp⟩
      exact hall w hw
    · split at hw
      · rename_i ho
        have hall : ∀ w ∈ [signT x.op, opT x.b], GoodTk w := by
          simp only [List.forall_mem_cons]
          exact ⟨tk_sign (by omega) h.1.1.2, tk_opd h.1.1.1.1.2 v4, by simp⟩
        exact hall w hw
      · simp at hw
  rw [if_neg k5] at h hw
  by_cases k6 : x.kind = 6
  · rw [if_pos k6] at h
    simp only [Bool.and_eq_true] at h
    have hall : ∀ w ∈ [[115, 107, 105, 112], Lib.itoa x.n, [105, 102], opT x.a, [61, 61], opT x.b], GoodTk w := by
      simp only [List.forall_mem_cons]
      exact ⟨w5, tk_num v5, w6, tk_opd h.1.1.2 v2, w7, tk_opd h.1.2 v4, by simp⟩
    exact hall w hw
  · rw [if_neg k6] at h
    cases h
theorem tk_atom {a : Atom} (h : okAtomB a = true) (hv : I64a a) : ∀ w ∈ atomW a, GoodTk w := by
  have w1 : GoodTk [58] := tk_const (by decide)
  have w2 : GoodTk [61] := tk_const (by decide)
  obtain ⟨v1, _, v3⟩ := hv
  unfold atomW
  unfold okAtomB at h
  split
  · rename_i ht
    rw [if_pos ht] at h
    simp only [Bool.and_eq_true] at h
    simp only [List.cons_append, List.nil_append, List.forall_mem_cons]
    exact ⟨tk_loc h.2, w2, tk_num v3, by simp⟩
  · rename_i ht
    rw [if_neg ht] at h
    simp only [Bool.and_eq_true] at h
    simp only [List.cons_append, List.nil_append, List.forall_mem_cons]
    exact ⟨tk_num v1, w1, tk_reg h.2, w2, tk_num v3, by simp⟩
theorem tk_sep {s : List UInt8} (hs : GoodTk s) : ∀ {l : List (List (List UInt8))}, (∀ r ∈ l, ∀ w ∈ r, GoodTk w) → ∀ w ∈ sepW s l, GoodTk w
  | [], _ => by simp [sepW]
  | [r], h => by simpa [sepW] using h
  | r :: r' :: l, h => by
    intro w hw
    simp only [sepW, List.mem_append, List.mem_singleton] at hw
    rcases hw with (hw | rfl) | hw
    · exact h r (by simp) w hw
    · exact hs
    · exact tk_sep hs (fun x hx => h x (List.mem_cons_of_mem _ hx)) w hw
structure ValT (t : Test) : Prop where
  ok : okB t = true
  inits : ∀ x ∈ t.inits, I64 x.value
  ins : ∀ l ∈ t.threads, ∀ x ∈ l, I64i x
  atoms : ∀ l ∈ t.rows, ∀ a ∈ l, I64a a
theorem ValT.parts {t : Test} (h : ValT t) : isWordB t.name = true ∧ (∀ x ∈ t.inits, isLocB x.loc = true) ∧ (∀ l ∈ t.threads, ∀ x ∈ l, okInsB x = true) ∧ okCondB t.kind t.rows = true := by
  have h := h.ok
  simp only [okB, Bool.and_eq_true, Bool.not_eq_true', List.any_eq_false] at h
  refine ⟨h.1.1.1, fun x hx => ?_, fun l hl x hx => ?_, h.2⟩
  · have := h.1.1.2
    simp only [badInitB, List.any_eq_false, Bool.not_eq_true', Bool.not_eq_false] at this
    exact this x hx
  · have := h.1.2 l hl
    simp only [badThreadB, List.any_eq_true, not_exists, not_and, Bool.not_eq_true', Bool.not_eq_false] at this
    exact this x hx
theorem tk_test {t : Test} (h : ValT t) : ∀ r ∈ testW t, ∀ w ∈ r, GoodTk w := by
  obtain ⟨hn, hi, hx, hc⟩ := h.parts
  have c1 : GoodTk [123] := tk_const (by decide)
  have c2 : GoodTk [125] := tk_const (by decide)
  have c3 : GoodTk [59] := tk_const (by decide)
  have c4 : GoodTk [61] := tk_const (by decide)
  intro r hr
  unfold testW at hr
  rcases List.mem_cons.1 hr with rfl | hr
  · simp only [List.forall_mem_cons]
    exact ⟨tk_word (by decide) (by decide), tk_name hn, c1, by simp⟩
  rcases List.mem_append.1 hr with hr | hr
  rotate_left
  · simp only [List.mem_cons, List.not_mem_nil, or_false] at hr
    subst hr
    simp only [List.forall_mem_cons]
    exact ⟨c2, by simp⟩
  rcases List.mem_append.1 hr with hr | hr
  rotate_left
  · split at hr
    · cases hr
    · rename_i h0
      simp only [List.mem_cons, List.not_mem_nil, or_false] at hr
      subst hr
      obtain ⟨_, _, hrows⟩ := rows_ok h0 hc
      intro w hw
      unfold condW at hw
      rcases List.mem_append.1 hw with hw | hw
      rotate_left
      · simp only [List.mem_cons, List.not_mem_nil, or_false] at hw
        subst hw; exact c3
      rcases List.mem_append.1 hw with hw | hw
      · simp only [List.mem_cons, List.not_mem_nil, or_false] at hw
        subst hw
        unfold askW
        split <;> exact tk_word (by decide) (by decide)
      · refine tk_sep (tk_const (by decide)) ?_ w hw
        intro q hq
        obtain ⟨l, hl, rfl⟩ := List.mem_map.1 hq
        unfold rowW
        refine tk_sep (tk_const (by decide)) ?_
        intro q' hq'
        obtain ⟨a, ha, rfl⟩ := List.mem_map.1 hq'
        exact tk_atom ((hrows l hl).2 a ha) (h.atoms l hl a ha)
  rcases List.mem_append.1 hr with hr | hr
  · split at hr
    · cases hr
    · rcases List.mem_cons.1 hr with rfl | hr
      · simp only [List.forall_mem_cons]
        exact ⟨tk_word (by decide) (by decide), c1, by simp⟩
      · rcases List.mem_append.1 hr with hr | hr
        · obtain ⟨x, hxm, rfl⟩ := List.mem_map.1 hr
          unfold initW
          simp only [List.forall_mem_cons]
          exact ⟨tk_loc (hi x hxm), c4, tk_num (h.inits x hxm), c3, by simp⟩
        · simp only [List.mem_cons, List.not_mem_nil, or_false] at hr
          subst hr
          simp only [List.forall_mem_cons]
          exact ⟨c2, by simp⟩
  · obtain ⟨l, hl, hr⟩ := List.mem_flatMap.1 hr
    unfold threadW at hr
    rcases List.mem_cons.1 hr with rfl | hr
    · simp only [List.forall_mem_cons]
      exact ⟨tk_word (by decide) (by decide), c1, by simp⟩
    · rcases List.mem_append.1 hr with hr | hr
      · obtain ⟨x, hxm, rfl⟩ := List.mem_map.1 hr
        exact tk_ins (hx l hl x hxm) (h.ins l hl x hxm)
      · simp only [List.mem_cons, List.not_mem_nil, or_false] at hr
        subst hr
        simp only [List.forall_mem_cons]
        exact ⟨c2, by simp⟩
theorem lace_append : ∀ (a b : List (List UInt8 × List UInt8)), laceT (a ++ b) = laceT a ++ laceT b
  | [], b => rfl
  | p :: a, b => by simp only [List.cons_append, laceT, lace_append a b, List.append_assoc]
theorem line_lace : ∀ (r : List (List UInt8)), r ≠ [] → ∃ l, lineW r = laceT l ∧ l.map (·.1) = r ∧ ∀ p ∈ l, p.2 ≠ [] ∧ Blanks p.2
  | [], h => absurd rfl h
  | [w], _ => ⟨[(w, [10])], by simp [lineW, laceT, Lib.join_one], rfl, fun p hp => by simp at hp; subst hp; exact ⟨by simp, rfl⟩⟩
  | w :: v :: r, _ => by
    obtain ⟨l, h1, h2, h3⟩ := line_lace (v :: r) (by simp)
    refine ⟨(w, [32]) :: l, ?_, by rw [List.map_cons, h2], fun p hp => ?_⟩
    · unfold lineW at h1 ⊢
      rw [join_two]
      simp only [laceT, ← h1, List.append_assoc]
    · rcases List.mem_cons.1 hp with rfl | hp
      · exact ⟨by simp, rfl⟩
      · exact h3 p hp
theorem rows_lace : ∀ (rs : List (List (List UInt8))), (∀ r ∈ rs, r ≠ []) → ∃ l, rs.flatMap lineW = laceT l ∧ l.map (·.1) = rs.flatten ∧ ∀ p ∈ l, p.2 ≠ [] ∧ Blanks p.2
  | [], _ => ⟨[], rfl, rfl, by simp⟩
  | r :: rs, h => by
    obtain ⟨l1, a1, a2, a3⟩ := line_lace r (h r List.mem_cons_self)
    obtain ⟨l2, b1, b2, b3⟩ := rows_lace rs fun q hq => h q (List.mem_cons_of_mem _ hq)
    refine ⟨l1 ++ l2, ?_, ?_, fun p hp => ?_⟩
    · rw [List.flatMap_cons, a1, b1, lace_append]
    · rw [List.map_append, a2, b2, List.flatten_cons]
    · rcases List.mem_append.1 hp with hp | hp
      · exact a3 p hp
      · exact b3 p hp
theorem test_lace {t : Test} (h : ValT t) : ∃ l, testT t = laceT l ∧ l.map (·.1) = wordsT t ∧ GoodLace l := by
  obtain ⟨l, h1, h2, h3⟩ := rows_lace (testW t) (fun r hr => by
    obtain ⟨ws, e, rfl, _⟩ := testW_good h.ok r hr
    simp)
  refine ⟨l, by rw [testT_rows h.ok, h1], h2, fun p hp => ⟨?_, h3 p hp⟩⟩
  have hm : p.1 ∈ (testW t).flatten := by rw [← h2]; exact List.mem_map_of_mem hp
  obtain ⟨r, hr, hw⟩ := List.mem_flatten.1 hm
  exact tk_test h r hr p.1 hw
def spread (g : Nat → List UInt8) : Nat → List UInt8 → List UInt8
  | _, [] => []
  | k, c :: r => c :: ((if c = 32 then g k else []) ++ spread g (k + 1) r)
theorem spread_append (g : Nat → List UInt8) : ∀ (a b : List UInt8) (k : Nat), spread g k (a ++ b) = spread g k a ++ spread g (k + a.length) b
  | [], b, k => rfl
  | c :: a, b, k => by
    simp only [List.cons_append, spread, spread_append g a b (k + 1), List.length_cons, List.append_assoc]
    rw [show k + 1 + a.length = k + (a.length + 1) by omega]
theorem spread_word (g : Nat → List UInt8) : ∀ (w : List UInt8) (k : Nat), (∀ c ∈ w, c ≠ 32) → spread g k w = w
  | [], _, _ => rfl
  | c :: w, k, h => by
    rw [spread, if_neg (h c List.mem_cons_self), spread_word g w (k + 1) fun d hd => h d (List.mem_cons_of_mem _ hd)]
    rfl
theorem spread_blanks {g : Nat → List UInt8} (hg : ∀ k, Blanks (g k)) : ∀ (z : List UInt8) (k : Nat), Blanks z → Blanks (spread g k z)
  | [], _, _ => rfl
  | c :: z, k, h => by
    unfold Blanks at h ⊢
    rw [List.all_cons, Bool.and_eq_true] at h
    rw [spread, List.all_cons, List.all_append]
    have h1 := spread_blanks hg z (k + 1) h.2
    have h2 := hg k
    unfold Blanks at h1 h2
    rw [h.1, h1]
    split
    · rw [h2]; rfl
    · rfl
theorem spread_ne {g : Nat → List UInt8} {z : List UInt8} {k : Nat} (h : z ≠ []) : spread g k z ≠ [] := by
  cases z with
  | nil => exact absurd rfl h
  | cons c z => simp [spread]
theorem lace_spread {g : Nat → List UInt8} (hg : ∀ k, Blanks (g k)) : ∀ (l : List (List UInt8 × List UInt8)) (k : Nat), (∀ p ∈ l, ∀ c ∈ p.1, c ≠ 32) → GoodLace l → ∃ l', spread g k (laceT l) = laceT l' ∧ l'.map (·.1) = l.map (·.1) ∧ GoodLace l'
  | [], _, _, _ => ⟨[], rfl, rfl, fun p hp => by cases hp⟩
  | p :: l, k, hw, hl => by
    obtain ⟨l', h1, h2, h3⟩ := lace_spread hg l (k + p.1.length + p.2.length) (fun q hq => hw q (List.mem_cons_of_mem _ hq)) (fun q hq => hl q (List.mem_cons_of_mem _ hq))
    obtain ⟨g1, g2, g3⟩ := hl p List.mem_cons_self
    refine ⟨(p.1, spread g (k + p.1.length) p.2) :: l', ?_, by rw [List.map_cons, List.map_cons, h2], fun q hq => ?_⟩
    · simp only [laceT, spread_append, spread_word g p.1 k (hw p List.mem_cons_self)]
      rw [List.length_append, ← Nat.add_assoc, h1]
    · rcases List.mem_cons.1 hq with rfl | hq
      · exact ⟨g1, spread_ne g2, spread_blanks hg _ _ g3⟩
      · exact h3 q hq
theorem words_clean {t : Test} (h : okB t = true) : ∀ w ∈ wordsT t, ∀ c ∈ w, c ≠ 32 := by
  intro w hw
  obtain ⟨r, hr, hwr⟩ := List.mem_flatten.1 hw
  obtain ⟨ws, e, rfl, hc, he⟩ := testW_good h r hr
  rcases List.mem_append.1 hwr with hwr | hwr
  · have := (hc w hwr).2
    rw [List.all_eq_true] at this
    intro c hcw
    have := this c hcw
    rintro rfl
    revert this
    decide
  · simp only [List.mem_cons, List.not_mem_nil, or_false] at hwr
    subst hwr
    intro c hcw
    simp only [List.mem_cons, List.not_mem_nil, or_false] at hcw
    subst hcw
    rcases end_byte he with rfl | rfl | rfl <;> decide
theorem lace_len : ∀ {l : List (List UInt8 × List UInt8)}, GoodLace l → 2 * l.length ≤ (laceT l).length
  | [], _ => by simp [laceT]
  | p :: l, h => by
    have := lace_len (l := l) fun q hq => h q (List.mem_cons_of_mem _ hq)
    obtain ⟨⟨⟨c, r, hw, _⟩, _⟩, hz, _⟩ := h p List.mem_cons_self
    have h1 : 1 ≤ p.1.length := by rw [hw]; simp
    have h2 : 1 ≤ p.2.length := List.length_pos_iff.2 hz
    simp only [laceT, List.length_append, List.length_cons]
    omega
theorem flat_ge {α β : Type} {f : α → List β} (hf : ∀ a, 1 ≤ (f a).length) : ∀ l : List α, l.length ≤ (l.flatMap f).length
  | [] => by simp
  | a :: l => by
    have := flat_ge hf l
    have := hf a
    simp only [List.flatMap_cons, List.length_append, List.length_cons]
    omega
theorem flat_mem {α β : Type} {f : α → List β} {a : α} : ∀ {l : List α}, a ∈ l → (f a).length ≤ (l.flatMap f).length
  | b :: l, h => by
    simp only [List.flatMap_cons, List.length_append]
    rcases List.mem_cons.1 h with rfl | h
    · omega
    · have := flat_mem (f := f) h
      omega
theorem sep_ge (s : List UInt8) : ∀ (l : List (List (List UInt8))), (∀ r ∈ l, 1 ≤ r.length) → l.length ≤ (sepW s l).length ∧ ∀ r ∈ l, r.length ≤ (sepW s l).length
  | [], _ => by simp [sepW]
  | [r], h => by simpa [sepW] using h
  | r :: r' :: l, h => by
    obtain ⟨h1, h2⟩ := sep_ge s (r' :: l) fun x hx => h x (List.mem_cons_of_mem _ hx)
    have hr := h r (by simp)
    simp only [sepW, List.length_append, List.length_cons, List.length_nil] at h1 ⊢
    refine ⟨by omega, fun x hx => ?_⟩
    rcases List.mem_cons.1 hx with rfl | hx
    · omega
    · have := h2 x hx
      omega
theorem insW_ge (x : Ins) : 1 ≤ (insW x).length := by simp [insW]
theorem initW_ge (x : Init) : 1 ≤ (initW x).length := by simp [initW]
theorem atomW_ge (a : Atom) : 1 ≤ (atomW a).length := by simp [atomW]
theorem words_ge {t : Test} (h : okB t = true) : t.inits.length ≤ (wordsT t).length ∧ t.threads.length ≤ (wordsT t).length ∧ (∀ l ∈ t.threads, l.length ≤ (wordsT t).length) ∧ t.rows.length ≤ (wordsT t).length ∧ ∀ l ∈ t.rows, l.length ≤ (wordsT t).length := by
  have hc : okCondB t.kind t.rows = true := by
    simp only [okB, Bool.and_eq_true] at h
    exact h.2
  have e : (wordsT t).length = 3 + ((if t.inits = [] then [] else [[105, 110, 105, 116], [123]] :: (t.inits.map initW ++ [[[125]]])).flatten).length + (t.threads.flatMap fun l => (threadW l).flatten).length + ((if t.kind = 0 then [] else [condW t.kind t.rows]).flatten).length + 1 := by
    unfold wordsT testW
    simp only [List.flatten_cons, List.flatten_append, List.length_append, List.length_cons, List.length_nil, List.flatten_nil, List.flatMap]
    rw [List.flatten_flatten, List.map_map]
    simp only [Function.comp_def]
    omega
  have h1 : t.inits.length ≤ ((if t.inits = [] then [] else [[105, 110, 105, 116], [123]] :: (t.inits.map initW ++ [[[125]]])).flatten).length := by
    split
    · rename_i h0; rw [h0]; simp
    · have := flat_ge initW_ge t.inits
      simp only [List.flatMap] at this
      simp only [List.flatten_cons, List.flatten_append, List.length_append]
      omega
  have hth : ∀ l : List Ins, l.length ≤ ((threadW l).flatten).length ∧ 1 ≤ ((threadW l).flatten).length := by
    intro l
    have := flat_ge insW_ge l
    simp only [List.flatMap] at this
    unfold threadW
    simp only [List.flatten_cons, List.flatten_append, List.length_append, List.length_cons, List.length_nil]
    omega
  have h2 := flat_ge (f := fun l => (threadW l).flatten) (fun l => (hth l).2) t.threads
  have h3 : ∀ l ∈ t.threads, l.length ≤ (t.threads.flatMap fun l => (threadW l).flatten).length := fun l hl => Nat.le_trans (hth l).1 (flat_mem (f := fun l => (threadW l).flatten) hl)
  have h4 : t.rows.length ≤ ((if t.kind = 0 then [] else [condW t.kind t.rows]).flatten).length ∧ ∀ l ∈ t.rows, l.length ≤ ((if t.kind = 0 then [] else [condW t.kind t.rows]).flatten).length := by
    by_cases h0 : t.kind = 0
    · unfold okCondB at hc
      rw [if_pos h0] at hc
      have : t.rows = [] := List.eq_nil_of_length_eq_zero (of_decide_eq_true hc)
      rw [this]
      simp
    · obtain ⟨_, _, hrows⟩ := rows_ok h0 hc
      rw [if_neg h0]
      have hrow : ∀ l ∈ t.rows, l.length ≤ (rowW l).length ∧ 1 ≤ (rowW l).length := by
        intro l hl
        have := (sep_ge [38] (l.map atomW) fun r hr => by
          obtain ⟨a, _, rfl⟩ := List.mem_map.1 hr
          exact atomW_ge a).1
        rw [List.length_map] at this
        have h0 : 1 ≤ l.length := List.length_pos_iff.2 (hrows l hl).1
        unfold rowW
        omega
      obtain ⟨s1, s2⟩ := sep_ge [124] (t.rows.map rowW) fun r hr => by
        obtain ⟨l, hl, rfl⟩ := List.mem_map.1 hr
        exact (hrow l hl).2
      rw [List.length_map] at s1
      unfold condW
      simp only [List.flatten_cons, List.flatten_nil, List.append_nil, List.length_append, List.length_cons, List.length_nil]
      refine ⟨by omega, fun l hl => ?_⟩
      have := s2 _ (List.mem_map_of_mem hl)
      have := (hrow l hl).1
      omega
  refine ⟨by omega, by omega, fun l hl => ?_, by omega, fun l hl => ?_⟩
  · have := h3 l hl; omega
  · have := h4.2 l hl; omega
theorem ValT.fit {t : Test} (h : ValT t) (hl : (testT t).length ≤ 8000) : FitT t := by
  obtain ⟨l, h1, h2, h3⟩ := test_lace h
  have h4 := lace_len h3
  rw [← h1] at h4
  have h5 : l.length = (wordsT t).length := by rw [← h2, List.length_map]
  obtain ⟨w1, w2, w3, w4, w5⟩ := words_ge h.ok
  exact ⟨h.ok, h.inits, h.ins, h.atoms, by unfold fuelP; omega, by unfold fuelP; omega, fun l hl => by have := w3 l hl; unfold fuelP; omega, by unfold fuelP; omega, fun l hl => by have := w5 l hl; unfold fuelP; omega⟩
theorem spread_reads {t : Test} (h : ValT t) {g : Nat → List UInt8} (hg : ∀ k, Blanks (g k)) (hl : (testT t).length ≤ 8000) (hq : (spread g 0 (testT t)).length ≤ 4000) : pTest (spread g 0 (testT t)) = .ok t := by
  obtain ⟨l, h1, h2, h3⟩ := test_lace h
  obtain ⟨l', a1, a2, a3⟩ := lace_spread hg l 0 (fun p hp => words_clean h.ok p.1 (by rw [← h2]; exact List.mem_map_of_mem hp)) h3
  rw [h1, a1] at hq ⊢
  exact lace_reads (h.fit hl) a3 (by rw [a2, h2]) hq
end Go.Proofs.YtpfbljkfbjjlkaaDoor

/- Which parts of a test may be, by the document's answer, told without a heap. -/
namespace Go.Proofs.YtpfbljkfbjjlkaaDoor
open Go Go.Jq
set_option maxRecDepth 100000
set_option linter.unusedSimpArgs false
theorem refLetter_pure (c : Int) : Pure Tryd.prog 41 [.d (.int .u8 c)] (.d (.bool (decide (97 ≤ c) && decide (c ≤ 122)))) := by
  refine acalls_of Tryd.func41 ac41_ok Tryd.ntmps41 Tryd.results41 rfl ?_
  unfold ac41
  refine bwp_seq fun K hK => bwp_region rfl ?_
  simp only [go_sem, ↓reduceIte, Nat.reduceEqDiff, Nat.reduceAdd]
  refine hK _ ?_; clear hK
  by_cases h : 97 ≤ c
  · refine bwp_seq fun K hK => bwp_region rfl ?_
    simp only [go_sem, ↓reduceIte, Nat.reduceEqDiff, Nat.reduceAdd, h]
    refine hK _ ?_; clear hK
    refine bwp_ret ?_
    simp only [go_sem]
    refine aend_ret _ rfl rfl ⟨?_, rfl⟩
    simp [fget, h]
  · refine bwp_seq fun K hK => bwp_region rfl ?_
    simp only [go_sem, ↓reduceIte, Nat.reduceEqDiff, Nat.reduceAdd, h]
    refine hK _ ?_; clear hK
    refine bwp_ret ?_
    simp only [go_sem]
    refine aend_ret _ rfl rfl ⟨?_, rfl⟩
    simp [fget, h]
theorem refDigit_pure (c : Int) : Pure Tryd.prog 42 [.d (.int .u8 c)] (.d (.bool (decide (48 ≤ c) && decide (c ≤ 57)))) := by
  refine acalls_of Tryd.func42 ac42_ok Tryd.ntmps42 Tryd.results42 rfl ?_
  unfold ac42
  refine bwp_seq fun K hK => bwp_region rfl ?_
  simp only [go_sem, ↓reduceIte, Nat.reduceEqDiff, Nat.reduceAdd]
  refine hK _ ?_; clear hK
  by_cases h : 48 ≤ c
  · refine bwp_seq fun K hK => bwp_region rfl ?_
    simp only [go_sem, ↓reduceIte, Nat.reduceEqDiff, Nat.reduceAdd, h]
    refine hK _ ?_; clear hK
    refine bwp_ret ?_
    simp only [go_sem]
    refine aend_ret _ rfl rfl ⟨?_, rfl⟩
    simp [fget, h]
  · refine bwp_seq fun K hK => bwp_region rfl ?_
    simp only [go_sem, ↓reduceIte, Nat.reduceEqDiff, Nat.reduceAdd, h]
    refine hK _ ?_; clear hK
    refine bwp_ret ?_
    simp only [go_sem]
    refine aend_ret _ rfl rfl ⟨?_, rfl⟩
    simp [fget, h]
theorem refNamed_pure (n : Int) : Pure Tryd.prog 82 [.d (.int .i64 n)] (.d (.bool (isLocB n))) := by
  refine acalls_of Tryd.func82 ac82_ok Tryd.ntmps82 Tryd.results82 rfl ?_
  unfold ac82
  refine bwp_seq fun K hK => bwp_region rfl ?_
  simp only [go_sem, ↓reduceIte, Nat.reduceEqDiff, Nat.reduceAdd]
  refine hK _ ?_; clear hK
  by_cases h : 97 ≤ n
  · refine bwp_seq fun K hK => bwp_region rfl ?_
    simp only [go_sem, ↓reduceIte, Nat.reduceEqDiff, Nat.reduceAdd, h]
    refine hK _ ?_; clear hK
    refine bwp_ret ?_
    simp only [go_sem]
    refine aend_ret _ rfl rfl ⟨?_, rfl⟩
    simp [fget, isLocB, h]
  · refine bwp_seq fun K hK => bwp_region rfl ?_
    simp only [go_sem, ↓reduceIte, Nat.reduceEqDiff, Nat.reduceAdd, h]
    refine hK _ ?_; clear hK
    refine bwp_ret ?_
    simp only [go_sem]
    refine aend_ret _ rfl rfl ⟨?_, rfl⟩
    simp [fget, isLocB, h]
theorem refOpd_pure (o : Opnd) : Pure Tryd.prog 96 [.agg (o.cells.map .d)] (.d (.bool (isOpB o))) := by
  refine acalls_of Tryd.func96 ac96_ok Tryd.ntmps96 Tryd.results96 rfl ?_
  unfold ac96
  refine bwp_seq fun K hK => bwp_region rfl ?_
  simp only [go_sem, ↓reduceIte, Nat.reduceEqDiff, Nat.reduceAdd, Opnd.cells]
  refine hK _ ?_; clear hK
  by_cases h : o.reg = -1
  · refine bwp_seq fun K hK => bwp_region rfl ?_
    simp only [go_sem, ↓reduceIte, Nat.reduceEqDiff, Nat.reduceAdd, h]
    refine hK _ ?_; clear hK
    refine bwp_ret ?_
    simp only [go_sem]
    refine aend_ret _ rfl rfl ⟨?_, rfl⟩
    simp [fget, isOpB, h]
  by_cases h2 : 0 ≤ o.reg
  case neg =>
    refine bwp_seq fun K hK => bwp_region rfl ?_
    simp only [go_sem, ↓reduceIte, Nat.reduceEqDiff, Nat.reduceAdd, h, h2]
    refine hK _ ?_; clear hK
    refine bwp_ret ?_
    simp only [go_sem]
    refine aend_ret _ rfl rfl ⟨?_, rfl⟩
    simp [fget, isOpB, isRegB, h, h2]
  by_cases h3 : o.reg ≤ 3
  case neg =>
    refine bwp_seq fun K hK => bwp_region rfl ?_
    simp only [go_sem, ↓reduceIte, Nat.reduceEqDiff, Nat.reduceAdd, h, h2, h3]
    refine hK _ ?_; clear hK
    refine bwp_ret ?_
    simp only [go_sem]
    refine aend_ret _ rfl rfl ⟨?_, rfl⟩
    have : ¬ o.reg < 4 := by omega
    simp [fget, isOpB, isRegB, h, h2, this]
  refine bwp_seq fun K hK => bwp_region rfl ?_
  simp only [go_sem, ↓reduceIte, Nat.reduceEqDiff, Nat.reduceAdd, h, h2, h3]
  refine hK _ ?_; clear hK
  refine bwp_ret ?_
  simp only [go_sem]
  refine aend_ret _ rfl rfl ⟨?_, rfl⟩
  have : o.reg < 4 := by omega
  simp [fget, isOpB, isRegB, h, h2, this]
theorem wordAt_eq (i : Nat) (c : UInt8) : (!(decide (97 ≤ (c.toNat : Int)) && decide ((c.toNat : Int) ≤ 122)) && !(decide (0 < i) && (decide (48 ≤ (c.toNat : Int)) && decide ((c.toNat : Int) ≤ 57)))) = !wordAt i c := by
  unfold wordAt
  have e1 : decide (97 ≤ (c.toNat : Int)) = decide (97 ≤ c.toNat) := by rw [decide_eq_decide]; omega
  have e2 : decide ((c.toNat : Int) ≤ 122) = decide (c.toNat ≤ 122) := by rw [decide_eq_decide]; omega
  have e3 : decide (48 ≤ (c.toNat : Int)) = decide (48 ≤ c.toNat) := by rw [decide_eq_decide]; omega
  have e4 : decide ((c.toNat : Int) ≤ 57) = decide (c.toNat ≤ 57) := by rw [decide_eq_decide]; omega
  have e5 : decide (0 < i) = decide (i ≠ 0) := by rw [decide_eq_decide]; omega
  rw [e1, e2, e3, e4, e5]
  cases decide (97 ≤ c.toNat) <;> cases decide (c.toNat ≤ 122) <;> cases decide (48 ≤ c.toNat) <;> cases decide (c.toNat ≤ 57) <;> cases decide (i ≠ 0) <;> rfl
def rwS (s : List UInt8) (i : Nat) : St := ⟨[(3, .d (.int .i64 i)), (0, .d (.str s)), (2, .d (.bool false))], [], 0⟩
theorem refWord_pure (s : List UInt8) (hs : s.length ≤ 9223372036854775807) : Pure Tryd.prog 80 [.d (.str s)] (.d (.bool (isWordB s))) := by
  refine acalls_of Tryd.func80 ac80_ok Tryd.ntmps80 Tryd.results80 rfl ?_
  unfold ac80
  refine bwp_seq fun K hK => bwp_region rfl ?_
  simp only [go_sem, ↓reduceIte, Nat.reduceEqDiff, Nat.reduceAdd]
  refine hK _ ?_; clear hK
  refine bwp_seq fun K1 hK1 => ?_
  refine bwp_seq fun K2 hK2 => ?_
  refine bwp_region rfl ?_
  simp only [go_sem, ↓reduceIte, Nat.reduceEqDiff, Nat.reduceAdd]
  refine hK2 _ ?_; clear hK2
  refine bwp_block ?_
  refine bwp_leads (S' := rwS s 0) (Leads.ent [] ⟨by simp [entT, fget, AV.ren, renL, pget, rwS], by simp [entM, pinv, mget, mset, renL, AV.ren, pget, renL_append, -List.map_map, rwS], rfl, rfl⟩) ?_
  refine bwp_countI (fun i => rwS s i) (fun i => ∀ j, j < i → wordAt j (s.getD j 0) = true) s.length (fun j h => by omega) ?_
  intro i hi hp
  unfold ac80L0 rwS
  refine bwp_seq fun K2 hK2 => ?_
  by_cases hlt : i < s.length
  · have hlt' : (i : Int) < s.length := by omega
    refine bwp_seq fun K hK => bwp_region rfl ?_
    simp only [go_sem, ↓reduceIte, Nat.reduceEqDiff, Nat.reduceAdd, hlt']
    refine hK _ ?_; clear hK
    refine bwp_cond true (by simp [ev, fget]) (fun _ => ?_) (fun h => nomatch h)
    refine bwp_skip ?_
    refine hK2 _ ?_; clear hK2
    refine bwp_seq fun K2 hK2 => ?_
    refine bwp_block ?_
    have hwe := wordAt_eq i (s.getD i 0)
    generalize hcd : s.getD i 0 = c at hwe
    refine bwp_seq fun K hK => bwp_region rfl ?_
    have fin : ∀ (t : Fr) (b : Bool), fget t 25 = .d (.bool b) → b = !wordAt i c → fget t 0 = .d (.str s) → fget t 2 = .d (.bool false) → fget t 3 = .d (.int .i64 i) → K ⟨t, [], 0⟩ := by
      intro t b h25 hb h0 h2 h3
      refine hK _ ?_; clear hK
      cases b
      · have hw : wordAt i c = true := by
          cases h : wordAt i c
          · rw [h] at hb; cases hb
          · rfl
        refine bwp_cond false (by simp [ev, fget, h25]) (fun h => nomatch h) (fun _ => ?_)
        refine bwp_skip ?_
        simp only [go_sem, ↓reduceIte, Nat.reduceEqDiff, Nat.reduceAdd]
        refine hK2 _ ?_; clear hK2
        have hwi : IntKind.i64.wrap ((i : Int) + 1) = ((i + 1 : Nat) : Int) := by rw [wrap_i64 (by omega) (by omega)]; rfl
        refine bwp_region rfl ?_
        simp only [go_sem, ↓reduceIte, Nat.reduceEqDiff, Nat.reduceAdd, h3, hwi]
        refine ⟨hlt, fun j hj => ?_, Leads.ent [] ⟨by simp [rwS, entT, fget, AV.ren, pget, h0, h2], by simp [rwS, entM], rfl, rfl⟩⟩
        by_cases hji : j = i
        · subst hji; rw [hcd]; exact hw
        · exact hp j (by omega)
      · have hw : wordAt i c = false := by
          cases h : wordAt i c
          · rfl
          · rw [h] at hb; cases hb
        refine bwp_cond true (by simp [ev, fget, h25]) (fun _ => ?_) (fun h => nomatch h)
        refine bwp_seq fun K hK => bwp_region rfl ?_
        simp only [go_sem, ↓reduceIte, Nat.reduceEqDiff, Nat.reduceAdd]
        refine hK _ ?_; clear hK
        refine bwp_ret ?_
        simp only [go_sem]
        refine aend_ret _ rfl rfl ⟨?_, rfl⟩
        simp [fget, isWord_at s hlt (by rw [hcd]; exact hw)]
    clear hK
    simp only [go_sem, ↓reduceIte, Nat.reduceEqDiff, Nat.reduceAdd, Int.natCast_nonneg, hlt', Int.toNat_natCast, hcd]
    refine callK_pure (refLetter_pure (c.toNat : Int)) rfl rfl ?_
    simp only [go_sem, ↓reduceIte, Nat.reduceEqDiff, Nat.reduceAdd]
    cases h1 : decide (97 ≤ (c.toNat : Int)) && decide ((c.toNat : Int) ≤ 122)
    · by_cases h2 : 0 < i
      · have h2' : (0 : Int) < (i : Int) := by omega
        simp only [go_sem, ↓reduceIte, Nat.reduceEqDiff, Nat.reduceAdd, h2', Int.natCast_nonneg, hlt', Int.toNat_natCast, hcd]
        refine callK_pure (refDigit_pure (c.toNat : Int)) rfl rfl ?_
        simp only [go_sem, ↓reduceIte, Nat.reduceEqDiff, Nat.reduceAdd]
        exact fin _ _ rfl (by rw [← hwe, h1]; simp [h2]) rfl rfl rfl
      · have h2' : ¬ (0 : Int) < (i : Int) := by omega
        simp only [go_sem, ↓reduceIte, Nat.reduceEqDiff, Nat.reduceAdd, h2']
        exact fin _ true rfl (by rw [← hwe, h1]; simp [h2]) rfl rfl rfl
    · simp only [go_sem, ↓reduceIte, Nat.reduceEqDiff, Nat.reduceAdd]
      exact fin _ false rfl (by rw [← hwe, h1]; simp) rfl rfl rfl
  · have hlt' : ¬ (i : Int) < s.length := by omega
    refine bwp_seq fun K hK => bwp_region rfl ?_
    simp only [go_sem, ↓reduceIte, Nat.reduceEqDiff, Nat.reduceAdd, hlt']
    refine hK _ ?_; clear hK
    refine bwp_cond false (by simp [ev, fget]) (fun h => nomatch h) (fun _ => ?_)
    refine bwp_exit ?_
    simp only [go_sem, ↓reduceIte, Nat.reduceEqDiff, Nat.reduceAdd]
    refine hK1 _ ?_; clear hK1
    have hall := isWord_all s fun j hj => hp j (by omega)
    refine bwp_seq fun K hK => bwp_region rfl ?_
    simp only [go_sem, ↓reduceIte, Nat.reduceEqDiff, Nat.reduceAdd]
    refine hK _ ?_; clear hK
    refine bwp_ret ?_
    simp only [go_sem]
    refine aend_ret _ rfl rfl ⟨?_, rfl⟩
    simp [fget, hall]
def refInsB (x : Ins) : Bool :=
  if x.kind = 1 then decide (x.reg = 0) && isLocB x.loc && isOpB x.a && decide (x.op = 0) && (decide (x.b.reg = 0) && (decide (x.b.value = 0) && true)) && decide (x.n = 0)
  else if x.kind = 2 then decide (0 ≤ x.reg) && decide (x.reg ≤ 3) && isLocB x.loc && (decide (x.a.reg = 0) && (decide (x.a.value = 0) && true)) && decide (x.op = 0) && (decide (x.b.reg = 0) && (decide (x.b.value = 0) && true)) && decide (x.n = 0)
  else if x.kind = 3 then eqIns x ⟨3, 0, 0, ⟨0, 0⟩, 0, ⟨0, 0⟩, 0⟩
  else if x.kind = 4 then decide (0 ≤ x.reg) && decide (x.reg ≤ 3) && isLocB x.loc && isOpB x.a && decide (x.op = 0) && isOpB x.b && decide (x.n = 0)
  else if x.kind = 5 then !(decide (x.op = 0) && !(decide (x.b.reg = -1) && (decide (x.b.value = 0) && true))) && (decide (0 ≤ x.reg) && decide (x.reg ≤ 3) && decide (x.loc = 0) && isOpB x.a && decide (0 ≤ x.op) && decide (x.op ≤ 11) && isOpB x.b && decide (x.n = 0))
  else if x.kind = 6 then decide (x.reg = 0) && decide (x.loc = 0) && isOpB x.a && decide (x.op = 0) && isOpB x.b && decide (0 ≤ x.n)
  else false
set_option maxHeartbeats 4000000 in
theorem refIns_pure (x : Ins) : Pure Tryd.prog 83 [.agg (x.cells.map .d)] (.d (.bool (refInsB x))) := by
  refine acalls_of Tryd.func83 ac83_ok Tryd.ntmps83 Tryd.results83 rfl ?_
  unfold ac83
  refine bwp_seq fun K hK => bwp_region rfl ?_
  simp only [go_sem, ↓reduceIte, Nat.reduceEqDiff, Nat.reduceAdd, Ins.cells]
  refine hK _ ?_; clear hK
  refine bwp_seq fun K hK => bwp_region rfl ?_
  simp only [go_sem, ↓reduceIte, Nat.reduceEqDiff, Nat.reduceAdd]
  refine hK _ ?_; clear hK
  refine bwp_seq fun K1 hK1 => ?_
  refine bwp_seq fun K hK => bwp_region rfl ?_
  simp only [go_sem, ↓reduceIte, Nat.reduceEqDiff, Nat.reduceAdd]
  refine hK _ ?_; clear hK
  refine bwp_block ?_
  refine bwp_seq fun K hK => bwp_region rfl ?_
  simp only [go_sem, ↓reduceIte, Nat.reduceEqDiff, Nat.reduceAdd]
  refine hK _ ?_; clear hK
  by_cases k1 : x.kind = 1
  case pos =>
    refine bwp_cond true (by simp [ev, fget, k1]) (fun _ => ?_) (fun h => nomatch h)
    refine bwp_seq fun K hK => bwp_region rfl ?_
    have fin : ∀ (t : Fr) (m : Mem) (n : Nat) (b : Bool), fget t 2 = .d (.bool b) → b = refInsB x → K ⟨t, m, n⟩ := by
      intro t m n b h2 hb
      refine hK _ ?_; clear hK
      refine bwp_ret ?_
      simp only [go_sem]
      exact aend_ret (.d (.bool b)) (by simp [resA, resVs, resV, h2]) rfl ⟨by rw [hb], rfl⟩
    clear hK
    simp only [go_sem, ↓reduceIte, Nat.reduceEqDiff, Nat.reduceAdd]
    repeat' (first
      | (refine gateK_split (fun hb => ?_) (fun hb => ?_) <;> simp only [go_sem, ↓reduceIte, Nat.reduceEqDiff, Nat.reduceAdd, hb])
      | (refine dGateK_split (fun hb => ?_) (fun hb => ?_) <;> simp only [go_sem, ↓reduceIte, Nat.reduceEqDiff, Nat.reduceAdd, hb])
      | (refine callK_pure (refNamed_pure x.loc) rfl rfl ?_; simp only [go_sem, ↓reduceIte, Nat.reduceEqDiff, Nat.reduceAdd])
      | (refine dCallK_pure (refNamed_pure x.loc) rfl rfl ?_; simp only [go_sem, ↓reduceIte, Nat.reduceEqDiff, Nat.reduceAdd])
      | (refine callK_pure (refOpd_pure x.a) rfl rfl ?_; simp only [go_sem, ↓reduceIte, Nat.reduceEqDiff, Nat.reduceAdd])
      | (refine dCallK_pure (refOpd_pure x.a) rfl rfl ?_; simp only [go_sem, ↓reduceIte, Nat.reduceEqDiff, Nat.reduceAdd])
      | (refine callK_pure (refOpd_pure x.b) rfl rfl ?_; simp only [go_sem, ↓reduceIte, Nat.reduceEqDiff, Nat.reduceAdd])
      | (refine dCallK_pure (refOpd_pure x.b) rfl rfl ?_; simp only [go_sem, ↓reduceIte, Nat.reduceEqDiff, Nat.reduceAdd])
      | (rw [if_pos (by (try simp only [List.length_append, List.length_cons, List.length_nil, List.length_map]); omega)]; simp only [go_sem, ↓reduceIte, Nat.reduceEqDiff, Nat.reduceAdd]))
    all_goals exact fin _ _ _ _ rfl (by clear fin hK1; simp_all [refInsB, eqIns] <;> (intros; omega))
  refine bwp_cond false (by simp [ev, fget, k1]) (fun h => nomatch h) (fun _ => ?_)
  refine bwp_seq fun K hK => bwp_region rfl ?_
  simp only [go_sem, ↓reduceIte, Nat.reduceEqDiff, Nat.reduceAdd]
  refine hK _ ?_; clear hK
  by_cases k2 : x.kind = 2
  case pos =>
    refine bwp_cond true (by simp [ev, fget, k2]) (fun _ => ?_) (fun h => nomatch h)
    refine bwp_seq fun K hK => bwp_region rfl ?_
    have fin : ∀ (t : Fr) (m : Mem) (n : Nat) (b : Bool), fget t 2 = .d (.bool b) → b = refInsB x → K ⟨t, m, n⟩ := by
      intro t m n b h2 hb
      refine hK _ ?_; clear hK
      refine bwp_ret ?_
      simp only [go_sem]
      exact aend_ret (.d (.bool b)) (by simp [resA, resVs, resV, h2]) rfl ⟨by rw [hb], rfl⟩
    clear hK
    simp only [go_sem, ↓reduceIte, Nat.reduceEqDiff, Nat.reduceAdd]
    repeat' (first
      | (refine gateK_split (fun hb => ?_) (fun hb => ?_) <;> simp only [go_sem, ↓reduceIte, Nat.reduceEqDiff, Nat.reduceAdd, hb])
      | (refine dGateK_split (fun hb => ?_) (fun hb => ?_) <;> simp only [go_sem, ↓reduceIte, Nat.reduceEqDiff, Nat.reduceAdd, hb])
      | (refine callK_pure (refNamed_pure x.loc) rfl rfl ?_; simp only [go_sem, ↓reduceIte, Nat.reduceEqDiff, Nat.reduceAdd])
      | (refine dCallK_pure (refNamed_pure x.loc) rfl rfl ?_; simp only [go_sem, ↓reduceIte, Nat.reduceEqDiff, Nat.reduceAdd])
      | (refine callK_pure (refOpd_pure x.a) rfl rfl ?_; simp only [go_sem, ↓reduceIte, Nat.reduceEqDiff, Nat.reduceAdd])
      | (refine dCallK_pure (refOpd_pure x.a) rfl rfl ?_; simp only [go_sem, ↓reduceIte, Nat.reduceEqDiff, Nat.reduceAdd])
      | (refine callK_pure (refOpd_pure x.b) rfl rfl ?_; simp only [go_sem, ↓reduceIte, Nat.reduceEqDiff, Nat.reduceAdd])
      | (refine dCallK_pure (refOpd_pure x.b) rfl rfl ?_; simp only [go_sem, ↓reduceIte, Nat.reduceEqDiff, Nat.reduceAdd])
      | (rw [if_pos (by (try simp only [List.length_append, List.length_cons, List.length_nil, List.length_map]); omega)]; simp only [go_sem, ↓reduceIte, Nat.reduceEqDiff, Nat.reduceAdd]))
    all_goals exact fin _ _ _ _ rfl (by clear fin hK1; simp_all [refInsB, eqIns] <;> (intros; omega))
  refine bwp_cond false (by simp [ev, fget, k2]) (fun h => nomatch h) (fun _ => ?_)
  refine bwp_seq fun K hK => bwp_region rfl ?_
  simp only [go_sem, ↓reduceIte, Nat.reduceEqDiff, Nat.reduceAdd]
  refine hK _ ?_; clear hK
  by_cases k3 : x.kind = 3
  case pos =>
    refine bwp_cond true (by simp [ev, fget, k3]) (fun _ => ?_) (fun h => nomatch h)
    refine bwp_seq fun K hK => bwp_region rfl ?_
    have fin : ∀ (t : Fr) (m : Mem) (n : Nat) (b : Bool), fget t 2 = .d (.bool b) → b = refInsB x → K ⟨t, m, n⟩ := by
      intro t m n b h2 hb
      refine hK _ ?_; clear hK
      refine bwp_ret ?_
      simp only [go_sem]
      exact aend_ret (.d (.bool b)) (by simp [resA, resVs, resV, h2]) rfl ⟨by rw [hb], rfl⟩
    clear hK
    simp only [go_sem, ↓reduceIte, Nat.reduceEqDiff, Nat.reduceAdd]
    repeat' (first
      | (refine gateK_split (fun hb => ?_) (fun hb => ?_) <;> simp only [go_sem, ↓reduceIte, Nat.reduceEqDiff, Nat.reduceAdd, hb])
      | (refine dGateK_split (fun hb => ?_) (fun hb => ?_) <;> simp only [go_sem, ↓reduceIte, Nat.reduceEqDiff, Nat.reduceAdd, hb])
      | (refine callK_pure (refNamed_pure x.loc) rfl rfl ?_; simp only [go_sem, ↓reduceIte, Nat.reduceEqDiff, Nat.reduceAdd])
      | (refine dCallK_pure (refNamed_pure x.loc) rfl rfl ?_; simp only [go_sem, ↓reduceIte, Nat.reduceEqDiff, Nat.reduceAdd])
      | (refine callK_pure (refOpd_pure x.a) rfl rfl ?_; simp only [go_sem, ↓reduceIte, Nat.reduceEqDiff, Nat.reduceAdd])
      | (refine dCallK_pure (refOpd_pure x.a) rfl rfl ?_; simp only [go_sem, ↓reduceIte, Nat.reduceEqDiff, Nat.reduceAdd])
      | (refine callK_pure (refOpd_pure x.b) rfl rfl ?_; simp only [go_sem, ↓reduceIte, Nat.reduceEqDiff, Nat.reduceAdd])
      | (refine dCallK_pure (refOpd_pure x.b) rfl rfl ?_; simp only [go_sem, ↓reduceIte, Nat.reduceEqDiff, Nat.reduceAdd])
      | (rw [if_pos (by (try simp only [List.length_append, List.length_cons, List.length_nil, List.length_map]); omega)]; simp only [go_sem, ↓reduceIte, Nat.reduceEqDiff, Nat.reduceAdd]))
    all_goals exact fin _ _ _ _ rfl (by clear fin hK1; simp_all [refInsB, eqIns] <;> (intros; omega))
  refine bwp_cond false (by simp [ev, fget, k3]) (fun h => nomatch h) (fun _ => ?_)
  refine bwp_seq fun K hK => bwp_region rfl ?_
  simp only [go_sem, ↓reduceIte, Nat.reduceEqDiff, Nat.reduceAdd]
  refine hK _ ?_; clear hK
  by_cases k4 : x.kind = 4
  case pos =>
    refine bwp_cond true (by simp [ev, fget, k4]) (fun _ => ?_) (fun h => nomatch h)
    refine bwp_seq fun K hK => bwp_region rfl ?_
    have fin : ∀ (t : Fr) (m : Mem) (n : Nat) (b : Bool), fget t 2 = .d (.bool b) → b = refInsB x → K ⟨t, m, n⟩ := by
      intro t m n b h2 hb
      refine hK _ ?_; clear hK
      refine bwp_ret ?_
      simp only [go_sem]
      exact aend_ret (.d (.bool b)) (by simp [resA, resVs, resV, h2]) rfl ⟨by rw [hb], rfl⟩
    clear hK
    simp only [go_sem, ↓reduceIte, Nat.reduceEqDiff, Nat.reduceAdd]
    repeat' (first
      | (refine gateK_split (fun hb => ?_) (fun hb => ?_) <;> simp only [go_sem, ↓reduceIte, Nat.reduceEqDiff, Nat.reduceAdd, hb])
      | (refine dGateK_split (fun hb => ?_) (fun hb => ?_) <;> simp only [go_sem, ↓reduceIte, Nat.reduceEqDiff, Nat.reduceAdd, hb])
      | (refine callK_pure (refNamed_pure x.loc) rfl rfl ?_; simp only [go_sem, ↓reduceIte, Nat.reduceEqDiff, Nat.reduceAdd])
      | (refine dCallK_pure (refNamed_pure x.loc) rfl rfl ?_; simp only [go_sem, ↓reduceIte, Nat.reduceEqDiff, Nat.reduceAdd])
      | (refine callK_pure (refOpd_pure x.a) rfl rfl ?_; simp only [go_sem, ↓reduceIte, Nat.reduceEqDiff, Nat.reduceAdd])
      | (refine dCallK_pure (refOpd_pure x.a) rfl rfl ?_; simp only [go_sem, ↓reduceIte, Nat.reduceEqDiff, Nat.reduceAdd])
      | (refine callK_pure (refOpd_pure x.b) rfl rfl ?_; simp only [go_sem, ↓reduceIte, Nat.reduceEqDiff, Nat.reduceAdd])
      | (refine dCallK_pure (refOpd_pure x.b) rfl rfl ?_; simp only [go_sem, ↓reduceIte, Nat.reduceEqDiff, Nat.reduceAdd])
      | (rw [if_pos (by (try simp only [List.length_append, List.length_cons, List.length_nil, List.length_map]); omega)]; simp only [go_sem, ↓reduceIte, Nat.reduceEqDiff, Nat.reduceAdd]))
    all_goals exact fin _ _ _ _ rfl (by clear fin hK1; simp_all [refInsB, eqIns] <;> (intros; omega))
  refine bwp_cond false (by simp [ev, fget, k4]) (fun h => nomatch h) (fun _ => ?_)
  refine bwp_seq fun K hK => bwp_region rfl ?_
  simp only [go_sem, ↓reduceIte, Nat.reduceEqDiff, Nat.reduceAdd]
  refine hK _ ?_; clear hK
  by_cases k5 : x.kind = 5
  case pos =>
    refine bwp_cond true (by simp [ev, fget, k5]) (fun _ => ?_) (fun h => nomatch h)
    refine bwp_seq fun K2 hK2 => ?_
    refine bwp_seq fun K hK => bwp_region rfl ?_
    have rest : ∀ (t : Fr) (b : Bool), fget t 125 = .d (.bool b) → b = (decide (x.op = 0) && !(decide (x.b.reg = -1) && (decide (x.b.value = 0) && true))) → fget t 1 = .ptr 0 0 → K ⟨t, [(0, (Ins.cells x).map .d), (1, [.d (.int .i64 0), .d (.int .i64 0)])], 2⟩ := by
      intro t b h125 hb h1
      refine hK _ ?_; clear hK
      cases b
      · refine bwp_cond false (by simp [ev, fget, h125]) (fun h => nomatch h) (fun _ => ?_)
        refine bwp_skip ?_
        simp only [go_sem, ↓reduceIte, Nat.reduceEqDiff, Nat.reduceAdd]
        refine hK2 _ ?_; clear hK2
        refine bwp_seq fun K hK => bwp_region rfl ?_
        have fin : ∀ (t : Fr) (m : Mem) (n : Nat) (b : Bool), fget t 2 = .d (.bool b) → b = refInsB x → K ⟨t, m, n⟩ := by
          intro t m n b h2 hb
          refine hK _ ?_; clear hK
          refine bwp_ret ?_
          simp only [go_sem]
          exact aend_ret (.d (.bool b)) (by simp [resA, resVs, resV, h2]) rfl ⟨by rw [hb], rfl⟩
        clear hK
        have hb0 := hb.symm
        simp only [go_sem, ↓reduceIte, Nat.reduceEqDiff, Nat.reduceAdd, h1, Ins.cells]
        repeat' (first
          | (refine gateK_split (fun hb => ?_) (fun hb => ?_) <;> simp only [go_sem, ↓reduceIte, Nat.reduceEqDiff, Nat.reduceAdd, hb, h1])
          | (refine dGateK_split (fun hb => ?_) (fun hb => ?_) <;> simp only [go_sem, ↓reduceIte, Nat.reduceEqDiff, Nat.reduceAdd, hb, h1])
          | (refine callK_pure (refOpd_pure x.a) rfl rfl ?_; simp only [go_sem, ↓reduceIte, Nat.reduceEqDiff, Nat.reduceAdd, h1])
          | (refine dCallK_pure (refOpd_pure x.a) rfl rfl ?_; simp only [go_sem, ↓reduceIte, Nat.reduceEqDiff, Nat.reduceAdd, h1])
          | (refine callK_pure (refOpd_pure x.b) rfl rfl ?_; simp only [go_sem, ↓reduceIte, Nat.reduceEqDiff, Nat.reduceAdd, h1])
          | (refine dCallK_pure (refOpd_pure x.b) rfl rfl ?_; simp only [go_sem, ↓reduceIte, Nat.reduceEqDiff, Nat.reduceAdd, h1])
          | (rw [if_pos (by (try simp only [List.length_append, List.length_cons, List.length_nil, List.length_map]); omega)]; simp only [go_sem, ↓reduceIte, Nat.reduceEqDiff, Nat.reduceAdd, h1]))
        all_goals exact fin _ _ _ _ rfl (by clear fin hK1; simp only [refInsB, k5, hb0]; simp_all <;> (intros; omega))
      · refine bwp_cond true (by simp [ev, fget, h125]) (fun _ => ?_) (fun h => nomatch h)
        refine bwp_seq fun K hK => bwp_region rfl ?_
        simp only [go_sem, ↓reduceIte, Nat.reduceEqDiff, Nat.reduceAdd]
        refine hK _ ?_; clear hK
        refine bwp_ret ?_
        simp only [go_sem]
        exact aend_ret (.d (.bool false)) rfl rfl ⟨by simp only [refInsB, k5, ← hb]; simp, rfl⟩
    clear hK
    simp only [go_sem, ↓reduceIte, Nat.reduceEqDiff, Nat.reduceAdd]
    repeat' (first
      | (refine gateK_split (fun hb => ?_) (fun hb => ?_) <;> simp only [go_sem, ↓reduceIte, Nat.reduceEqDiff, Nat.reduceAdd, hb])
      | (refine dGateK_split (fun hb => ?_) (fun hb => ?_) <;> simp only [go_sem, ↓reduceIte, Nat.reduceEqDiff, Nat.reduceAdd, hb])
      | (rw [if_pos (by (try simp only [List.length_append, List.length_cons, List.length_nil, List.length_map]); omega)]; simp only [go_sem, ↓reduceIte, Nat.reduceEqDiff, Nat.reduceAdd]))
    all_goals exact rest _ _ rfl (by clear rest hK1 hK2; simp_all) rfl
  refine bwp_cond false (by simp [ev, fget, k5]) (fun h => nomatch h) (fun _ => ?_)
  refine bwp_seq fun K hK => bwp_region rfl ?_
  simp only [go_sem, ↓reduceIte, Nat.reduceEqDiff, Nat.reduceAdd]
  refine hK _ ?_; clear hK
  by_cases k6 : x.kind = 6
  case pos =>
    refine bwp_cond true (by simp [ev, fget, k6]) (fun _ => ?_) (fun h => nomatch h)
    refine bwp_seq fun K hK => bwp_region rfl ?_
    have fin : ∀ (t : Fr) (m : Mem) (n : Nat) (b : Bool), fget t 2 = .d (.bool b) → b = refInsB x → K ⟨t, m, n⟩ := by
      intro t m n b h2 hb
      refine hK _ ?_; clear hK
      refine bwp_ret ?_
      simp only [go_sem]
      exact aend_ret (.d (.bool b)) (by simp [resA, resVs, resV, h2]) rfl ⟨by rw [hb], rfl⟩
    clear hK
    simp only [go_sem, ↓reduceIte, Nat.reduceEqDiff, Nat.reduceAdd]
    repeat' (first
      | (refine gateK_split (fun hb => ?_) (fun hb => ?_) <;> simp only [go_sem, ↓reduceIte, Nat.reduceEqDiff, Nat.reduceAdd, hb])
      | (refine dGateK_split (fun hb => ?_) (fun hb => ?_) <;> simp only [go_sem, ↓reduceIte, Nat.reduceEqDiff, Nat.reduceAdd, hb])
      | (refine callK_pure (refNamed_pure x.loc) rfl rfl ?_; simp only [go_sem, ↓reduceIte, Nat.reduceEqDiff, Nat.reduceAdd])
      | (refine dCallK_pure (refNamed_pure x.loc) rfl rfl ?_; simp only [go_sem, ↓reduceIte, Nat.reduceEqDiff, Nat.reduceAdd])
      | (refine callK_pure (refOpd_pure x.a) rfl rfl ?_; simp only [go_sem, ↓reduceIte, Nat.reduceEqDiff, Nat.reduceAdd])
      | (refine dCallK_pure (refOpd_pure x.a) rfl rfl ?_; simp only [go_sem, ↓reduceIte, Nat.reduceEqDiff, Nat.reduceAdd])
      | (refine callK_pure (refOpd_pure x.b) rfl rfl ?_; simp only [go_sem, ↓reduceIte, Nat.reduceEqDiff, Nat.reduceAdd])
      | (refine dCallK_pure (refOpd_pure x.b) rfl rfl ?_; simp only [go_sem, ↓reduceIte, Nat.reduceEqDiff, Nat.reduceAdd])
      | (rw [if_pos (by (try simp only [List.length_append, List.length_cons, List.length_nil, List.length_map]); omega)]; simp only [go_sem, ↓reduceIte, Nat.reduceEqDiff, Nat.reduceAdd]))
    all_goals exact fin _ _ _ _ rfl (by clear fin hK1; simp_all [refInsB, eqIns] <;> (intros; omega))
  refine bwp_cond false (by simp [ev, fget, k6]) (fun h => nomatch h) (fun _ => ?_)
  refine bwp_skip ?_
  simp only [go_sem, ↓reduceIte, Nat.reduceEqDiff, Nat.reduceAdd]
  refine hK1 _ ?_; clear hK1
  refine bwp_seq fun K hK => bwp_region rfl ?_
  simp only [go_sem, ↓reduceIte, Nat.reduceEqDiff, Nat.reduceAdd]
  refine hK _ ?_; clear hK
  refine bwp_ret ?_
  simp only [go_sem]
  refine aend_ret _ rfl rfl ⟨?_, rfl⟩
  simp [fget, refInsB, k1, k2, k3, k4, k5, k6]
end Go.Proofs.YtpfbljkfbjjlkaaDoor

/- Which conditions and tests may be, by the document's answer, told without a heap. -/
namespace Go.Proofs.YtpfbljkfbjjlkaaDoor
open Go Go.Jq
set_option maxRecDepth 100000
set_option linter.unusedSimpArgs false
def refAtomMem (a : Atom) : Bool := decide (a.thread = -1) && decide (a.reg = 0) && isLocB a.loc
def refAtomOwn (a : Atom) : Bool := decide (0 ≤ a.thread) && decide (a.thread ≤ 9) && decide (0 ≤ a.reg) && decide (a.reg ≤ 3) && decide (a.loc = 0)
theorem refAtom_eq (a : Atom) : (!refAtomMem a && !refAtomOwn a) = !okAtomB a := by
  unfold refAtomMem refAtomOwn okAtomB isRegB
  by_cases h : a.thread = -1
  · have h1 : ¬ 0 ≤ a.thread := by omega
    simp [h]
  · have e : decide (a.reg ≤ 3) = decide (a.reg < 4) := by rw [decide_eq_decide]; omega
    simp only [h, decide_false, Bool.false_and, Bool.not_false, Bool.true_and, if_false, e]
    cases decide (0 ≤ a.thread) <;> cases decide (a.thread ≤ 9) <;> cases decide (0 ≤ a.reg) <;> cases decide (a.reg < 4) <;> cases decide (a.loc = 0) <;> rfl
def rcS (cs : List DV) (ex : Fr) : St := ⟨ex ++ [(1, .dptr cs), (2, .d (.bool false))], [], 0⟩
theorem refRow {rows : List (List Atom)} {A : DV} (hA : IsSl2 Atom.cells rows A) {kind : Int} {j : Nat} (hj : j < rows.length) {Q : Exit → St → Prop}
    (hbad : (rows[j].any fun a => !okAtomB a) = true → ∀ S, fget S.t 2 = .d (.bool false) → Q .ret S) (hgood : (rows[j].any fun a => !okAtomB a) = false → Q (.exit 2) (rcS [.int .i64 kind, A] [(3, .d (.int .i64 j))])) :
    BWP Tryd.prog (mbound []) 103 (.loop ac81L0) (rcS [.int .i64 kind, A] [(4, .d (.int .i64 (0 : Nat))), (3, .d (.int .i64 j))]) Q := by
  obtain ⟨cs2, d, rest2, hTe, hd, hjc, hD⟩ := hA.at j hj
  have hjl : (j : Int) < rows.length := by omega
  generalize rows[j] = l at hD hbad hgood
  have hbig := hD.1
  have hlen' := hD.len
  refine bwp_countI (fun k => rcS [.int .i64 kind, A] [(4, .d (.int .i64 (k : Nat))), (3, .d (.int .i64 j))]) (fun k => ∀ a ∈ l.take k, okAtomB a = true) l.length (by simp) ?_
  intro k hk hp
  unfold ac81L0 rcS
  refine bwp_seq fun K1 hK1 => ?_
  by_cases hlt : k < l.length
  · have hlt' : (k : Int) < l.length := by omega
    obtain ⟨cs, rest, hIe, hdrop, hcs⟩ := hD.at atom_len (by omega) k hlt
    have hw : IntKind.i64.wrap ((k : Int) + 1) = ((k + 1 : Nat) : Int) := by rw [wrap_i64 (by omega) (by omega)]; rfl
    have hl4 : ∀ (n : Nat), (4 ≤ (n + 1 + 1 + 1 + 1)) = True := fun n => by simp
    have hmem : l[k] ∈ l := List.getElem_mem hlt
    have htk := take_snoc l k hlt
    generalize l[k] = a at *
    have hae := refAtom_eq a
    refine bwp_seq fun K hK => bwp_region rfl ?_
    simp only [go_sem, ↓reduceIte, Nat.reduceEqDiff, Nat.reduceAdd, hTe, hjl, Int.natCast_nonneg, Int.toNat_natCast, Nat.mul_one, hjc, hd, hlen', hlt']
    refine hK _ ?_; clear hK
    refine bwp_cond true (by simp [ev, fget]) (fun _ => ?_) (fun h => nomatch h)
    refine bwp_skip ?_
    refine hK1 _ ?_; clear hK1
    refine bwp_seq fun K1 hK1 => ?_
    refine bwp_block ?_
    refine bwp_seq fun K hK => bwp_region rfl ?_
    simp only [go_sem, ↓reduceIte, Nat.reduceEqDiff, Nat.reduceAdd, hTe, hjl, Nat.mul_one, hjc, hd, hIe, hlt', Int.natCast_nonneg, Int.toNat_natCast, hcs, hdrop, Atom.cells, hl4]
    refine hK _ ?_; clear hK
    refine bwp_seq fun K hK => bwp_region rfl ?_
    have fin : ∀ t : Fr, fget t 6 = .d (.bool (refAtomMem a)) → fget t 5 = .ptr 0 0 → fget t 1 = .dptr [.int .i64 kind, A] → fget t 2 = .d (.bool false) → fget t 3 = .d (.int .i64 j) → fget t 4 = .d (.int .i64 k) → K ⟨t, [(0, [.d (.int .i64 a.thread), .d (.int .i64 a.reg), .d (.int .i64 a.loc), .d (.int .i64 a.value)])], 1⟩ := by
      intro t h6 h5 h1 h2 h3 h4
      refine hK _ ?_; clear hK
      refine bwp_seq fun K hK => bwp_region rfl ?_
      have fin2 : ∀ t : Fr, fget t 6 = .d (.bool (refAtomMem a)) → fget t 7 = .d (.bool (refAtomOwn a)) → fget t 1 = .dptr [.int .i64 kind, A] → fget t 2 = .d (.bool false) → fget t 3 = .d (.int .i64 j) → fget t 4 = .d (.int .i64 k) → K ⟨t, [(0, [.d (.int .i64 a.thread), .d (.int .i64 a.reg), .d (.int .i64 a.loc), .d (.int .i64 a.value)])], 1⟩ := by
        intro t h6 h7 h1 h2 h3 h4
        refine hK _ ?_; clear hK
        refine bwp_seq fun K hK => bwp_region rfl ?_
        have fin3 : ∀ (t : Fr) (b : Bool), fget t 102 = .d (.bool b) → b = !okAtomB a → fget t 1 = .dptr [.int .i64 kind, A] → fget t 2 = .d (.bool false) → fget t 3 = .d (.int .i64 j) → fget t 4 = .d (.int .i64 k) → K ⟨t, [(0, [.d (.int .i64 a.thread), .d (.int .i64 a.reg), .d (.int .i64 a.loc), .d (.int .i64 a.value)])], 1⟩ := by
          intro t b h102 hb h1 h2 h3 h4
          refine hK _ ?_; clear hK
          cases hok : okAtomB a
          · rw [hok] at hb
            subst hb
            refine bwp_cond true (by simp [ev, fget, h102]) (fun _ => ?_) (fun h => nomatch h)
            refine bwp_seq fun K hK => bwp_region rfl ?_
            simp only [go_sem, ↓reduceIte, Nat.reduceEqDiff, Nat.reduceAdd]
            refine hK _ ?_; clear hK
            refine bwp_ret ?_
            simp only [go_sem, ↓reduceIte, Nat.reduceEqDiff, Nat.reduceAdd]
            exact hbad (List.any_eq_true.2 ⟨a, hmem, by simp [hok]⟩) _ rfl
          · rw [hok] at hb
            subst hb
            refine bwp_cond false (by simp [ev, fget, h102]) (fun h => nomatch h) (fun _ => ?_)
            refine bwp_skip ?_
            simp only [go_sem, ↓reduceIte, Nat.reduceEqDiff, Nat.reduceAdd]
            refine hK1 _ ?_; clear hK1
            refine bwp_region rfl ?_
            simp only [go_sem, ↓reduceIte, Nat.reduceEqDiff, Nat.reduceAdd, h4, hw]
            refine ⟨hlt, ?_, Leads.ent [] ⟨by simp [entT, fget, AV.ren, pget, h1, h2, h3], by simp [entM], rfl, rfl⟩⟩
            intro b hb
            rw [htk, List.mem_append] at hb
            rcases hb with hb | hb
            · exact hp b hb
            · simp only [List.mem_singleton] at hb; rw [hb]; exact hok
        clear hK
        cases g1 : refAtomMem a
        · rw [g1] at h6 hae
          cases g2 : refAtomOwn a
          · rw [g2] at h7 hae
            simp only [go_sem, ↓reduceIte, Nat.reduceEqDiff, Nat.reduceAdd, h6, h7]
            exact fin3 _ true rfl (by rw [← hae]; rfl) h1 h2 h3 h4
          · rw [g2] at h7 hae
            simp only [go_sem, ↓reduceIte, Nat.reduceEqDiff, Nat.reduceAdd, h6, h7]
            exact fin3 _ false rfl (by rw [← hae]; rfl) h1 h2 h3 h4
        · rw [g1] at h6 hae
          simp only [go_sem, ↓reduceIte, Nat.reduceEqDiff, Nat.reduceAdd, h6]
          exact fin3 _ false rfl (by rw [← hae]; simp) h1 h2 h3 h4
      clear hK
      simp only [go_sem, ↓reduceIte, Nat.reduceEqDiff, Nat.reduceAdd, h5]
      repeat' (first
        | (refine gateK_split (fun hb => ?_) (fun hb => ?_) <;> simp only [go_sem, ↓reduceIte, Nat.reduceEqDiff, Nat.reduceAdd, hb, h5])
        | (refine dGateK_split (fun hb => ?_) (fun hb => ?_) <;> simp only [go_sem, ↓reduceIte, Nat.reduceEqDiff, Nat.reduceAdd, hb, h5])
        | (rw [if_pos (by (try simp only [List.length_append, List.length_cons, List.length_nil, List.length_map]); omega)]; simp only [go_sem, ↓reduceIte, Nat.reduceEqDiff, Nat.reduceAdd, h5]))
      all_goals exact fin2 _ (by simp [fget, h6]) (by simp [fget, refAtomOwn, *]) (by simp [fget, h1]) (by simp [fget, h2]) (by simp [fget, h3]) (by simp [fget, h4])
    clear hK
    simp only [go_sem, ↓reduceIte, Nat.reduceEqDiff, Nat.reduceAdd]
    repeat' (first
      | (refine gateK_split (fun hb => ?_) (fun hb => ?_) <;> simp only [go_sem, ↓reduceIte, Nat.reduceEqDiff, Nat.reduceAdd, hb])
      | (refine dGateK_split (fun hb => ?_) (fun hb => ?_) <;> simp only [go_sem, ↓reduceIte, Nat.reduceEqDiff, Nat.reduceAdd, hb])
      | (refine callK_pure (refNamed_pure a.loc) rfl rfl ?_; simp only [go_sem, ↓reduceIte, Nat.reduceEqDiff, Nat.reduceAdd])
      | (refine dCallK_pure (refNamed_pure a.loc) rfl rfl ?_; simp only [go_sem, ↓reduceIte, Nat.reduceEqDiff, Nat.reduceAdd])
      | (rw [if_pos (by (try simp only [List.length_append, List.length_cons, List.length_nil, List.length_map]); omega)]; simp only [go_sem, ↓reduceIte, Nat.reduceEqDiff, Nat.reduceAdd]))
    all_goals exact fin _ (by simp [fget, refAtomMem, *]) rfl (by simp [fget, hTe]) rfl rfl rfl
  · have hlt' : ¬ (k : Int) < l.length := by omega
    have hin : k = l.length := by omega
    subst hin
    rw [List.take_of_length_le (Nat.le_refl _)] at hp
    refine bwp_seq fun K hK => bwp_region rfl ?_
    simp only [go_sem, ↓reduceIte, Nat.reduceEqDiff, Nat.reduceAdd, hTe, hjl, Int.natCast_nonneg, Int.toNat_natCast, Nat.mul_one, hjc, hd, hlen', hlt']
    refine hK _ ?_; clear hK
    refine bwp_cond false (by simp [ev, fget]) (fun h => nomatch h) (fun _ => ?_)
    refine bwp_leads (S' := rcS [.int .i64 kind, A] [(3, .d (.int .i64 j))]) (Leads.ent [] ⟨by simp [entT, fget, AV.ren, renL, pget, rcS, hTe], by simp [entM, pinv, mget, mset, renL, AV.ren, pget, renL_append, -List.map_map, rcS, hTe], rfl, rfl⟩) ?_
    refine bwp_exit (hgood ?_)
    rw [List.any_eq_false]
    intro a ha
    rw [hp a ha]; decide
end Go.Proofs.YtpfbljkfbjjlkaaDoor

/- Which conditions and tests may be, by the document's answer: the wholes. -/
namespace Go.Proofs.YtpfbljkfbjjlkaaDoor
open Go Go.Jq
set_option maxRecDepth 100000
set_option linter.unusedSimpArgs false
theorem refIns_eq (x : Ins) : refInsB x = okInsB x := by
  rw [Bool.eq_iff_iff]
  unfold refInsB okInsB eqIns isRegB
  by_cases k1 : x.kind = 1
  · simp [k1]; constructor <;> intro h <;> simp_all
  by_cases k2 : x.kind = 2
  · simp [k2]; constructor <;> intro h <;> (simp_all; try omega)
  by_cases k3 : x.kind = 3
  · simp [k3]
  by_cases k4 : x.kind = 4
  · simp [k4]; constructor <;> intro h <;> (simp_all; try omega)
  by_cases k5 : x.kind = 5
  · simp [k5]; constructor <;> intro h <;> (simp_all; try omega)
  by_cases k6 : x.kind = 6
  · simp [k6]; constructor <;> intro h <;> simp_all
  simp [k1, k2, k3, k4, k5, k6]
theorem refRows {rows : List (List Atom)} {A : DV} (hA : IsSl2 Atom.cells rows A) {kind : Int} {Q : Exit → St → Prop}
    (hbad : rows.any badRowB = true → ∀ S, fget S.t 2 = .d (.bool false) → Q .ret S) (hgood : rows.any badRowB = false → ∀ S, Q (.exit 0) S) :
    BWP Tryd.prog (mbound []) 103 (.loop ac81L1) (rcS [.int .i64 kind, A] [(3, .d (.int .i64 (0 : Nat)))]) Q := by
  have hbig := hA.big
  have hlen' := hA.len
  refine bwp_countI (fun j => rcS [.int .i64 kind, A] [(3, .d (.int .i64 (j : Nat)))]) (fun j => ∀ l ∈ rows.take j, badRowB l = false) rows.length (by simp) ?_
  intro j hj hp
  unfold ac81L1
  refine bwp_seq fun K1 hK1 => ?_
  by_cases hlt : j < rows.length
  · have hlt' : (j : Int) < rows.length := by omega
    obtain ⟨cs2, d, rest2, hTe, hd, hjc, hD⟩ := hA.at j hlt
    have hdl := hD.len
    have hw : IntKind.i64.wrap ((j : Int) + 1) = ((j + 1 : Nat) : Int) := by rw [wrap_i64 (by omega) (by omega)]; rfl
    have hmem : rows[j] ∈ rows := List.getElem_mem hlt
    have htk := take_snoc rows j hlt
    have hrow := @refRow rows A hA kind j hlt
    unfold rcS
    refine bwp_seq fun K hK => bwp_region rfl ?_
    simp only [go_sem, ↓reduceIte, Nat.reduceEqDiff, Nat.reduceAdd, hlen', hlt']
    refine hK _ ?_; clear hK
    refine bwp_cond true (by simp [ev, fget]) (fun _ => ?_) (fun h => nomatch h)
    refine bwp_skip ?_
    refine hK1 _ ?_; clear hK1
    refine bwp_seq fun K1 hK1 => ?_
    refine bwp_block ?_
    refine bwp_seq fun K2 hK2 => ?_
    refine bwp_seq fun K hK => bwp_region rfl ?_
    simp only [go_sem, ↓reduceIte, Nat.reduceEqDiff, Nat.reduceAdd, hTe, hlt', Int.natCast_nonneg, Int.toNat_natCast, Nat.mul_one, hjc, hd, hdl]
    refine hK _ ?_; clear hK
    by_cases h0 : rows[j].length = 0
    · have h0' : (rows[j].length : Int) = 0 := by omega
      refine bwp_cond true (by simp [ev, fget, h0]) (fun _ => ?_) (fun h => nomatch h)
      refine bwp_seq fun K hK => bwp_region rfl ?_
      simp only [go_sem, ↓reduceIte, Nat.reduceEqDiff, Nat.reduceAdd]
      refine hK _ ?_; clear hK
      refine bwp_ret ?_
      simp only [go_sem, ↓reduceIte, Nat.reduceEqDiff, Nat.reduceAdd]
      exact hbad (List.any_eq_true.2 ⟨_, hmem, by simp [badRowB, h0]⟩) _ rfl
    · have h0' : ¬ (rows[j].length : Int) = 0 := by omega
      have hne : ¬ rows[j] = [] := fun h => h0 (by rw [h]; rfl)
      refine bwp_cond false (by simp [ev, fget, hne]) (fun h => nomatch h) (fun _ => ?_)
      refine bwp_skip ?_
      simp only [go_sem, ↓reduceIte, Nat.reduceEqDiff, Nat.reduceAdd]
      refine hK2 _ ?_; clear hK2
      refine bwp_seq fun K hK => bwp_region rfl ?_
      simp only [go_sem, ↓reduceIte, Nat.reduceEqDiff, Nat.reduceAdd]
      refine hK _ ?_; clear hK
      refine bwp_block ?_
      refine bwp_leads (S' := rcS [.int .i64 kind, A] [(4, .d (.int .i64 (0 : Nat))), (3, .d (.int .i64 j))]) (Leads.ent [] ⟨by simp [entT, fget, AV.ren, renL, pget, rcS, hTe], by simp [entM, pinv, mget, mset, renL, AV.ren, pget, renL_append, -List.map_map, rcS, hTe], rfl, rfl⟩) ?_
      refine hrow ?_ ?_
      · intro hb S hS
        simp only [go_sem, ↓reduceIte, Nat.reduceEqDiff, Nat.reduceAdd]
        exact hbad (List.any_eq_true.2 ⟨_, hmem, by simp [badRowB, hb]⟩) _ hS
      · intro hb
        unfold rcS
        simp only [go_sem, ↓reduceIte, Nat.reduceEqDiff, Nat.reduceAdd]
        refine hK1 _ ?_; clear hK1
        refine bwp_region rfl ?_
        simp only [go_sem, ↓reduceIte, Nat.reduceEqDiff, Nat.reduceAdd, hw]
        refine ⟨hlt, ?_, Leads.ent [] ⟨by simp [rcS, entT, fget, AV.ren, pget], by simp [rcS, entM], rfl, rfl⟩⟩
        intro l hl
        rw [htk, List.mem_append] at hl
        rcases hl with hl | hl
        · exact hp l hl
        · simp only [List.mem_singleton] at hl
          subst hl
          simp [badRowB, hb, h0]
  · have hlt' : ¬ (j : Int) < rows.length := by omega
    have hin : j = rows.length := by omega
    subst hin
    rw [List.take_of_length_le (Nat.le_refl _)] at hp
    unfold rcS
    refine bwp_seq fun K hK => bwp_region rfl ?_
    simp only [go_sem, ↓reduceIte, Nat.reduceEqDiff, Nat.reduceAdd, hlen', hlt']
    refine hK _ ?_; clear hK
    refine bwp_cond false (by simp [ev, fget]) (fun h => nomatch h) (fun _ => ?_)
    refine bwp_exit (hgood ?_ _)
    rw [List.any_eq_false]
    intro l hl
    rw [hp l hl]; decide
theorem refCond_pure {rows : List (List Atom)} {A : DV} (hA : IsSl2 Atom.cells rows A) (kind : Int) : Pure Tryd.prog 81 [.agg [.d (.int .i64 kind), .d A]] (.d (.bool (okCondB kind rows))) := by
  have hAl := hA.len
  refine acalls_of Tryd.func81 ac81_ok Tryd.ntmps81 Tryd.results81 rfl ?_
  unfold ac81
  refine bwp_seq fun K hK => bwp_region rfl ?_
  simp only [go_sem, ↓reduceIte, Nat.reduceEqDiff, Nat.reduceAdd]
  refine hK _ ?_; clear hK
  refine bwp_leads (S' := ⟨[(1, .dptr [.int .i64 kind, A]), (2, .d (.bool false))], [], 0⟩) (Leads.frz [] [(0, [.int .i64 kind, A])] ⟨?_, ?_, rfl, rfl, ?_⟩) ?_
  · simp [frzT, fget, AV.cv, cvL, zget, pget]
  · simp [frzM, pinv, zget, mget, cvL, AV.cv]
  · simp [zokFrom, mget, cvL, AV.cv]
  refine bwp_seq fun K1 hK1 => ?_
  refine bwp_seq fun K hK => bwp_region rfl ?_
  simp only [go_sem, ↓reduceIte, Nat.reduceEqDiff, Nat.reduceAdd]
  refine hK _ ?_; clear hK
  by_cases k0 : kind = 0
  · refine bwp_cond true (by simp [ev, fget, k0]) (fun _ => ?_) (fun h => nomatch h)
    refine bwp_seq fun K hK => bwp_region rfl ?_
    simp only [go_sem, ↓reduceIte, Nat.reduceEqDiff, Nat.reduceAdd, hAl]
    refine hK _ ?_; clear hK
    refine bwp_ret ?_
    simp only [go_sem]
    refine aend_ret _ rfl rfl ⟨?_, rfl⟩
    have : ((rows.length : Int) = 0) = (rows.length = 0) := by apply propext; omega
    simp [fget, okCondB, k0]
  refine bwp_cond false (by simp [ev, fget, k0]) (fun h => nomatch h) (fun _ => ?_)
  refine bwp_skip ?_
  refine hK1 _ ?_; clear hK1
  refine bwp_seq fun K1 hK1 => ?_
  refine bwp_seq fun K hK => bwp_region rfl ?_
  have hle : decide ((rows.length : Int) = 0) = decide (rows.length = 0) := by rw [decide_eq_decide]; omega
  have rest : ∀ (t : Fr) (b : Bool), fget t 28 = .d (.bool b) → fget t 1 = .dptr [.int .i64 kind, A] → fget t 2 = .d (.bool false) → b = (decide (kind < 0) || decide (2 < kind) || decide (rows.length = 0)) → K ⟨t, [], 0⟩ := by
    intro t b h28 h1 h2 hb
    refine hK _ ?_; clear hK
    cases b
    · refine bwp_cond false (by simp [ev, fget, h28]) (fun h => nomatch h) (fun _ => ?_)
      refine bwp_skip ?_
      simp only [go_sem, ↓reduceIte, Nat.reduceEqDiff, Nat.reduceAdd]
      refine hK1 _ ?_; clear hK1
      refine bwp_seq fun K2 hK2 => ?_
      refine bwp_seq fun K3 hK3 => ?_
      refine bwp_region rfl ?_
      simp only [go_sem, ↓reduceIte, Nat.reduceEqDiff, Nat.reduceAdd]
      refine hK3 _ ?_; clear hK3
      refine bwp_block ?_
      have hsplit := hb.symm
      simp only [Bool.or_eq_false_iff, decide_eq_false_iff_not] at hsplit
      obtain ⟨⟨n1, n2⟩, n3⟩ := hsplit
      have hkk : (decide (kind = 1) || decide (kind = 2)) = true := by
        simp only [Bool.or_eq_true, decide_eq_true_eq]; omega
      have hpos : 0 < rows.length := by omega
      have hcond : okCondB kind rows = !rows.any badRowB := by
        unfold okCondB
        rw [if_neg k0, hkk]
        simp only [hpos, decide_true, Bool.true_and]
      refine bwp_leads (S' := rcS [.int .i64 kind, A] [(3, .d (.int .i64 (0 : Nat)))]) (Leads.ent [] ⟨by simp [entT, fget, AV.ren, renL, pget, rcS, h1, h2], by simp [entM, pinv, mget, mset, renL, AV.ren, pget, renL_append, -List.map_map, rcS, h1, h2], rfl, rfl⟩) ?_
      refine refRows hA ?_ ?_
      · intro hbad S hS
        simp only [go_sem, ↓reduceIte, Nat.reduceEqDiff, Nat.reduceAdd]
        exact aend_ret (.d (.bool false)) (by simp [resA, resVs, resV, hS]) rfl ⟨by rw [hcond, hbad]; rfl, rfl⟩
      · rintro hgood ⟨t', m', n'⟩
        simp only [go_sem, ↓reduceIte, Nat.reduceEqDiff, Nat.reduceAdd]
        refine hK2 _ ?_; clear hK2
        refine bwp_seq fun K hK => bwp_region (by simp [mbound]) ?_
        simp only [go_sem, ↓reduceIte, Nat.reduceEqDiff, Nat.reduceAdd]
        refine hK _ ?_; clear hK
        refine bwp_ret ?_
        simp only [go_sem]
        refine aend_ret _ rfl rfl ⟨?_, rfl⟩
        simp [fget, hcond, hgood]
    · refine bwp_cond true (by simp [ev, fget, h28]) (fun _ => ?_) (fun h => nomatch h)
      refine bwp_seq fun K hK => bwp_region rfl ?_
      simp only [go_sem, ↓reduceIte, Nat.reduceEqDiff, Nat.reduceAdd]
      refine hK _ ?_; clear hK
      refine bwp_ret ?_
      simp only [go_sem]
      refine aend_ret _ rfl rfl ⟨?_, rfl⟩
      have hk : okCondB kind rows = false := by
        unfold okCondB
        rw [if_neg k0]
        have h := hb.symm
        simp only [Bool.or_eq_true, decide_eq_true_eq] at h
        rcases h with (h | h) | h
        · have h1 : ¬ kind = 1 := by omega
          have h2 : ¬ kind = 2 := by omega
          simp [h1, h2]
        · have h1 : ¬ kind = 1 := by omega
          have h2 : ¬ kind = 2 := by omega
          simp [h1, h2]
        · simp [h]
      simp [fget, hk]
  clear hK
  simp only [go_sem, ↓reduceIte, Nat.reduceEqDiff, Nat.reduceAdd]
  repeat' (first
    | (refine gateK_split (fun hb => ?_) (fun hb => ?_) <;> simp only [go_sem, ↓reduceIte, Nat.reduceEqDiff, Nat.reduceAdd, hb, hAl, hle])
    | (refine dGateK_split (fun hb => ?_) (fun hb => ?_) <;> simp only [go_sem, ↓reduceIte, Nat.reduceEqDiff, Nat.reduceAdd, hb, hAl, hle])
    | (rw [if_pos (by (try simp only [List.length_append, List.length_cons, List.length_nil, List.length_map]); omega)]; simp only [go_sem, ↓reduceIte, Nat.reduceEqDiff, Nat.reduceAdd, hAl, hle]))
  all_goals exact rest _ _ rfl rfl rfl (by clear rest hK1; simp_all <;> (intros; omega))
end Go.Proofs.YtpfbljkfbjjlkaaDoor

/- The document's texts of parts. -/
namespace Go.Proofs.YtpfbljkfbjjlkaaDoor
open Go Go.Jq
set_option maxRecDepth 100000
set_option linter.unusedSimpArgs false
theorem refLoc_pure {n : Int} (h : isLocB n = true) : Pure Tryd.prog 65 [.d (.int .i64 n)] (.d (.str (locT n))) := by
  have hb := (isLocB_iff n).1 h
  have hw : IntKind.u8.wrap n = n := wrap_u8 (by omega) (by omega)
  refine acalls_of Tryd.func65 ac65_ok Tryd.ntmps65 Tryd.results65 rfl ?_
  unfold ac65
  refine bwp_seq fun K hK => bwp_region rfl ?_
  simp -implicitDefEqProofs only [go_sem, ↓reduceIte, Nat.reduceEqDiff, Nat.reduceAdd, Nat.reduceLeDiff, Nat.reduceMul, Nat.reduceSub, Int.reduceLE, Int.reduceLT, Int.reduceEq, Int.reduceToNat, Int.reducePow, Int.reduceNeg]
  refine hK _ ?_; clear hK
  refine bwp_seq fun K hK => bwp_region rfl ?_
  simp -implicitDefEqProofs only [go_sem, ↓reduceIte, Nat.reduceEqDiff, Nat.reduceAdd, Nat.reduceLeDiff, Nat.reduceMul, Nat.reduceSub, Int.reduceLE, Int.reduceLT, Int.reduceEq, Int.reduceToNat, Int.reducePow, Int.reduceNeg, hw]
  refine hK _ ?_; clear hK
  refine bwp_ret ?_
  simp only [go_sem]
  refine aend_ret _ rfl rfl ⟨?_, rfl⟩
  simp [fget, locT_ok h]
theorem refReg_pure {n : Int} (h : I64 n) : Pure Tryd.prog 85 [.d (.int .i64 n)] (.d (.str (regT n))) := by
  refine acalls_of Tryd.func85 ac85_ok Tryd.ntmps85 Tryd.results85 rfl ?_
  unfold ac85
  refine bwp_seq fun K hK => bwp_region rfl ?_
  simp -implicitDefEqProofs only [go_sem, ↓reduceIte, Nat.reduceEqDiff, Nat.reduceAdd, Nat.reduceLeDiff, Nat.reduceMul, Nat.reduceSub, Int.reduceLE, Int.reduceLT, Int.reduceEq, Int.reduceToNat, Int.reducePow, Int.reduceNeg]
  refine hK _ ?_; clear hK
  refine bwp_seq fun K hK => bwp_region rfl ?_
  simp -implicitDefEqProofs only [go_sem, ↓reduceIte, Nat.reduceEqDiff, Nat.reduceAdd, Nat.reduceLeDiff, Nat.reduceMul, Nat.reduceSub, Int.reduceLE, Int.reduceLT, Int.reduceEq, Int.reduceToNat, Int.reducePow, Int.reduceNeg]
  refine callK_pure (refText_pure h) rfl rfl ?_
  have hl := itoa_len h
  have hl2 : 1 + (Lib.itoa n).length ≤ 9223372036854775807 := by omega
  simp -implicitDefEqProofs only [go_sem, ↓reduceIte, Nat.reduceEqDiff, Nat.reduceAdd, Nat.reduceLeDiff, Nat.reduceMul, Nat.reduceSub, Int.reduceLE, Int.reduceLT, Int.reduceEq, Int.reduceToNat, Int.reducePow, Int.reduceNeg, hl2]
  refine hK _ ?_; clear hK
  refine bwp_ret ?_
  simp only [go_sem]
  refine aend_ret _ rfl rfl ⟨?_, rfl⟩
  simp [fget, regT]
theorem refOperand_pure {o : Opnd} (h : I64 o.value) (h' : I64 o.reg) (hok : isOpB o = true) : Pure Tryd.prog 84 [.agg [.d (.int .i64 o.reg), .d (.int .i64 o.value)]] (.d (.str (opT o))) := by
  have hreg : o.reg = -1 ∨ 0 ≤ o.reg := by
    simp only [isOpB, isRegB, Bool.or_eq_true, Bool.and_eq_true, decide_eq_true_eq] at hok
    omega
  refine acalls_of Tryd.func84 ac84_ok Tryd.ntmps84 Tryd.results84 rfl ?_
  unfold ac84
  refine bwp_seq fun K hK => bwp_region rfl ?_
  simp -implicitDefEqProofs only [go_sem, ↓reduceIte, Nat.reduceEqDiff, Nat.reduceAdd, Nat.reduceLeDiff, Nat.reduceMul, Nat.reduceSub, Int.reduceLE, Int.reduceLT, Int.reduceEq, Int.reduceToNat, Int.reducePow, Int.reduceNeg]
  refine hK _ ?_; clear hK
  refine bwp_seq fun K1 hK1 => ?_
  by_cases h1 : o.reg = -1
  · have h2 : o.reg < 0 := by omega
    refine bwp_seq fun K hK => bwp_region rfl ?_
    simp -implicitDefEqProofs only [go_sem, ↓reduceIte, Nat.reduceEqDiff, Nat.reduceAdd, Nat.reduceLeDiff, Nat.reduceMul, Nat.reduceSub, Int.reduceLE, Int.reduceLT, Int.reduceEq, Int.reduceToNat, Int.reducePow, Int.reduceNeg, h2]
    refine hK _ ?_; clear hK
    refine bwp_cond true (by simp [ev, fget, h2]) (fun _ => ?_) (fun h => nomatch h)
    refine bwp_seq fun K hK => bwp_region rfl ?_
    simp -implicitDefEqProofs only [go_sem, ↓reduceIte, Nat.reduceEqDiff, Nat.reduceAdd, Nat.reduceLeDiff, Nat.reduceMul, Nat.reduceSub, Int.reduceLE, Int.reduceLT, Int.reduceEq, Int.reduceToNat, Int.reducePow, Int.reduceNeg]
    refine callK_pure (refText_pure h) rfl rfl ?_
    simp -implicitDefEqProofs only [go_sem, ↓reduceIte, Nat.reduceEqDiff, Nat.reduceAdd, Nat.reduceLeDiff, Nat.reduceMul, Nat.reduceSub, Int.reduceLE, Int.reduceLT, Int.reduceEq, Int.reduceToNat, Int.reducePow, Int.reduceNeg]
    refine hK _ ?_; clear hK
    refine bwp_ret ?_
    simp only [go_sem]
    refine aend_ret _ rfl rfl ⟨?_, rfl⟩
    simp [fget, opT, h1]
  · have h2 : ¬ o.reg < 0 := by omega
    refine bwp_seq fun K hK => bwp_region rfl ?_
    simp -implicitDefEqProofs only [go_sem, ↓reduceIte, Nat.reduceEqDiff, Nat.reduceAdd, Nat.reduceLeDiff, Nat.reduceMul, Nat.reduceSub, Int.reduceLE, Int.reduceLT, Int.reduceEq, Int.reduceToNat, Int.reducePow, Int.reduceNeg, h2]
    refine hK _ ?_; clear hK
    refine bwp_cond false (by simp [ev, fget, h2]) (fun h => nomatch h) (fun _ => ?_)
    refine bwp_skip ?_
    refine hK1 _ ?_; clear hK1
    refine bwp_seq fun K hK => bwp_region rfl ?_
    simp -implicitDefEqProofs only [go_sem, ↓reduceIte, Nat.reduceEqDiff, Nat.reduceAdd, Nat.reduceLeDiff, Nat.reduceMul, Nat.reduceSub, Int.reduceLE, Int.reduceLT, Int.reduceEq, Int.reduceToNat, Int.reducePow, Int.reduceNeg]
    refine callK_pure (refReg_pure h') rfl rfl ?_
    simp -implicitDefEqProofs only [go_sem, ↓reduceIte, Nat.reduceEqDiff, Nat.reduceAdd, Nat.reduceLeDiff, Nat.reduceMul, Nat.reduceSub, Int.reduceLE, Int.reduceLT, Int.reduceEq, Int.reduceToNat, Int.reducePow, Int.reduceNeg]
    refine hK _ ?_; clear hK
    refine bwp_ret ?_
    simp only [go_sem]
    refine aend_ret _ rfl rfl ⟨?_, rfl⟩
    simp [fget, opT, h1]
theorem insT_eq (x : Ins) (h : okInsB x = true) : insT x =
    if x.kind = 1 then [115, 116, 111, 114, 101, 32] ++ locT x.loc ++ [32] ++ opT x.a ++ [32, 59]
    else if x.kind = 2 then regT x.reg ++ [32, 61, 32, 108, 111, 97, 100, 32] ++ locT x.loc ++ [32, 59]
    else if x.kind = 3 then [102, 101, 110, 99, 101, 32, 59]
    else if x.kind = 4 then regT x.reg ++ [32, 61, 32, 99, 97, 115, 32] ++ locT x.loc ++ [32] ++ opT x.a ++ [32] ++ opT x.b ++ [32, 59]
    else if x.kind = 5 then (if 0 < x.op then regT x.reg ++ [32, 61, 32] ++ opT x.a ++ [32] ++ signT x.op ++ [32] ++ opT x.b else regT x.reg ++ [32, 61, 32] ++ opT x.a) ++ [32, 59]
    else [115, 107, 105, 112, 32] ++ Lib.itoa x.n ++ [32, 105, 102, 32] ++ opT x.a ++ [32, 61, 61, 32] ++ opT x.b ++ [32, 59] := by
  unfold insT partsI
  rw [if_pos h]
  by_cases k1 : x.kind = 1
  · simp [k1, Lib.join, List.intercalate]
  by_cases k2 : x.kind = 2
  · simp [k2, Lib.join, List.intercalate]
  by_cases k3 : x.kind = 3
  · simp [k3, Lib.join, List.intercalate]
  by_cases k4 : x.kind = 4
  · simp [k4, Lib.join, List.intercalate]
  by_cases k5 : x.kind = 5
  · by_cases ho : 0 < x.op
    · simp [k5, ho, Lib.join, List.intercalate]
    · simp [k5, ho, Lib.join, List.intercalate]
  · simp [k1, k2, k3, k4, k5, Lib.join, List.intercalate]
set_option maxHeartbeats 4000000 in
theorem refInsT_pure {x : Ins} (h : I64i x) : Pure Tryd.prog 66 [.agg (x.cells.map .d)] (.d (.str (insT x))) := by
  obtain ⟨i1, i2, i3, i4, i5, i6⟩ := h
  have hok := refIns_pure x
  rw [refIns_eq] at hok
  unfold Ins.cells at hok ⊢
  simp only [List.map_cons, List.map_nil] at hok ⊢
  refine acalls_of Tryd.func66 ac66_ok Tryd.ntmps66 Tryd.results66 rfl ?_
  unfold ac66
  refine bwp_seq fun K hK => bwp_region rfl ?_
  simp -implicitDefEqProofs only [go_sem, ↓reduceIte, Nat.reduceEqDiff, Nat.reduceAdd, Nat.reduceLeDiff, Nat.reduceMul, Nat.reduceSub, Int.reduceLE, Int.reduceLT, Int.reduceEq, Int.reduceToNat, Int.reducePow, Int.reduceNeg]
  refine hK _ ?_; clear hK
  refine bwp_seq fun K1 hK1 => ?_
  refine bwp_seq fun K hK => bwp_region rfl ?_
  simp -implicitDefEqProofs only [go_sem, ↓reduceIte, Nat.reduceEqDiff, Nat.reduceAdd, Nat.reduceLeDiff, Nat.reduceMul, Nat.reduceSub, Int.reduceLE, Int.reduceLT, Int.reduceEq, Int.reduceToNat, Int.reducePow, Int.reduceNeg]
  refine callK_pure hok rfl rfl ?_
  cases hb : okInsB x with
  | false =>
    simp -implicitDefEqProofs only [go_sem, ↓reduceIte, Nat.reduceEqDiff, Nat.reduceAdd, Nat.reduceLeDiff, Nat.reduceMul, Nat.reduceSub, Int.reduceLE, Int.reduceLT, Int.reduceEq, Int.reduceToNat, Int.reducePow, Int.reduceNeg]
    refine hK _ ?_; clear hK
    refine bwp_cond true (by simp [ev, fget]) (fun _ => ?_) (fun h => nomatch h)
    refine bwp_seq fun K hK => bwp_region rfl ?_
    simp -implicitDefEqProofs only [go_sem, ↓reduceIte, Nat.reduceEqDiff, Nat.reduceAdd, Nat.reduceLeDiff, Nat.reduceMul, Nat.reduceSub, Int.reduceLE, Int.reduceLT, Int.reduceEq, Int.reduceToNat, Int.reducePow, Int.reduceNeg]
    refine hK _ ?_; clear hK
    refine bwp_ret ?_
    simp only [go_sem]
    refine aend_ret _ rfl rfl ⟨?_, rfl⟩
    simp [fget, insT, hb]
  | true =>
    simp -implicitDefEqProofs only [go_sem, ↓reduceIte, Nat.reduceEqDiff, Nat.reduceAdd, Nat.reduceLeDiff, Nat.reduceMul, Nat.reduceSub, Int.reduceLE, Int.reduceLT, Int.reduceEq, Int.reduceToNat, Int.reducePow, Int.reduceNeg]
    refine hK _ ?_; clear hK
    refine bwp_cond false (by simp [ev, fget]) (fun h => nomatch h) (fun _ => ?_)
    refine bwp_skip ?_
    refine hK1 _ ?_; clear hK1
    rw [insT_eq x hb]
    have l1 := regT_len i1
    have l2 := opT_len i3 i2
    have l3 := opT_len i5 i4
    have l4 : (locT x.loc).length ≤ 4 := utf8_len _
    have l5 := itoa_len i6
    have l6 := signT_len x.op
    have h0 := hb
    unfold okInsB at h0
    refine bwp_seq fun K1 hK1 => ?_
    refine bwp_seq fun K hK => bwp_region rfl ?_
    simp -implicitDefEqProofs only [go_sem, ↓reduceIte, Nat.reduceEqDiff, Nat.reduceAdd, Nat.reduceLeDiff, Nat.reduceMul, Nat.reduceSub, Int.reduceLE, Int.reduceLT, Int.reduceEq, Int.reduceToNat, Int.reducePow, Int.reduceNeg]
    refine hK _ ?_; clear hK
    refine bwp_block ?_
    by_cases k1 : x.kind = 1
    · rw [if_pos k1] at h0
      simp only [Bool.and_eq_true] at h0
      have c1 := refLoc_pure h0.1.1
      have c2 := refOperand_pure i3 i2 h0.1.2
      refine bwp_seq fun K hK => bwp_region rfl ?_
      simp -implicitDefEqProofs only [go_sem, ↓reduceIte, Nat.reduceEqDiff, Nat.reduceAdd, Nat.reduceLeDiff, Nat.reduceMul, Nat.reduceSub, Int.reduceLE, Int.reduceLT, Int.reduceEq, Int.reduceToNat, Int.reducePow, Int.reduceNeg, k1]
      refine hK _ ?_; clear hK
      refine bwp_cond true (by simp [ev, fget]) (fun _ => ?_) (fun h => nomatch h)
      refine bwp_seq fun K hK => bwp_region_draw rfl rfl ?_
      simp -implicitDefEqProofs only [go_sem, ↓reduceIte, Nat.reduceEqDiff, Nat.reduceAdd, Nat.reduceLeDiff, Nat.reduceMul, Nat.reduceSub, Int.reduceLE, Int.reduceLT, Int.reduceEq, Int.reduceToNat, Int.reducePow, Int.reduceNeg]
      repeat' (first
        | (refine gateK_split (fun hb => ?_) (fun hb => ?_) <;> simp -implicitDefEqProofs only [go_sem, ↓reduceIte, Nat.reduceEqDiff, Nat.reduceAdd, Nat.reduceLeDiff, Nat.reduceMul, Nat.reduceSub, Int.reduceLE, Int.reduceLT, Int.reduceEq, Int.reduceToNat, Int.reducePow, Int.reduceNeg, hb])
        | (refine dGateK_split (fun hb => ?_) (fun hb => ?_) <;> simp -implicitDefEqProofs only [go_sem, ↓reduceIte, Nat.reduceEqDiff, Nat.reduceAdd, Nat.reduceLeDiff, Nat.reduceMul, Nat.reduceSub, Int.reduceLE, Int.reduceLT, Int.reduceEq, Int.reduceToNat, Int.reducePow, Int.reduceNeg, hb])
        | (refine callK_pure (c1) rfl rfl ?_; simp -implicitDefEqProofs only [go_sem, ↓reduceIte, Nat.reduceEqDiff, Nat.reduceAdd, Nat.reduceLeDiff, Nat.reduceMul, Nat.reduceSub, Int.reduceLE, Int.reduceLT, Int.reduceEq, Int.reduceToNat, Int.reducePow, Int.reduceNeg])
        | (refine dCallK_pure (c1) rfl rfl ?_; simp -implicitDefEqProofs only [go_sem, ↓reduceIte, Nat.reduceEqDiff, Nat.reduceAdd, Nat.reduceLeDiff, Nat.reduceMul, Nat.reduceSub, Int.reduceLE, Int.reduceLT, Int.reduceEq, Int.reduceToNat, Int.reducePow, Int.reduceNeg])
        | (refine callK_pure (c2) rfl rfl ?_; simp -implicitDefEqProofs only [go_sem, ↓reduceIte, Nat.reduceEqDiff, Nat.reduceAdd, Nat.reduceLeDiff, Nat.reduceMul, Nat.reduceSub, Int.reduceLE, Int.reduceLT, Int.reduceEq, Int.reduceToNat, Int.reducePow, Int.reduceNeg])
        | (refine dCallK_pure (c2) rfl rfl ?_; simp -implicitDefEqProofs only [go_sem, ↓reduceIte, Nat.reduceEqDiff, Nat.reduceAdd, Nat.reduceLeDiff, Nat.reduceMul, Nat.reduceSub, Int.reduceLE, Int.reduceLT, Int.reduceEq, Int.reduceToNat, Int.reducePow, Int.reduceNeg])
        | (rw [if_pos (by (try simp only [List.length_append, List.length_cons, List.length_nil, List.length_map]); omega)]; simp -implicitDefEqProofs only [go_sem, ↓reduceIte, Nat.reduceEqDiff, Nat.reduceAdd, Nat.reduceLeDiff, Nat.reduceMul, Nat.reduceSub, Int.reduceLE, Int.reduceLT, Int.reduceEq, Int.reduceToNat, Int.reducePow, Int.reduceNeg]))
      refine ⟨rfl, hK _ ?_⟩; clear hK
      refine bwp_ret ?_
      simp -implicitDefEqProofs only [go_sem, ↓reduceIte, Nat.reduceEqDiff, Nat.reduceAdd, Nat.reduceLeDiff, Nat.reduceMul, Nat.reduceSub, Int.reduceLE, Int.reduceLT, Int.reduceEq, Int.reduceToNat, Int.reducePow, Int.reduceNeg]
      refine aend_ret _ rfl rfl ⟨?_, rfl⟩
      simp [fget, k1]
    rw [if_neg k1] at h0
    refine bwp_seq fun K hK => bwp_region rfl ?_
    simp -implicitDefEqProofs only [go_sem, ↓reduceIte, Nat.reduceEqDiff, Nat.reduceAdd, Nat.reduceLeDiff, Nat.reduceMul, Nat.reduceSub, Int.reduceLE, Int.reduceLT, Int.reduceEq, Int.reduceToNat, Int.reducePow, Int.reduceNeg, k1]
    refine hK _ ?_; clear hK
    refine bwp_cond false (by simp [ev, fget, k1]) (fun h => nomatch h) (fun _ => ?_)
    by_cases k2 : x.kind = 2
    · rw [if_pos k2] at h0
      simp only [Bool.and_eq_true] at h0
      have c1 := refLoc_pure h0.1.1
      have c2 := refReg_pure i1
      refine bwp_seq fun K hK => bwp_region rfl ?_
      simp -implicitDefEqProofs only [go_sem, ↓reduceIte, Nat.reduceEqDiff, Nat.reduceAdd, Nat.reduceLeDiff, Nat.reduceMul, Nat.reduceSub, Int.reduceLE, Int.reduceLT, Int.reduceEq, Int.reduceToNat, Int.reducePow, Int.reduceNeg, k2]
      refine hK _ ?_; clear hK
      refine bwp_cond true (by simp [ev, fget]) (fun _ => ?_) (fun h => nomatch h)
      refine bwp_seq fun K hK => bwp_region_draw rfl rfl ?_
      simp -implicitDefEqProofs only [go_sem, ↓reduceIte, Nat.reduceEqDiff, Nat.reduceAdd, Nat.reduceLeDiff, Nat.reduceMul, Nat.reduceSub, Int.reduceLE, Int.reduceLT, Int.reduceEq, Int.reduceToNat, Int.reducePow, Int.reduceNeg]
      repeat' (first
        | (refine gateK_split (fun hb => ?_) (fun hb => ?_) <;> simp -implicitDefEqProofs only [go_sem, ↓reduceIte, Nat.reduceEqDiff, Nat.reduceAdd, Nat.reduceLeDiff, Nat.reduceMul, Nat.reduceSub, Int.reduceLE, Int.reduceLT, Int.reduceEq, Int.reduceToNat, Int.reducePow, Int.reduceNeg, hb])
        | (refine dGateK_split (fun hb => ?_) (fun hb => ?_) <;> simp -implicitDefEqProofs only [go_sem, ↓reduceIte, Nat.reduceEqDiff, Nat.reduceAdd, Nat.reduceLeDiff, Nat.reduceMul, Nat.reduceSub, Int.reduceLE, Int.reduceLT, Int.reduceEq, Int.reduceToNat, Int.reducePow, Int.reduceNeg, hb])
        | (refine callK_pure (c1) rfl rfl ?_; simp -implicitDefEqProofs only [go_sem, ↓reduceIte, Nat.reduceEqDiff, Nat.reduceAdd, Nat.reduceLeDiff, Nat.reduceMul, Nat.reduceSub, Int.reduceLE, Int.reduceLT, Int.reduceEq, Int.reduceToNat, Int.reducePow, Int.reduceNeg])
        | (refine dCallK_pure (c1) rfl rfl ?_; simp -implicitDefEqProofs only [go_sem, ↓reduceIte, Nat.reduceEqDiff, Nat.reduceAdd, Nat.reduceLeDiff, Nat.reduceMul, Nat.reduceSub, Int.reduceLE, Int.reduceLT, Int.reduceEq, Int.reduceToNat, Int.reducePow, Int.reduceNeg])
        | (refine callK_pure (c2) rfl rfl ?_; simp -implicitDefEqProofs only [go_sem, ↓reduceIte, Nat.reduceEqDiff, Nat.reduceAdd, Nat.reduceLeDiff, Nat.reduceMul, Nat.reduceSub, Int.reduceLE, Int.reduceLT, Int.reduceEq, Int.reduceToNat, Int.reducePow, Int.reduceNeg])
        | (refine dCallK_pure (c2) rfl rfl ?_; simp -implicitDefEqProofs only [go_sem, ↓reduceIte, Nat.reduceEqDiff, Nat.reduceAdd, Nat.reduceLeDiff, Nat.reduceMul, Nat.reduceSub, Int.reduceLE, Int.reduceLT, Int.reduceEq, Int.reduceToNat, Int.reducePow, Int.reduceNeg])
        | (rw [if_pos (by (try simp only [List.length_append, List.length_cons, List.length_nil, List.length_map]); omega)]; simp -implicitDefEqProofs only [go_sem, ↓reduceIte, Nat.reduceEqDiff, Nat.reduceAdd, Nat.reduceLeDiff, Nat.reduceMul, Nat.reduceSub, Int.reduceLE, Int.reduceLT, Int.reduceEq, Int.reduceToNat, Int.reducePow, Int.reduceNeg]))
      refine ⟨rfl, hK _ ?_⟩; clear hK
      refine bwp_ret ?_
      simp -implicitDefEqProofs only [go_sem, ↓reduceIte, Nat.reduceEqDiff, Nat.reduceAdd, Nat.reduceLeDiff, Nat.reduceMul, Nat.reduceSub, Int.reduceLE, Int.reduceLT, Int.reduceEq, Int.reduceToNat, Int.reducePow, Int.reduceNeg]
      refine aend_ret _ rfl rfl ⟨?_, rfl⟩
      simp [fget, k2]
    rw [if_neg k2] at h0
    refine bwp_seq fun K hK => bwp_region rfl ?_
    simp -implicitDefEqProofs only [go_sem, ↓reduceIte, Nat.reduceEqDiff, Nat.reduceAdd, Nat.reduceLeDiff, Nat.reduceMul, Nat.reduceSub, Int.reduceLE, Int.reduceLT, Int.reduceEq, Int.reduceToNat, Int.reducePow, Int.reduceNeg, k2]
    refine hK _ ?_; clear hK
    refine bwp_cond false (by simp [ev, fget, k2]) (fun h => nomatch h) (fun _ => ?_)
    by_cases k3 : x.kind = 3
    · refine bwp_seq fun K hK => bwp_region rfl ?_
      simp -implicitDefEqProofs only [go_sem, ↓reduceIte, Nat.reduceEqDiff, Nat.reduceAdd, Nat.reduceLeDiff, Nat.reduceMul, Nat.reduceSub, Int.reduceLE, Int.reduceLT, Int.reduceEq, Int.reduceToNat, Int.reducePow, Int.reduceNeg, k3]
      refine hK _ ?_; clear hK
      refine bwp_cond true (by simp [ev, fget]) (fun _ => ?_) (fun h => nomatch h)
      refine bwp_seq fun K hK => bwp_region rfl ?_
      simp -implicitDefEqProofs only [go_sem, ↓reduceIte, Nat.reduceEqDiff, Nat.reduceAdd, Nat.reduceLeDiff, Nat.reduceMul, Nat.reduceSub, Int.reduceLE, Int.reduceLT, Int.reduceEq, Int.reduceToNat, Int.reducePow, Int.reduceNeg]
      refine hK _ ?_; clear hK
      refine bwp_ret ?_
      simp -implicitDefEqProofs only [go_sem, ↓reduceIte, Nat.reduceEqDiff, Nat.reduceAdd, Nat.reduceLeDiff, Nat.reduceMul, Nat.reduceSub, Int.reduceLE, Int.reduceLT, Int.reduceEq, Int.reduceToNat, Int.reducePow, Int.reduceNeg]
      refine aend_ret _ rfl rfl ⟨?_, rfl⟩
      simp [fget, k3]
    rw [if_neg k3] at h0
    refine bwp_seq fun K hK => bwp_region rfl ?_
    simp -implicitDefEqProofs only [go_sem, ↓reduceIte, Nat.reduceEqDiff, Nat.reduceAdd, Nat.reduceLeDiff, Nat.reduceMul, Nat.reduceSub, Int.reduceLE, Int.reduceLT, Int.reduceEq, Int.reduceToNat, Int.reducePow, Int.reduceNeg, k3]
    refine hK _ ?_; clear hK
    refine bwp_cond false (by simp [ev, fget, k3]) (fun h => nomatch h) (fun _ => ?_)
    by_cases k4 : x.kind = 4
    · rw [if_pos k4] at h0
      simp only [Bool.and_eq_true] at h0
      have c1 := refLoc_pure h0.1.1.1.1
      have c2 := refReg_pure i1
      have c3 := refOperand_pure i3 i2 h0.1.1.2
      have c4 := refOperand_pure i5 i4 h0.1.2
      refine bwp_seq fun K hK => bwp_region rfl ?_
      simp -implicitDefEqProofs only [go_sem, ↓reduceIte, Nat.reduceEqDiff, Nat.reduceAdd, Nat.reduceLeDiff, Nat.reduceMul, Nat.reduceSub, Int.reduceLE, Int.reduceLT, Int.reduceEq, Int.reduceToNat, Int.reducePow, Int.reduceNeg, k4]
      refine hK _ ?_; clear hK
      refine bwp_cond true (by simp [ev, fget]) (fun _ => ?_) (fun h => nomatch h)
      refine bwp_seq fun K hK => bwp_region_draw rfl rfl ?_
      simp -implicitDefEqProofs only [go_sem, ↓reduceIte, Nat.reduceEqDiff, Nat.reduceAdd, Nat.reduceLeDiff, Nat.reduceMul, Nat.reduceSub, Int.reduceLE, Int.reduceLT, Int.reduceEq, Int.reduceToNat, Int.reducePow, Int.reduceNeg]
      repeat' (first
        | (refine gateK_split (fun hb => ?_) (fun hb => ?_) <;> simp -implicitDefEqProofs only [go_sem, ↓reduceIte, Nat.reduceEqDiff, Nat.reduceAdd, Nat.reduceLeDiff, Nat.reduceMul, Nat.reduceSub, Int.reduceLE, Int.reduceLT, Int.reduceEq, Int.reduceToNat, Int.reducePow, Int.reduceNeg, hb])
        | (refine dGateK_split (fun hb => ?_) (fun hb => ?_) <;> simp -implicitDefEqProofs only [go_sem, ↓reduceIte, Nat.reduceEqDiff, Nat.reduceAdd, Nat.reduceLeDiff, Nat.reduceMul, Nat.reduceSub, Int.reduceLE, Int.reduceLT, Int.reduceEq, Int.reduceToNat, Int.reducePow, Int.reduceNeg, hb])
        | (refine callK_pure (c1) rfl rfl ?_; simp -implicitDefEqProofs only [go_sem, ↓reduceIte, Nat.reduceEqDiff, Nat.reduceAdd, Nat.reduceLeDiff, Nat.reduceMul, Nat.reduceSub, Int.reduceLE, Int.reduceLT, Int.reduceEq, Int.reduceToNat, Int.reducePow, Int.reduceNeg])
        | (refine dCallK_pure (c1) rfl rfl ?_; simp -implicitDefEqProofs only [go_sem, ↓reduceIte, Nat.reduceEqDiff, Nat.reduceAdd, Nat.reduceLeDiff, Nat.reduceMul, Nat.reduceSub, Int.reduceLE, Int.reduceLT, Int.reduceEq, Int.reduceToNat, Int.reducePow, Int.reduceNeg])
        | (refine callK_pure (c2) rfl rfl ?_; simp -implicitDefEqProofs only [go_sem, ↓reduceIte, Nat.reduceEqDiff, Nat.reduceAdd, Nat.reduceLeDiff, Nat.reduceMul, Nat.reduceSub, Int.reduceLE, Int.reduceLT, Int.reduceEq, Int.reduceToNat, Int.reducePow, Int.reduceNeg])
        | (refine dCallK_pure (c2) rfl rfl ?_; simp -implicitDefEqProofs only [go_sem, ↓reduceIte, Nat.reduceEqDiff, Nat.reduceAdd, Nat.reduceLeDiff, Nat.reduceMul, Nat.reduceSub, Int.reduceLE, Int.reduceLT, Int.reduceEq, Int.reduceToNat, Int.reducePow, Int.reduceNeg])
        | (refine callK_pure (c3) rfl rfl ?_; simp -implicitDefEqProofs only [go_sem, ↓reduceIte, Nat.reduceEqDiff, Nat.reduceAdd, Nat.reduceLeDiff, Nat.reduceMul, Nat.reduceSub, Int.reduceLE, Int.reduceLT, Int.reduceEq, Int.reduceToNat, Int.reducePow, Int.reduceNeg])
        | (refine dCallK_pure (c3) rfl rfl ?_; simp -implicitDefEqProofs only [go_sem, ↓reduceIte, Nat.reduceEqDiff, Nat.reduceAdd, Nat.reduceLeDiff, Nat.reduceMul, Nat.reduceSub, Int.reduceLE, Int.reduceLT, Int.reduceEq, Int.reduceToNat, Int.reducePow, Int.reduceNeg])
        | (refine callK_pure (c4) rfl rfl ?_; simp -implicitDefEqProofs only [go_sem, ↓reduceIte, Nat.reduceEqDiff, Nat.reduceAdd, Nat.reduceLeDiff, Nat.reduceMul, Nat.reduceSub, Int.reduceLE, Int.reduceLT, Int.reduceEq, Int.reduceToNat, Int.reducePow, Int.reduceNeg])
        | (refine dCallK_pure (c4) rfl rfl ?_; simp -implicitDefEqProofs only [go_sem, ↓reduceIte, Nat.reduceEqDiff, Nat.reduceAdd, Nat.reduceLeDiff, Nat.reduceMul, Nat.reduceSub, Int.reduceLE, Int.reduceLT, Int.reduceEq, Int.reduceToNat, Int.reducePow, Int.reduceNeg])
        | (rw [if_pos (by (try simp only [List.length_append, List.length_cons, List.length_nil, List.length_map]); omega)]; simp -implicitDefEqProofs only [go_sem, ↓reduceIte, Nat.reduceEqDiff, Nat.reduceAdd, Nat.reduceLeDiff, Nat.reduceMul, Nat.reduceSub, Int.reduceLE, Int.reduceLT, Int.reduceEq, Int.reduceToNat, Int.reducePow, Int.reduceNeg]))
      refine ⟨rfl, hK _ ?_⟩; clear hK
      refine bwp_ret ?_
      simp -implicitDefEqProofs only [go_sem, ↓reduceIte, Nat.reduceEqDiff, Nat.reduceAdd, Nat.reduceLeDiff, Nat.reduceMul, Nat.reduceSub, Int.reduceLE, Int.reduceLT, Int.reduceEq, Int.reduceToNat, Int.reducePow, Int.reduceNeg]
      refine aend_ret _ rfl rfl ⟨?_, rfl⟩
      simp [fget, k4]
    rw [if_neg k4] at h0
    refine bwp_seq fun K hK => bwp_region rfl ?_
    simp -implicitDefEqProofs only [go_sem, ↓reduceIte, Nat.reduceEqDiff, Nat.reduceAdd, Nat.reduceLeDiff, Nat.reduceMul, Nat.reduceSub, Int.reduceLE, Int.reduceLT, Int.reduceEq, Int.reduceToNat, Int.reducePow, Int.reduceNeg, k4]
    refine hK _ ?_; clear hK
    refine bwp_cond false (by simp [ev, fget, k4]) (fun h => nomatch h) (fun _ => ?_)
    by_cases k5 : x.kind = 5
    · rw [if_pos k5] at h0
      simp only [Bool.and_eq_true, decide_eq_true_eq] at h0
      have c2 := refReg_pure i1
      have c3 := refOperand_pure i3 i2 h0.1.1.1.1.1.2
      have c4 := refOperand_pure i5 i4 h0.1.1.1.1.2
      refine bwp_seq fun K hK => bwp_region rfl ?_
      simp -implicitDefEqProofs only [go_sem, ↓reduceIte, Nat.reduceEqDiff, Nat.reduceAdd, Nat.reduceLeDiff, Nat.reduceMul, Nat.reduceSub, Int.reduceLE, Int.reduceLT, Int.reduceEq, Int.reduceToNat, Int.reducePow, Int.reduceNeg, k5]
      refine hK _ ?_; clear hK
      refine bwp_cond true (by simp [ev, fget]) (fun _ => ?_) (fun h => nomatch h)
      refine bwp_seq fun K hK => bwp_region_draw rfl rfl ?_
      simp -implicitDefEqProofs only [go_sem, ↓reduceIte, Nat.reduceEqDiff, Nat.reduceAdd, Nat.reduceLeDiff, Nat.reduceMul, Nat.reduceSub, Int.reduceLE, Int.reduceLT, Int.reduceEq, Int.reduceToNat, Int.reducePow, Int.reduceNeg]
      repeat' (first
        | (refine gateK_split (fun hb => ?_) (fun hb => ?_) <;> simp -implicitDefEqProofs only [go_sem, ↓reduceIte, Nat.reduceEqDiff, Nat.reduceAdd, Nat.reduceLeDiff, Nat.reduceMul, Nat.reduceSub, Int.reduceLE, Int.reduceLT, Int.reduceEq, Int.reduceToNat, Int.reducePow, Int.reduceNeg, hb])
        | (refine dGateK_split (fun hb => ?_) (fun hb => ?_) <;> simp -implicitDefEqProofs only [go_sem, ↓reduceIte, Nat.reduceEqDiff, Nat.reduceAdd, Nat.reduceLeDiff, Nat.reduceMul, Nat.reduceSub, Int.reduceLE, Int.reduceLT, Int.reduceEq, Int.reduceToNat, Int.reducePow, Int.reduceNeg, hb])
        | (refine callK_pure (c2) rfl rfl ?_; simp -implicitDefEqProofs only [go_sem, ↓reduceIte, Nat.reduceEqDiff, Nat.reduceAdd, Nat.reduceLeDiff, Nat.reduceMul, Nat.reduceSub, Int.reduceLE, Int.reduceLT, Int.reduceEq, Int.reduceToNat, Int.reducePow, Int.reduceNeg])
        | (refine dCallK_pure (c2) rfl rfl ?_; simp -implicitDefEqProofs only [go_sem, ↓reduceIte, Nat.reduceEqDiff, Nat.reduceAdd, Nat.reduceLeDiff, Nat.reduceMul, Nat.reduceSub, Int.reduceLE, Int.reduceLT, Int.reduceEq, Int.reduceToNat, Int.reducePow, Int.reduceNeg])
        | (refine callK_pure (c3) rfl rfl ?_; simp -implicitDefEqProofs only [go_sem, ↓reduceIte, Nat.reduceEqDiff, Nat.reduceAdd, Nat.reduceLeDiff, Nat.reduceMul, Nat.reduceSub, Int.reduceLE, Int.reduceLT, Int.reduceEq, Int.reduceToNat, Int.reducePow, Int.reduceNeg])
        | (refine dCallK_pure (c3) rfl rfl ?_; simp -implicitDefEqProofs only [go_sem, ↓reduceIte, Nat.reduceEqDiff, Nat.reduceAdd, Nat.reduceLeDiff, Nat.reduceMul, Nat.reduceSub, Int.reduceLE, Int.reduceLT, Int.reduceEq, Int.reduceToNat, Int.reducePow, Int.reduceNeg])
        | (rw [if_pos (by (try simp only [List.length_append, List.length_cons, List.length_nil, List.length_map]); omega)]; simp -implicitDefEqProofs only [go_sem, ↓reduceIte, Nat.reduceEqDiff, Nat.reduceAdd, Nat.reduceLeDiff, Nat.reduceMul, Nat.reduceSub, Int.reduceLE, Int.reduceLT, Int.reduceEq, Int.reduceToNat, Int.reducePow, Int.reduceNeg]))
      refine ⟨rfl, hK _ ?_⟩; clear hK
      refine bwp_seq fun K3 hK3 => ?_
      by_cases ho : 0 < x.op
      · have c5 := refSign_pure x.op
        refine bwp_seq fun K hK => bwp_region rfl ?_
        simp -implicitDefEqProofs only [go_sem, ↓reduceIte, Nat.reduceEqDiff, Nat.reduceAdd, Nat.reduceLeDiff, Nat.reduceMul, Nat.reduceSub, Int.reduceLE, Int.reduceLT, Int.reduceEq, Int.reduceToNat, Int.reducePow, Int.reduceNeg, ho]
        refine hK _ ?_; clear hK
        refine bwp_cond true (by simp [ev, fget, ho]) (fun _ => ?_) (fun h => nomatch h)
        refine bwp_region_draw rfl rfl ?_
        simp -implicitDefEqProofs only [go_sem, ↓reduceIte, Nat.reduceEqDiff, Nat.reduceAdd, Nat.reduceLeDiff, Nat.reduceMul, Nat.reduceSub, Int.reduceLE, Int.reduceLT, Int.reduceEq, Int.reduceToNat, Int.reducePow, Int.reduceNeg]
        repeat' (first
          | (refine gateK_split (fun hb => ?_) (fun hb => ?_) <;> simp -implicitDefEqProofs only [go_sem, ↓reduceIte, Nat.reduceEqDiff, Nat.reduceAdd, Nat.reduceLeDiff, Nat.reduceMul, Nat.reduceSub, Int.reduceLE, Int.reduceLT, Int.reduceEq, Int.reduceToNat, Int.reducePow, Int.reduceNeg, hb])
          | (refine dGateK_split (fun hb => ?_) (fun hb => ?_) <;> simp -implicitDefEqProofs only [go_sem, ↓reduceIte, Nat.reduceEqDiff, Nat.reduceAdd, Nat.reduceLeDiff, Nat.reduceMul, Nat.reduceSub, Int.reduceLE, Int.reduceLT, Int.reduceEq, Int.reduceToNat, Int.reducePow, Int.reduceNeg, hb])
          | (refine callK_pure (c4) rfl rfl ?_; simp -implicitDefEqProofs only [go_sem, ↓reduceIte, Nat.reduceEqDiff, Nat.reduceAdd, Nat.reduceLeDiff, Nat.reduceMul, Nat.reduceSub, Int.reduceLE, Int.reduceLT, Int.reduceEq, Int.reduceToNat, Int.reducePow, Int.reduceNeg])
          | (refine dCallK_pure (c4) rfl rfl ?_; simp -implicitDefEqProofs only [go_sem, ↓reduceIte, Nat.reduceEqDiff, Nat.reduceAdd, Nat.reduceLeDiff, Nat.reduceMul, Nat.reduceSub, Int.reduceLE, Int.reduceLT, Int.reduceEq, Int.reduceToNat, Int.reducePow, Int.reduceNeg])
          | (refine callK_pure (c5) rfl rfl ?_; simp -implicitDefEqProofs only [go_sem, ↓reduceIte, Nat.reduceEqDiff, Nat.reduceAdd, Nat.reduceLeDiff, Nat.reduceMul, Nat.reduceSub, Int.reduceLE, Int.reduceLT, Int.reduceEq, Int.reduceToNat, Int.reducePow, Int.reduceNeg])
          | (refine dCallK_pure (c5) rfl rfl ?_; simp -implicitDefEqProofs only [go_sem, ↓reduceIte, Nat.reduceEqDiff, Nat.reduceAdd, Nat.reduceLeDiff, Nat.reduceMul, Nat.reduceSub, Int.reduceLE, Int.reduceLT, Int.reduceEq, Int.reduceToNat, Int.reducePow, Int.reduceNeg])
          | (rw [if_pos (by (try simp only [List.length_append, List.length_cons, List.length_nil, List.length_map]); omega)]; simp -implicitDefEqProofs only [go_sem, ↓reduceIte, Nat.reduceEqDiff, Nat.reduceAdd, Nat.reduceLeDiff, Nat.reduceMul, Nat.reduceSub, Int.reduceLE, Int.reduceLT, Int.reduceEq, Int.reduceToNat, Int.reducePow, Int.reduceNeg]))
        refine ⟨rfl, hK3 _ ?_⟩; clear hK3
        refine bwp_seq fun K hK => bwp_region rfl ?_
        simp -implicitDefEqProofs only [go_sem, ↓reduceIte, Nat.reduceEqDiff, Nat.reduceAdd, Nat.reduceLeDiff, Nat.reduceMul, Nat.reduceSub, Int.reduceLE, Int.reduceLT, Int.reduceEq, Int.reduceToNat, Int.reducePow, Int.reduceNeg]
        repeat' (first
          | (refine gateK_split (fun hb => ?_) (fun hb => ?_) <;> simp -implicitDefEqProofs only [go_sem, ↓reduceIte, Nat.reduceEqDiff, Nat.reduceAdd, Nat.reduceLeDiff, Nat.reduceMul, Nat.reduceSub, Int.reduceLE, Int.reduceLT, Int.reduceEq, Int.reduceToNat, Int.reducePow, Int.reduceNeg, hb])
          | (refine dGateK_split (fun hb => ?_) (fun hb => ?_) <;> simp -implicitDefEqProofs only [go_sem, ↓reduceIte, Nat.reduceEqDiff, Nat.reduceAdd, Nat.reduceLeDiff, Nat.reduceMul, Nat.reduceSub, Int.reduceLE, Int.reduceLT, Int.reduceEq, Int.reduceToNat, Int.reducePow, Int.reduceNeg, hb])
          | (rw [if_pos (by (try simp only [List.length_append, List.length_cons, List.length_nil, List.length_map]); omega)]; simp -implicitDefEqProofs only [go_sem, ↓reduceIte, Nat.reduceEqDiff, Nat.reduceAdd, Nat.reduceLeDiff, Nat.reduceMul, Nat.reduceSub, Int.reduceLE, Int.reduceLT, Int.reduceEq, Int.reduceToNat, Int.reducePow, Int.reduceNeg]))
        refine hK _ ?_; clear hK
        refine bwp_ret ?_
        simp -implicitDefEqProofs only [go_sem, ↓reduceIte, Nat.reduceEqDiff, Nat.reduceAdd, Nat.reduceLeDiff, Nat.reduceMul, Nat.reduceSub, Int.reduceLE, Int.reduceLT, Int.reduceEq, Int.reduceToNat, Int.reducePow, Int.reduceNeg]
        refine aend_ret _ rfl rfl ⟨?_, rfl⟩
        simp [fget, k5, ho]
      · refine bwp_seq fun K hK => bwp_region rfl ?_
        simp -implicitDefEqProofs only [go_sem, ↓reduceIte, Nat.reduceEqDiff, Nat.reduceAdd, Nat.reduceLeDiff, Nat.reduceMul, Nat.reduceSub, Int.reduceLE, Int.reduceLT, Int.reduceEq, Int.reduceToNat, Int.reducePow, Int.reduceNeg, ho]
        refine hK _ ?_; clear hK
        refine bwp_cond false (by simp [ev, fget, ho]) (fun h => nomatch h) (fun _ => ?_)
        refine bwp_skip ?_
        refine hK3 _ ?_; clear hK3
        refine bwp_seq fun K hK => bwp_region rfl ?_
        simp -implicitDefEqProofs only [go_sem, ↓reduceIte, Nat.reduceEqDiff, Nat.reduceAdd, Nat.reduceLeDiff, Nat.reduceMul, Nat.reduceSub, Int.reduceLE, Int.reduceLT, Int.reduceEq, Int.reduceToNat, Int.reducePow, Int.reduceNeg]
        repeat' (first
          | (refine gateK_split (fun hb => ?_) (fun hb => ?_) <;> simp -implicitDefEqProofs only [go_sem, ↓reduceIte, Nat.reduceEqDiff, Nat.reduceAdd, Nat.reduceLeDiff, Nat.reduceMul, Nat.reduceSub, Int.reduceLE, Int.reduceLT, Int.reduceEq, Int.reduceToNat, Int.reducePow, Int.reduceNeg, hb])
          | (refine dGateK_split (fun hb => ?_) (fun hb => ?_) <;> simp -implicitDefEqProofs only [go_sem, ↓reduceIte, Nat.reduceEqDiff, Nat.reduceAdd, Nat.reduceLeDiff, Nat.reduceMul, Nat.reduceSub, Int.reduceLE, Int.reduceLT, Int.reduceEq, Int.reduceToNat, Int.reducePow, Int.reduceNeg, hb])
          | (rw [if_pos (by (try simp only [List.length_append, List.length_cons, List.length_nil, List.length_map]); omega)]; simp -implicitDefEqProofs only [go_sem, ↓reduceIte, Nat.reduceEqDiff, Nat.reduceAdd, Nat.reduceLeDiff, Nat.reduceMul, Nat.reduceSub, Int.reduceLE, Int.reduceLT, Int.reduceEq, Int.reduceToNat, Int.reducePow, Int.reduceNeg]))
        refine hK _ ?_; clear hK
        refine bwp_ret ?_
        simp -implicitDefEqProofs only [go_sem, ↓reduceIte, Nat.reduceEqDiff, Nat.reduceAdd, Nat.reduceLeDiff, Nat.reduceMul, Nat.reduceSub, Int.reduceLE, Int.reduceLT, Int.reduceEq, Int.reduceToNat, Int.reducePow, Int.reduceNeg]
        refine aend_ret _ rfl rfl ⟨?_, rfl⟩
        simp [fget, k5, ho]
    rw [if_neg k5] at h0
    refine bwp_seq fun K hK => bwp_region rfl ?_
    simp -implicitDefEqProofs only [go_sem, ↓reduceIte, Nat.reduceEqDiff, Nat.reduceAdd, Nat.reduceLeDiff, Nat.reduceMul, Nat.reduceSub, Int.reduceLE, Int.reduceLT, Int.reduceEq, Int.reduceToNat, Int.reducePow, Int.reduceNeg, k5]
    refine hK _ ?_; clear hK
    refine bwp_cond false (by simp [ev, fget, k5]) (fun h => nomatch h) (fun _ => ?_)
    refine bwp_skip ?_
    simp -implicitDefEqProofs only [go_sem, ↓reduceIte, Nat.reduceEqDiff, Nat.reduceAdd, Nat.reduceLeDiff, Nat.reduceMul, Nat.reduceSub, Int.reduceLE, Int.reduceLT, Int.reduceEq, Int.reduceToNat, Int.reducePow, Int.reduceNeg]
    refine hK1 _ ?_; clear hK1
    by_cases k6 : x.kind = 6
    · rw [if_pos k6] at h0
      simp only [Bool.and_eq_true] at h0
      have c1 := refText_pure i6
      have c3 := refOperand_pure i3 i2 h0.1.1.2
      have c4 := refOperand_pure i5 i4 h0.1.2
      refine bwp_seq fun K hK => bwp_region_draw rfl rfl ?_
      simp -implicitDefEqProofs only [go_sem, ↓reduceIte, Nat.reduceEqDiff, Nat.reduceAdd, Nat.reduceLeDiff, Nat.reduceMul, Nat.reduceSub, Int.reduceLE, Int.reduceLT, Int.reduceEq, Int.reduceToNat, Int.reducePow, Int.reduceNeg]
      repeat' (first
        | (refine gateK_split (fun hb => ?_) (fun hb => ?_) <;> simp -implicitDefEqProofs only [go_sem, ↓reduceIte, Nat.reduceEqDiff, Nat.reduceAdd, Nat.reduceLeDiff, Nat.reduceMul, Nat.reduceSub, Int.reduceLE, Int.reduceLT, Int.reduceEq, Int.reduceToNat, Int.reducePow, Int.reduceNeg, hb])
        | (refine dGateK_split (fun hb => ?_) (fun hb => ?_) <;> simp -implicitDefEqProofs only [go_sem, ↓reduceIte, Nat.reduceEqDiff, Nat.reduceAdd, Nat.reduceLeDiff, Nat.reduceMul, Nat.reduceSub, Int.reduceLE, Int.reduceLT, Int.reduceEq, Int.reduceToNat, Int.reducePow, Int.reduceNeg, hb])
        | (refine callK_pure (c1) rfl rfl ?_; simp -implicitDefEqProofs only [go_sem, ↓reduceIte, Nat.reduceEqDiff, Nat.reduceAdd, Nat.reduceLeDiff, Nat.reduceMul, Nat.reduceSub, Int.reduceLE, Int.reduceLT, Int.reduceEq, Int.reduceToNat, Int.reducePow, Int.reduceNeg])
        | (refine dCallK_pure (c1) rfl rfl ?_; simp -implicitDefEqProofs only [go_sem, ↓reduceIte, Nat.reduceEqDiff, Nat.reduceAdd, Nat.reduceLeDiff, Nat.reduceMul, Nat.reduceSub, Int.reduceLE, Int.reduceLT, Int.reduceEq, Int.reduceToNat, Int.reducePow, Int.reduceNeg])
        | (refine callK_pure (c3) rfl rfl ?_; simp -implicitDefEqProofs only [go_sem, ↓reduceIte, Nat.reduceEqDiff, Nat.reduceAdd, Nat.reduceLeDiff, Nat.reduceMul, Nat.reduceSub, Int.reduceLE, Int.reduceLT, Int.reduceEq, Int.reduceToNat, Int.reducePow, Int.reduceNeg])
        | (refine dCallK_pure (c3) rfl rfl ?_; simp -implicitDefEqProofs only [go_sem, ↓reduceIte, Nat.reduceEqDiff, Nat.reduceAdd, Nat.reduceLeDiff, Nat.reduceMul, Nat.reduceSub, Int.reduceLE, Int.reduceLT, Int.reduceEq, Int.reduceToNat, Int.reducePow, Int.reduceNeg])
        | (refine callK_pure (c4) rfl rfl ?_; simp -implicitDefEqProofs only [go_sem, ↓reduceIte, Nat.reduceEqDiff, Nat.reduceAdd, Nat.reduceLeDiff, Nat.reduceMul, Nat.reduceSub, Int.reduceLE, Int.reduceLT, Int.reduceEq, Int.reduceToNat, Int.reducePow, Int.reduceNeg])
        | (refine dCallK_pure (c4) rfl rfl ?_; simp -implicitDefEqProofs only [go_sem, ↓reduceIte, Nat.reduceEqDiff, Nat.reduceAdd, Nat.reduceLeDiff, Nat.reduceMul, Nat.reduceSub, Int.reduceLE, Int.reduceLT, Int.reduceEq, Int.reduceToNat, Int.reducePow, Int.reduceNeg])
        | (rw [if_pos (by (try simp only [List.length_append, List.length_cons, List.length_nil, List.length_map]); omega)]; simp -implicitDefEqProofs only [go_sem, ↓reduceIte, Nat.reduceEqDiff, Nat.reduceAdd, Nat.reduceLeDiff, Nat.reduceMul, Nat.reduceSub, Int.reduceLE, Int.reduceLT, Int.reduceEq, Int.reduceToNat, Int.reducePow, Int.reduceNeg]))
      refine ⟨rfl, hK _ ?_⟩; clear hK
      refine bwp_ret ?_
      simp -implicitDefEqProofs only [go_sem, ↓reduceIte, Nat.reduceEqDiff, Nat.reduceAdd, Nat.reduceLeDiff, Nat.reduceMul, Nat.reduceSub, Int.reduceLE, Int.reduceLT, Int.reduceEq, Int.reduceToNat, Int.reducePow, Int.reduceNeg]
      refine aend_ret _ rfl rfl ⟨?_, rfl⟩
      simp [fget, k6]
    · rw [if_neg k6] at h0
      cases h0
end Go.Proofs.YtpfbljkfbjjlkaaDoor

/- How long a test's text may be, when its rows are as long as memory lets them be. -/
namespace Go.Proofs.YtpfbljkfbjjlkaaDoor
open Go Go.Jq
set_option maxRecDepth 100000
set_option linter.unusedSimpArgs false
def FewC2 (rows : List (List Atom)) : Prop := rows.length ≤ 12 ∧ ∀ l ∈ rows, l.length ≤ 5000000000000 ∧ ∀ a ∈ l, I64a a
theorem FewC.two {rows : List (List Atom)} (h : FewC rows) : FewC2 rows := ⟨h.1, fun l hl => ⟨by have := (h.2 l hl).1; omega, (h.2 l hl).2⟩⟩
structure FewT2 (t : Test) : Prop where
  name : t.name.length ≤ 61
  inits : t.inits.length ≤ 41
  values : ∀ x ∈ t.inits, I64 x.value
  threads : t.threads.length ≤ 7
  ins : ∀ l ∈ t.threads, l.length ≤ 5000000000000 ∧ ∀ x ∈ l, I64i x
  rows : FewC2 t.rows
theorem FewT.two {t : Test} (h : FewT t) : FewT2 t := ⟨h.name, h.inits, h.values, h.threads, fun l hl => ⟨by have := (h.ins l hl).1; omega, (h.ins l hl).2⟩, h.rows.two⟩
theorem rowT_len2 {l : List Atom} (h : l.length ≤ 5000000000000 ∧ ∀ a ∈ l, I64a a) : (rowT l).length ≤ 350000000000000 := by
  have := join_len [32, 38, 32] (l.map atomT) 67 (fun s hs => by
    obtain ⟨a, ha, rfl⟩ := List.mem_map.1 hs
    exact atomT_len (h.2 a ha))
  rw [List.length_map] at this
  have h2 : l.length * 70 ≤ 5000000000000 * 70 := Nat.mul_le_mul_right _ h.1
  unfold rowT
  exact Nat.le_trans this h2
theorem rowsT_len2 {rows : List (List Atom)} (h : FewC2 rows) : (Lib.join (rows.map rowT) [32, 124, 32]).length ≤ 4200000000000036 := by
  have := join_len [32, 124, 32] (rows.map rowT) 350000000000000 (fun s hs => by
    obtain ⟨a, ha, rfl⟩ := List.mem_map.1 hs
    exact rowT_len2 (h.2 a ha))
  rw [List.length_map] at this
  have h2 : rows.length * 350000000000003 ≤ 12 * 350000000000003 := Nat.mul_le_mul_right _ h.1
  exact Nat.le_trans this h2
theorem condT_len2 {kind : Int} {rows : List (List Atom)} (h : FewC2 rows) : (condT kind rows).length ≤ 4200000000000045 := by
  have := rowsT_len2 h
  unfold condT wordT
  split
  · simp
  · split <;> simp <;> omega
theorem threadL_len2 {l : List Ins} (h : l.length ≤ 5000000000000) (hv : ∀ x ∈ l, I64i x) : (threadL l).length ≤ 775000000000011 := by
  have h1 := flat_len insL 155 l (fun x hx => insL_len (hv x hx))
  have h2 : l.length * 155 ≤ 5000000000000 * 155 := Nat.mul_le_mul_right _ h
  simp only [threadL, List.length_append, List.length_cons, List.length_nil]
  omega
end Go.Proofs.YtpfbljkfbjjlkaaDoor

/- The document's text of a condition. -/
namespace Go.Proofs.YtpfbljkfbjjlkaaDoor
open Go Go.Jq
set_option maxRecDepth 100000
set_option linter.unusedSimpArgs false
def rowP (first : Bool) (l : List Atom) : List UInt8 := if l = [] then [] else (if first then [32] else [32, 124, 32]) ++ rowT l
def rowsP (rows : List (List Atom)) : List UInt8 := if rows = [] then [] else [32] ++ Lib.join (rows.map rowT) [32, 124, 32]
theorem join_snoc (s x : List UInt8) {l : List (List UInt8)} (h : l ≠ []) : Lib.join (l ++ [x]) s = Lib.join l s ++ s ++ x := by
  rw [join_app s l [x] h (by simp), Lib.join_one]
theorem rowP_snoc (first : Bool) (l : List Atom) (a : Atom) : rowP first (l ++ [a]) = rowP first l ++ (if l = [] then (if first then [32] else [32, 124, 32]) else [32, 38, 32]) ++ atomT a := by
  unfold rowP rowT
  rw [if_neg (by simp), List.map_append]
  by_cases h : l = []
  · subst h; simp [Lib.join_one]
  · rw [if_neg h, if_neg h, List.map_singleton, join_snoc _ _ (by simpa using h)]
    simp
theorem rowsP_snoc (rows : List (List Atom)) (l : List Atom) (hl : l ≠ []) : rowsP (rows ++ [l]) = rowsP rows ++ rowP (decide (rows = [])) l := by
  unfold rowsP rowP
  rw [if_neg (by simp), if_neg hl, List.map_append]
  by_cases h : rows = []
  · subst h; simp [Lib.join_one]
  · rw [if_neg h, List.map_singleton, join_snoc _ _ (by simpa using h)]
    simp [h]
theorem rowP_len {first : Bool} {l : List Atom} (h : l.length ≤ 5000000000000 ∧ ∀ a ∈ l, I64a a) : (rowP first l).length ≤ 350000000000003 := by
  have := rowT_len2 h
  unfold rowP
  split
  · simp
  · split <;> simp <;> omega
theorem rowsP_len {rows : List (List Atom)} (h : FewC2 rows) : (rowsP rows).length ≤ 4200000000000037 := by
  have := rowsT_len2 h
  unfold rowsP
  split
  · simp
  · simp; omega
def rdS (kd : Int) (A : DV) (s : List UInt8) (ex : Fr) : St := ⟨ex ++ [(1, .ptr 0 0), (3, .d (.str s))], [(0, [.d (.int .i64 kd), .d A])], 1⟩
set_option maxHeartbeats 4000000 in
theorem rd_row {kd : Int} {A : DV} {rows : List (List Atom)} (hA : IsSl2 Atom.cells rows A) {i : Nat} (hi : i < rows.length) (h12 : rows[i].length ≤ 5000000000000) (ha : ∀ a ∈ rows[i], I64a a) (hok : ∀ a ∈ rows[i], okAtomB a = true) {s : List UInt8} (hs : s.length ≤ 5000000000000000) {Q : Exit → St → Prop}
    (hQ : Q (.exit 2) (rdS kd A (s ++ rowP (decide (i = 0)) rows[i]) [(4, .d (.int .i64 i))])) :
    BWP Tryd.prog (mbound []) 83 (.loop ac67L0) (rdS kd A s [(5, .d (.int .i64 (0 : Nat))), (4, .d (.int .i64 i))]) Q := by
  have hbig := hA.big
  obtain ⟨ts, d, rest0, hAe, hd1, hjc, hD⟩ := hA.at i hi
  have hi' : (i : Int) < rows.length := by omega
  generalize rows[i] = l at *
  have e0 : s = s ++ rowP (decide (i = 0)) (l.take 0) := by simp [rowP]
  rw [e0]
  refine bwp_count (fun k => rdS kd A (s ++ rowP (decide (i = 0)) (l.take k)) [(5, .d (.int .i64 k)), (4, .d (.int .i64 i))]) l.length ?_
  intro k hk
  have hbl : (rowP (decide (i = 0)) (l.take k)).length ≤ 350000000000003 := rowP_len ⟨by simp; omega, fun a h => ha a (List.mem_of_mem_take h)⟩
  have hemp : (l.take k = []) ↔ k = 0 ∨ l = [] := by rw [List.take_eq_nil_iff]
  generalize hX : s ++ rowP (decide (i = 0)) (l.take k) = X
  have hXl : X.length ≤ 5400000000000000 := by rw [← hX, List.length_append]; omega
  unfold ac67L0 rdS
  simp only [List.cons_append, List.nil_append]
  refine bwp_seq fun K1 hK1 => ?_
  by_cases hlt : k < l.length
  · have hlt' : (k : Int) < l.length := by omega
    obtain ⟨cs, rest, hDe, hdrop, hcs⟩ := hD.at atom_len (by omega) k hlt
    obtain ⟨a1, a2, a3⟩ := ha l[k] (List.getElem_mem hlt)
    have hoka := hok l[k] (List.getElem_mem hlt)
    have hln : l ≠ [] := fun h => by rw [h] at hlt; simp at hlt
    have hnx : s ++ rowP (decide (i = 0)) (l.take (k + 1)) = X ++ (if k = 0 then (if i = 0 then [32] else [32, 124, 32]) else [32, 38, 32]) ++ atomT l[k] := by
      rw [List.take_succ_eq_append_getElem hlt, rowP_snoc, ← hX]
      have : (l.take k = []) = (k = 0) := by rw [propext hemp]; simp [hln]
      simp only [this, decide_eq_true_eq, List.append_assoc]
    generalize l[k] = a at hdrop a1 a2 a3 hoka hnx
    have hw : IntKind.i64.wrap ((k : Int) + 1) = ((k + 1 : Nat) : Int) := by rw [wrap_i64 (by omega) (by omega)]; rfl
    have l1 := itoa_len a1
    have l2 := regT_len a2
    have l3 := itoa_len a3
    have l4 : (locT a.loc).length ≤ 4 := utf8_len _
    refine bwp_seq fun K hK => bwp_region rfl ?_
    simp only [go_sem, ↓reduceIte, Nat.reduceEqDiff, Nat.reduceAdd, hAe, hi', Int.natCast_nonneg, Int.toNat_natCast, hd1, hjc, hD.len, hlt']
    refine hK _ ?_; clear hK
    refine bwp_cond true (by simp [ev, fget, hlt']) (fun _ => ?_) (fun h => nomatch h)
    refine bwp_skip ?_
    refine hK1 _ ?_; clear hK1
    refine bwp_seq fun K1 hK1 => ?_
    refine bwp_block ?_
    refine bwp_seq fun K hK => bwp_region rfl ?_
    simp only [go_sem, ↓reduceIte, Nat.reduceEqDiff, Nat.reduceAdd, hAe, hi', hlt', Int.natCast_nonneg, Int.toNat_natCast, hd1, hjc, hDe, hcs, hdrop, Atom.cells]
    refine hK _ ?_; clear hK
    refine bwp_seq fun K2 hK2 => ?_
    have fin2 : ∀ (S : St) (Y : List UInt8), Y.length ≤ 5500000000000000 → (k = 0 → i = 0 → Y = X) → (k = 0 → i ≠ 0 → Y = X ++ [32, 124]) → (k ≠ 0 → Y = X ++ [32, 38]) →
        Leads (mbound []) 83 S ⟨[(6, .ptr 1 0), (3, .d (.str Y)), (5, .d (.int .i64 k)), (4, .d (.int .i64 i)), (1, .ptr 0 0)], [(0, [.d (.int .i64 kd), .d A]), (1, (Atom.cells a).map .d)], 2⟩ → K2 S := by
      intro S Y hYl y1 y2 y3 hS
      have hY : s ++ rowP (decide (i = 0)) (l.take (k + 1)) = Y ++ [32] ++ atomT a := by
        rw [hnx]
        by_cases hk0 : k = 0
        · by_cases hi0 : i = 0
          · rw [y1 hk0 hi0]; simp [hk0, hi0]
          · rw [y2 hk0 hi0]; simp [hk0, hi0]
        · rw [y3 hk0]; simp [hk0]
      refine hK2 _ ?_; clear hK2
      refine bwp_leads hS ?_
      have hw : IntKind.i64.wrap ((k : Int) + 1) = ((k + 1 : Nat) : Int) := by rw [wrap_i64 (by omega) (by omega)]; rfl
      have hoka' := hoka
      unfold okAtomB at hoka'
      by_cases ht : a.thread = -1
      · rw [if_pos ht] at hoka'
        simp only [Bool.and_eq_true] at hoka'
        have c1 := refLoc_pure hoka'.2
        have c2 := refText_pure a3
        have hge : ¬ (0 : Int) ≤ a.thread := by omega
        refine bwp_seq fun K hK => bwp_region rfl ?_
        simp only [go_sem, ↓reduceIte, Nat.reduceEqDiff, Nat.reduceAdd, Atom.cells, List.map_cons, List.map_nil, hge]
        refine hK _ ?_; clear hK
        refine bwp_cond false (by simp [ev, fget, hge]) (fun h => nomatch h) (fun _ => ?_)
        refine bwp_region_draw rfl rfl ?_
        simp only [go_sem, ↓reduceIte, Nat.reduceEqDiff, Nat.reduceAdd]
        repeat' (first
          | (refine gateK_split (fun hb => ?_) (fun hb => ?_) <;> simp only [go_sem, ↓reduceIte, Nat.reduceEqDiff, Nat.reduceAdd, hb])
          | (refine dGateK_split (fun hb => ?_) (fun hb => ?_) <;> simp only [go_sem, ↓reduceIte, Nat.reduceEqDiff, Nat.reduceAdd, hb])
          | (refine callK_pure (c1) rfl rfl ?_; simp only [go_sem, ↓reduceIte, Nat.reduceEqDiff, Nat.reduceAdd])
          | (refine dCallK_pure (c1) rfl rfl ?_; simp only [go_sem, ↓reduceIte, Nat.reduceEqDiff, Nat.reduceAdd])
          | (refine callK_pure (c2) rfl rfl ?_; simp only [go_sem, ↓reduceIte, Nat.reduceEqDiff, Nat.reduceAdd])
          | (refine dCallK_pure (c2) rfl rfl ?_; simp only [go_sem, ↓reduceIte, Nat.reduceEqDiff, Nat.reduceAdd])
          | (rw [if_pos (by (try simp only [List.length_append, List.length_cons, List.length_nil, List.length_map]); omega)]; simp only [go_sem, ↓reduceIte, Nat.reduceEqDiff, Nat.reduceAdd]))
        refine ⟨rfl, hK1 _ ?_⟩; clear hK1
        refine bwp_region rfl ?_
        simp only [go_sem, ↓reduceIte, Nat.reduceEqDiff, Nat.reduceAdd, hw]
        rw [hY]
        exact ⟨hlt, (Leads.ent [(0, 0)] ⟨by simp [entT, fget, AV.ren, renL, pget, atomT, ht, List.append_assoc], by simp [entM, pinv, mget, mset, renL, AV.ren, pget, renL_append, -List.map_map, atomT, ht, List.append_assoc], rfl, rfl⟩)⟩
      · rw [if_neg ht] at hoka'
        simp only [Bool.and_eq_true, decide_eq_true_eq] at hoka'
        have c1 := refText_pure a1
        have c2 := refText_pure a3
        have c3 := refReg_pure a2
        have hge : (0 : Int) ≤ a.thread := by omega
        refine bwp_seq fun K hK => bwp_region rfl ?_
        simp only [go_sem, ↓reduceIte, Nat.reduceEqDiff, Nat.reduceAdd, Atom.cells, List.map_cons, List.map_nil, hge]
        refine hK _ ?_; clear hK
        refine bwp_cond true (by simp [ev, fget, hge]) (fun _ => ?_) (fun h => nomatch h)
        refine bwp_region_draw rfl rfl ?_
        simp only [go_sem, ↓reduceIte, Nat.reduceEqDiff, Nat.reduceAdd]
        repeat' (first
          | (refine gateK_split (fun hb => ?_) (fun hb => ?_) <;> simp only [go_sem, ↓reduceIte, Nat.reduceEqDiff, Nat.reduceAdd, hb])
          | (refine dGateK_split (fun hb => ?_) (fun hb => ?_) <;> simp only [go_sem, ↓reduceIte, Nat.reduceEqDiff, Nat.reduceAdd, hb])
          | (refine callK_pure (c1) rfl rfl ?_; simp only [go_sem, ↓reduceIte, Nat.reduceEqDiff, Nat.reduceAdd])
          | (refine dCallK_pure (c1) rfl rfl ?_; simp only [go_sem, ↓reduceIte, Nat.reduceEqDiff, Nat.reduceAdd])
          | (refine callK_pure (c2) rfl rfl ?_; simp only [go_sem, ↓reduceIte, Nat.reduceEqDiff, Nat.reduceAdd])
          | (refine dCallK_pure (c2) rfl rfl ?_; simp only [go_sem, ↓reduceIte, Nat.reduceEqDiff, Nat.reduceAdd])
          | (refine callK_pure (c3) rfl rfl ?_; simp only [go_sem, ↓reduceIte, Nat.reduceEqDiff, Nat.reduceAdd])
          | (refine dCallK_pure (c3) rfl rfl ?_; simp only [go_sem, ↓reduceIte, Nat.reduceEqDiff, Nat.reduceAdd])
          | (rw [if_pos (by (try simp only [List.length_append, List.length_cons, List.length_nil, List.length_map]); omega)]; simp only [go_sem, ↓reduceIte, Nat.reduceEqDiff, Nat.reduceAdd]))
        refine ⟨rfl, hK1 _ ?_⟩; clear hK1
        refine bwp_region rfl ?_
        simp only [go_sem, ↓reduceIte, Nat.reduceEqDiff, Nat.reduceAdd, hw]
        rw [hY]
        exact ⟨hlt, (Leads.ent [(0, 0)] ⟨by simp [entT, fget, AV.ren, renL, pget, atomT, ht, List.append_assoc], by simp [entM, pinv, mget, mset, renL, AV.ren, pget, renL_append, -List.map_map, atomT, ht, List.append_assoc], rfl, rfl⟩)⟩
    by_cases hk0 : k = 0
    · have g1 : ¬ (0 : Int) < (k : Int) := by omega
      refine bwp_seq fun K hK => bwp_region rfl ?_
      simp only [go_sem, ↓reduceIte, Nat.reduceEqDiff, Nat.reduceAdd, g1]
      refine hK _ ?_; clear hK
      refine bwp_cond false (by simp [ev, fget, g1]) (fun h => nomatch h) (fun _ => ?_)
      by_cases hi0 : i = 0
      · have g2 : ¬ (0 : Int) < (i : Int) := by omega
        refine bwp_seq fun K hK => bwp_region rfl ?_
        simp only [go_sem, ↓reduceIte, Nat.reduceEqDiff, Nat.reduceAdd, g2]
        refine hK _ ?_; clear hK
        refine bwp_cond false (by simp [ev, fget, g2]) (fun h => nomatch h) (fun _ => ?_)
        refine bwp_skip ?_
        refine fin2 _ X (by omega) (fun _ _ => rfl) (fun _ h => absurd hi0 h) (fun h => absurd hk0 h) ?_
        exact Leads.ent [(0, 0), (1, 1)] ⟨by simp [entT, fget, AV.ren, renL, pget], by simp [entM, pinv, mget, mset, renL, AV.ren, pget, Atom.cells, hAe], rfl, rfl⟩
      · have g2 : (0 : Int) < (i : Int) := by omega
        refine bwp_seq fun K hK => bwp_region rfl ?_
        simp only [go_sem, ↓reduceIte, Nat.reduceEqDiff, Nat.reduceAdd, g2]
        refine hK _ ?_; clear hK
        refine bwp_cond true (by simp [ev, fget, g2]) (fun _ => ?_) (fun h => nomatch h)
        refine bwp_region rfl ?_
        simp only [go_sem, ↓reduceIte, Nat.reduceEqDiff, Nat.reduceAdd]
        repeat' (first
          | (refine gateK_split (fun hb => ?_) (fun hb => ?_) <;> simp only [go_sem, ↓reduceIte, Nat.reduceEqDiff, Nat.reduceAdd, hb])
          | (refine dGateK_split (fun hb => ?_) (fun hb => ?_) <;> simp only [go_sem, ↓reduceIte, Nat.reduceEqDiff, Nat.reduceAdd, hb])
          | (rw [if_pos (by (try simp only [List.length_append, List.length_cons, List.length_nil, List.length_map]); omega)]; simp only [go_sem, ↓reduceIte, Nat.reduceEqDiff, Nat.reduceAdd]))
        refine fin2 _ (X ++ [32, 124]) (by simp; omega) (fun _ h => absurd h hi0) (fun _ _ => rfl) (fun h => absurd hk0 h) ?_
        exact Leads.ent [(0, 0), (1, 1)] ⟨by simp [entT, fget, AV.ren, renL, pget], by simp [entM, pinv, mget, mset, renL, AV.ren, pget, Atom.cells, hAe], rfl, rfl⟩
    · have g1 : (0 : Int) < (k : Int) := by omega
      refine bwp_seq fun K hK => bwp_region rfl ?_
      simp only [go_sem, ↓reduceIte, Nat.reduceEqDiff, Nat.reduceAdd, g1]
      refine hK _ ?_; clear hK
      refine bwp_cond true (by simp [ev, fget, g1]) (fun _ => ?_) (fun h => nomatch h)
      refine bwp_region rfl ?_
      simp only [go_sem, ↓reduceIte, Nat.reduceEqDiff, Nat.reduceAdd]
      repeat' (first
        | (refine gateK_split (fun hb => ?_) (fun hb => ?_) <;> simp only [go_sem, ↓reduceIte, Nat.reduceEqDiff, Nat.reduceAdd, hb])
        | (refine dGateK_split (fun hb => ?_) (fun hb => ?_) <;> simp only [go_sem, ↓reduceIte, Nat.reduceEqDiff, Nat.reduceAdd, hb])
        | (rw [if_pos (by (try simp only [List.length_append, List.length_cons, List.length_nil, List.length_map]); omega)]; simp only [go_sem, ↓reduceIte, Nat.reduceEqDiff, Nat.reduceAdd]))
      refine fin2 _ (X ++ [32, 38]) (by simp; omega) (fun h => absurd h hk0) (fun h => absurd h hk0) (fun _ => rfl) ?_
      exact Leads.ent [(0, 0), (1, 1)] ⟨by simp [entT, fget, AV.ren, renL, pget], by simp [entM, pinv, mget, mset, renL, AV.ren, pget, Atom.cells, hAe], rfl, rfl⟩
  · have hlt' : ¬ (k : Int) < l.length := by omega
    have hin : k = l.length := by omega
    subst hin
    refine bwp_seq fun K hK => bwp_region rfl ?_
    simp only [go_sem, ↓reduceIte, Nat.reduceEqDiff, Nat.reduceAdd, hAe, hi', Int.natCast_nonneg, Int.toNat_natCast, hd1, hjc, hD.len, hlt']
    refine hK _ ?_; clear hK
    refine bwp_cond false (by simp [ev, fget, hlt']) (fun h => nomatch h) (fun _ => ?_)
    rw [List.take_length] at hX
    refine bwp_leads (S' := rdS kd A (s ++ rowP (decide (i = 0)) l) [(4, .d (.int .i64 i))]) (Leads.ent [(0, 0)] ⟨by simp [entT, fget, AV.ren, renL, pget, rdS, hX, hAe], by simp [entM, pinv, mget, mset, renL, AV.ren, pget, renL_append, -List.map_map, rdS, hX, hAe], rfl, rfl⟩) ?_
    exact bwp_exit hQ
set_option maxHeartbeats 4000000 in
theorem rd_rows {kd : Int} {A : DV} {rows : List (List Atom)} (hA : IsSl2 Atom.cells rows A) (hf : FewC2 rows) (hok : ∀ l ∈ rows, l ≠ [] ∧ ∀ a ∈ l, okAtomB a = true) {s : List UInt8} (hs : s.length ≤ 1000) {Q : Exit → St → Prop}
    (hQ : Q (.exit 0) (rdS kd A (s ++ rowsP rows) [])) :
    BWP Tryd.prog (mbound []) 83 (.loop ac67L1) (rdS kd A s [(4, .d (.int .i64 (0 : Nat)))]) Q := by
  have hbig := hA.big
  have e0 : s = s ++ rowsP (rows.take 0) := by simp [rowsP]
  rw [e0]
  refine bwp_count (fun i => rdS kd A (s ++ rowsP (rows.take i)) [(4, .d (.int .i64 i))]) rows.length ?_
  intro i hi
  have hbl : (rowsP (rows.take i)).length ≤ 4200000000000037 := rowsP_len ⟨by have := hf.1; simp; omega, fun l h => hf.2 l (List.mem_of_mem_take h)⟩
  generalize hX : s ++ rowsP (rows.take i) = X
  have hXl : X.length ≤ 5000000000000000 := by rw [← hX, List.length_append]; omega
  unfold ac67L1 rdS
  simp only [List.cons_append, List.nil_append]
  refine bwp_seq fun K1 hK1 => ?_
  by_cases hlt : i < rows.length
  · have hlt' : (i : Int) < rows.length := by omega
    have hm := List.getElem_mem hlt
    have hw : IntKind.i64.wrap ((i : Int) + 1) = ((i + 1 : Nat) : Int) := by rw [wrap_i64 (by omega) (by omega)]; rfl
    have hnx : s ++ rowsP (rows.take (i + 1)) = X ++ rowP (decide (i = 0)) rows[i] := by
      rw [List.take_succ_eq_append_getElem hlt, rowsP_snoc _ _ (hok _ hm).1, ← hX, List.append_assoc]
      have hr : rows ≠ [] := fun h => by rw [h] at hlt; simp at hlt
      have : (rows.take i = []) = (i = 0) := by apply propext; rw [List.take_eq_nil_iff]; simp [hr]
      simp only [this]
    refine bwp_seq fun K hK => bwp_region rfl ?_
    simp only [go_sem, ↓reduceIte, Nat.reduceEqDiff, Nat.reduceAdd, hA.len, hlt']
    refine hK _ ?_; clear hK
    refine bwp_cond true (by simp [ev, fget, hlt']) (fun _ => ?_) (fun h => nomatch h)
    refine bwp_skip ?_
    refine hK1 _ ?_; clear hK1
    refine bwp_seq fun K1 hK1 => ?_
    refine bwp_block ?_
    refine bwp_seq fun K hK => bwp_region rfl ?_
    simp only [go_sem, ↓reduceIte, Nat.reduceEqDiff, Nat.reduceAdd]
    refine hK _ ?_; clear hK
    refine bwp_block ?_
    refine bwp_leads (S' := rdS kd A X [(5, .d (.int .i64 (0 : Nat))), (4, .d (.int .i64 i))]) (Leads.ent [(0, 0)] ⟨by simp [entT, fget, AV.ren, renL, pget, rdS], by simp [entM, pinv, mget, mset, renL, AV.ren, pget, renL_append, -List.map_map, rdS], rfl, rfl⟩) ?_
    refine rd_row hA hlt (hf.2 _ hm).1 (hf.2 _ hm).2 (hok _ hm).2 hXl ?_
    unfold rdS
    simp only [List.cons_append, List.nil_append]
    simp only [go_sem, ↓reduceIte, Nat.reduceEqDiff, Nat.reduceAdd]
    refine hK1 _ ?_; clear hK1
    refine bwp_region rfl ?_
    simp only [go_sem, ↓reduceIte, Nat.reduceEqDiff, Nat.reduceAdd, hw]
    rw [hnx]
    exact ⟨hlt, (Leads.ent [(0, 0)] ⟨by simp [entT, fget, AV.ren, renL, pget], by simp [entM, pinv, mget, mset, renL, AV.ren, pget, renL_append, -List.map_map], rfl, rfl⟩)⟩
  · have hlt' : ¬ (i : Int) < rows.length := by omega
    have hin : i = rows.length := by omega
    subst hin
    refine bwp_seq fun K hK => bwp_region rfl ?_
    simp only [go_sem, ↓reduceIte, Nat.reduceEqDiff, Nat.reduceAdd, hA.len, hlt']
    refine hK _ ?_; clear hK
    refine bwp_cond false (by simp [ev, fget, hlt']) (fun h => nomatch h) (fun _ => ?_)
    rw [List.take_length] at hX
    refine bwp_leads (S' := rdS kd A (s ++ rowsP rows) []) (Leads.ent [(0, 0)] ⟨by simp [entT, fget, AV.ren, renL, pget, rdS, hX], by simp [entM, pinv, mget, mset, renL, AV.ren, pget, renL_append, -List.map_map, rdS, hX], rfl, rfl⟩) ?_
    exact bwp_exit hQ
set_option maxHeartbeats 4000000 in
theorem refCondT_pure {kd : Int} {A : DV} {rows : List (List Atom)} (hA : IsSl2 Atom.cells rows A) (hf : FewC2 rows) : Pure Tryd.prog 67 [.agg [.d (.int .i64 kd), .d A]] (.d (.str (condT kd rows))) := by
  have hok := refCond_pure hA kd
  refine acalls_of Tryd.func67 ac67_ok Tryd.ntmps67 Tryd.results67 rfl ?_
  unfold ac67
  refine bwp_seq fun K hK => bwp_region rfl ?_
  simp only [go_sem, ↓reduceIte, Nat.reduceEqDiff, Nat.reduceAdd]
  refine hK _ ?_; clear hK
  refine bwp_seq fun K1 hK1 => ?_
  refine bwp_seq fun K hK => bwp_region rfl ?_
  simp only [go_sem, ↓reduceIte, Nat.reduceEqDiff, Nat.reduceAdd]
  refine callK_pure hok rfl rfl ?_
  cases hb : okCondB kd rows with
  | false =>
    simp only [go_sem, ↓reduceIte, Nat.reduceEqDiff, Nat.reduceAdd]
    refine hK _ ?_; clear hK
    refine bwp_cond true (by simp [ev, fget]) (fun _ => ?_) (fun h => nomatch h)
    refine bwp_seq fun K hK => bwp_region rfl ?_
    simp only [go_sem, ↓reduceIte, Nat.reduceEqDiff, Nat.reduceAdd]
    refine hK _ ?_; clear hK
    refine bwp_ret ?_
    simp only [go_sem]
    refine aend_ret _ rfl rfl ⟨?_, rfl⟩
    simp [fget, condT, hb]
  | true =>
    by_cases h0 : kd = 0
    · simp only [go_sem, ↓reduceIte, Nat.reduceEqDiff, Nat.reduceAdd, h0]
      refine hK _ ?_; clear hK
      refine bwp_cond true (by simp [ev, fget]) (fun _ => ?_) (fun h => nomatch h)
      refine bwp_seq fun K hK => bwp_region rfl ?_
      simp only [go_sem, ↓reduceIte, Nat.reduceEqDiff, Nat.reduceAdd]
      refine hK _ ?_; clear hK
      refine bwp_ret ?_
      simp only [go_sem]
      refine aend_ret _ rfl rfl ⟨?_, rfl⟩
      simp [fget, condT, h0]
    · obtain ⟨hk, hne, hall⟩ := rows_ok h0 hb
      simp only [go_sem, ↓reduceIte, Nat.reduceEqDiff, Nat.reduceAdd, h0]
      refine hK _ ?_; clear hK
      refine bwp_cond false (by simp [ev, fget, h0]) (fun h => nomatch h) (fun _ => ?_)
      refine bwp_skip ?_
      refine hK1 _ ?_; clear hK1
      refine bwp_seq fun K hK => bwp_region rfl ?_
      simp only [go_sem, ↓reduceIte, Nat.reduceEqDiff, Nat.reduceAdd]
      refine hK _ ?_; clear hK
      refine bwp_seq fun K2 hK2 => ?_
      have hct : condT kd rows = askW kd ++ rowsP rows ++ [32, 59] := by
        unfold condT rowsP
        rw [if_neg (by simp [h0, hb]), wordT_eq, if_neg hne]
        simp
      have hrl := rowsP_len hf
      have hkl : (askW kd).length ≤ 6 := by unfold askW; split <;> simp
      have fin : ∀ S : St, Leads (mbound []) 83 S (rdS kd A (askW kd) []) → K2 S := by
        intro S hS
        refine hK2 _ ?_; clear hK2
        refine bwp_leads hS ?_
        unfold rdS
        simp only [List.nil_append]
        refine bwp_seq fun K3 hK3 => ?_
        refine bwp_seq fun K hK => bwp_region rfl ?_
        simp only [go_sem, ↓reduceIte, Nat.reduceEqDiff, Nat.reduceAdd]
        refine hK _ ?_; clear hK
        refine bwp_block ?_
        refine bwp_leads (S' := rdS kd A (askW kd) [(4, .d (.int .i64 (0 : Nat)))]) (Leads.ent [(0, 0)] ⟨by simp [entT, fget, AV.ren, renL, pget, rdS], by simp [entM, pinv, mget, mset, renL, AV.ren, pget, renL_append, -List.map_map, rdS], rfl, rfl⟩) ?_
        refine rd_rows hA hf hall (by omega) ?_
        unfold rdS
        simp only [List.nil_append]
        simp only [go_sem, ↓reduceIte, Nat.reduceEqDiff, Nat.reduceAdd]
        refine hK3 _ ?_; clear hK3
        refine bwp_seq fun K hK => bwp_region rfl ?_
        simp only [go_sem, ↓reduceIte, Nat.reduceEqDiff, Nat.reduceAdd]
        repeat' (first
          | (refine gateK_split (fun hb => ?_) (fun hb => ?_) <;> simp only [go_sem, ↓reduceIte, Nat.reduceEqDiff, Nat.reduceAdd, hb])
          | (refine dGateK_split (fun hb => ?_) (fun hb => ?_) <;> simp only [go_sem, ↓reduceIte, Nat.reduceEqDiff, Nat.reduceAdd, hb])
          | (rw [if_pos (by (try simp only [List.length_append, List.length_cons, List.length_nil, List.length_map]); omega)]; simp only [go_sem, ↓reduceIte, Nat.reduceEqDiff, Nat.reduceAdd]))
        refine hK _ ?_; clear hK
        refine bwp_ret ?_
        simp only [go_sem]
        refine aend_ret _ rfl rfl ⟨?_, rfl⟩
        simp [fget, hct]
      by_cases h2 : kd = 2
      · refine bwp_seq fun K hK => bwp_region rfl ?_
        simp only [go_sem, ↓reduceIte, Nat.reduceEqDiff, Nat.reduceAdd, h2]
        refine hK _ ?_; clear hK
        refine bwp_cond true (by simp [ev, fget, h2]) (fun _ => ?_) (fun h => nomatch h)
        refine bwp_region rfl ?_
        simp only [go_sem, ↓reduceIte, Nat.reduceEqDiff, Nat.reduceAdd]
        exact fin _ (Leads.ent [(0, 0)] ⟨by simp [entT, fget, AV.ren, renL, pget, rdS, askW, h2], by simp [entM, pinv, mget, mset, mdel, renL, AV.ren, pget, renL_append, -List.map_map, rdS, askW, h2], rfl, rfl⟩)
      · refine bwp_seq fun K hK => bwp_region rfl ?_
        simp only [go_sem, ↓reduceIte, Nat.reduceEqDiff, Nat.reduceAdd, h2]
        refine hK _ ?_; clear hK
        refine bwp_cond false (by simp [ev, fget, h2]) (fun h => nomatch h) (fun _ => ?_)
        refine bwp_skip ?_
        exact fin _ (Leads.ent [(0, 0)] ⟨by simp [entT, fget, AV.ren, renL, pget, rdS, askW, h2], by simp [entM, pinv, mget, mset, mdel, renL, AV.ren, pget, renL_append, -List.map_map, rdS, askW, h2], rfl, rfl⟩)
end Go.Proofs.YtpfbljkfbjjlkaaDoor
