/- What the test made of numbers comes to, told without a heap: its model. -/
import Derived.Test.YtgfkgngpganllaaDoorD1
import Derived.Test.YtgfkgngpganllaaDoorT0
namespace Go.Proofs.YtgfkgngpganllaaDoor
open Go Go.Jq
set_option maxRecDepth 100000
set_option linter.unusedSimpArgs false

/-- One number's instruction, and how many of its instructions touch memory. -/
def smallLoc (locs x : Nat) : Nat := 120 + x / 16 % locs
def smallVal (x : Nat) : Opnd := if x / 256 % 3 = 0 then ⟨(x / 1024 % 2 : Nat), 0⟩ else ⟨-1, (x / 64 % 3 : Nat)⟩
def smallReg (x : Nat) : Nat := x / 2048 % 2
def smallIns (locs x : Nat) : List Ins :=
  if x % 12 < 4 then [⟨1, 0, smallLoc locs x, smallVal x, 0, ⟨0, 0⟩, 0⟩]
  else if x % 12 < 8 then [⟨2, smallReg x, smallLoc locs x, ⟨0, 0⟩, 0, ⟨0, 0⟩, 0⟩]
  else if x % 12 = 8 then [⟨3, 0, 0, ⟨0, 0⟩, 0, ⟨0, 0⟩, 0⟩]
  else if x % 12 = 9 then [⟨4, smallReg x, smallLoc locs x, smallVal x, 0, ⟨-1, 1⟩, 0⟩]
  else if x % 12 = 10 then [⟨5, smallReg x, 0, smallVal x, 6, ⟨-1, 1⟩, 0⟩]
  else [⟨6, 0, 0, smallVal x, 0, ⟨-1, 0⟩, 1⟩, ⟨1, 0, smallLoc locs x, ⟨-1, 2⟩, 0, ⟨0, 0⟩, 0⟩]
def smallMem (x : Nat) : Nat := if x % 12 = 8 ∨ x % 12 = 10 then 0 else 1

/-- A thread: k: how many numbers at most; a: the next number's place; mem: what touches memory so far. -/
def smallThread (ls : List Int) (locs most : Nat) : Nat → Nat → Nat → List Ins → Nat × Nat × List Ins
  | 0, a, mem, s => (a, mem, s)
  | k + 1, a, mem, s => if mem < most then smallThread ls locs most k (a + 1) (mem + smallMem (nxN ls a)) (s ++ smallIns locs (nxN ls a)) else (a, mem, s)

def smallThreads (ls : List Int) (locs most : Nat) : Nat → Nat → Nat → List (List Ins) → Nat × List (List Ins)
  | 0, a, _, ts => (a, ts)
  | n + 1, a, mem, ts =>
    let r := smallThread ls locs most (nxN ls a % 3 + 1) (a + 1) mem []
    smallThreads ls locs most n r.1 r.2.1 (ts ++ [r.2.2])

/-- The state in a thread's loop. -/
def smT (X : DV) (n locs most i mem : Nat) (s : List Ins) : Fr :=
  [(1, .d (.int .i64 most)), (4, .ptr 0 0), (5, .ptr 1 0), (7, .fn 22 [.ptr 2 0, .dptr [X]]), (8, .d (.int .i64 n)), (9, .d (.int .i64 locs)), (10, .d (.int .i64 mem)), (11, .d (.int .i64 i)), (12, .sl 4 9 0 s.length)]
def smM (Iv : DV) (ds : List DV) (i a : Nat) (s : List Ins) : Mem :=
  [(0, [.d (.str []), .d .nsl, .d .nsl, .d (.int .i64 0), .d .nsl]), (1, [.d (.str [116]), .d Iv, .sl 3 1 0 i, .d (.int .i64 0), .d .nsl]), (2, [.d (.int .i64 a)]), (3, ds.map .d), (4, (s.flatMap Ins.cells).map .d)]
def smS (X Iv : DV) (ds : List DV) (n locs most i k a mem : Nat) (s : List Ins) : St := ⟨(13, .d (.int .i64 k)) :: smT X n locs most i mem s, smM Iv ds i a s, 5⟩
def smE (X Iv : DV) (ds : List DV) (n locs most i a mem : Nat) (s : List Ins) : St := ⟨smT X n locs most i mem s, smM Iv ds i a s, 5⟩

theorem insLen (s : List Ins) : (s.flatMap Ins.cells).length = s.length * 9 := by
  induction s with
  | nil => rfl
  | cons a l ih => rw [List.flatMap_cons, List.length_append, ih, List.length_cons, Nat.succ_mul, Nat.add_comm]; rfl

set_option maxHeartbeats 4000000 in
theorem small_loop {ls : List Int} {X Iv : DV} (hX : IsInts ls X) {ds : List DV} {n locs most i : Nat} (hl0 : 0 < locs) (hl : locs ≤ 10) (hmost : most ≤ 1000) {Q : Exit → St → Prop} :
    ∀ (k a mem : Nat) (s : List Ins), k ≤ 10 → a + k ≤ 1000000 → mem + k ≤ 1000000 → s.length + 2 * k ≤ 1000000 →
      Q (.exit 2) (smE X Iv ds n locs most i (smallThread ls locs most k a mem s).1 (smallThread ls locs most k a mem s).2.1 (smallThread ls locs most k a mem s).2.2) → BWP Tryd.prog (mbound []) 184 (.loop ac8L0) (smS X Iv ds n locs most i k a mem s) Q := by
  intro k a mem s hk ha hme hs hQ
  refine bwp_loop (fun S => ∃ k' a' mem' s', k' ≤ 10 ∧ a' + k' ≤ 1000000 ∧ mem' + k' ≤ 1000000 ∧ s'.length + 2 * k' ≤ 1000000 ∧ smallThread ls locs most k' a' mem' s' = smallThread ls locs most k a mem s ∧ S = smS X Iv ds n locs most i k' a' mem' s')
    (fun S => match fget S.t 13 with
      | .d (.int _ k) => k.toNat
      | _ => 0) ⟨k, a, mem, s, hk, ha, hme, hs, rfl, rfl⟩ ?_
  rintro S ⟨k, a, mem, s, hk, ha, hme, hs, hrec, rfl⟩
  rw [← hrec] at hQ
  unfold ac8L0 smS smT smM
  have stop : ∀ (t : Fr), fget t 57 = .d (.bool false) → fget t 1 = .d (.int .i64 most) → fget t 4 = .ptr 0 0 → fget t 5 = .ptr 1 0 → fget t 7 = .fn 22 [.ptr 2 0, .dptr [X]] → fget t 8 = .d (.int .i64 n) → fget t 9 = .d (.int .i64 locs) →
      fget t 10 = .d (.int .i64 mem) → fget t 11 = .d (.int .i64 i) → fget t 12 = .sl 4 9 0 s.length → smallThread ls locs most k a mem s = (a, mem, s) → ∀ Q', (∀ S, Q (.exit 2) S → Q' (.exit 2) S) → BWP Tryd.prog (mbound []) 184 (.cond (.t 57) .skip (.exit 2)) ⟨t, smM Iv ds i a s, 5⟩ Q' := by
    intro t h57 h1 h4 h5 h7 h8 h9 h10 h11 h12 he Q' hQ'
    refine bwp_cond false (by simp [ev, fget, h57]) (fun h => nomatch h) (fun _ => ?_)
    rw [he] at hQ
    refine bwp_leads (S' := smE X Iv ds n locs most i a mem s) (Leads.ent [(0, 0), (1, 1), (2, 2), (3, 3), (4, 4)] ⟨?_, ?_, rfl, ?_⟩) (bwp_exit (hQ' _ hQ))
    · simp [smE, smT, entT, AV.ren, renL, pget, h1, h4, h5, h7, h8, h9, h10, h11, h12]
    · simp [smE, smM, entM, pinv, mget, renL, AV.ren, pget]
    · simp [keepRen]
  refine bwp_seq fun K1 hK1 => ?_
  cases k with
  | zero =>
    have h0 : ¬ (0 : Int) < ((0 : Nat) : Int) := by omega
    refine bwp_seq fun K hK => bwp_region rfl ?_
    simp -implicitDefEqProofs only [go_sem, ↓reduceIte, Nat.reduceEqDiff, Nat.reduceAdd, Nat.reduceLeDiff, Nat.reduceMul, Nat.reduceSub, Int.reduceLE, Int.reduceLT, Int.reduceEq, Int.reduceToNat, Int.reducePow, Int.reduceNeg, h0]
    refine hK _ ?_; clear hK
    exact stop _ rfl rfl rfl rfl rfl rfl rfl rfl rfl rfl rfl _ fun _ h => h
  | succ k =>
    have h0 : (0 : Int) < ((k + 1 : Nat) : Int) := by omega
    by_cases hmm : mem < most
    · have hmm' : (mem : Int) < most := by omega
      refine bwp_seq fun K hK => bwp_region rfl ?_
      simp -implicitDefEqProofs only [go_sem, ↓reduceIte, Nat.reduceEqDiff, Nat.reduceAdd, Nat.reduceLeDiff, Nat.reduceMul, Nat.reduceSub, Int.reduceLE, Int.reduceLT, Int.reduceEq, Int.reduceToNat, Int.reducePow, Int.reduceNeg, h0, hmm']
      refine hK _ ?_; clear hK
      refine bwp_cond true (by simp [ev, fget]) (fun _ => ?_) (fun h => nomatch h)
      refine bwp_skip ?_
      refine hK1 _ ?_; clear hK1
      refine bwp_seq fun K1 hK1 => ?_
      refine bwp_block ?_
      refine bwp_seq fun K hK => bwp_region rfl ?_
      simp -implicitDefEqProofs only [go_sem, ↓reduceIte, Nat.reduceEqDiff, Nat.reduceAdd, Nat.reduceLeDiff, Nat.reduceMul, Nat.reduceSub, Int.reduceLE, Int.reduceLT, Int.reduceEq, Int.reduceToNat, Int.reducePow, Int.reduceNeg]
      refine ⟨rfl, next_callK hX (by omega) rfl ?_⟩
      simp -implicitDefEqProofs only [go_sem, ↓reduceIte, Nat.reduceEqDiff, Nat.reduceAdd, Nat.reduceLeDiff, Nat.reduceMul, Nat.reduceSub, Int.reduceLE, Int.reduceLT, Int.reduceEq, Int.reduceToNat, Int.reducePow, Int.reduceNeg]
      refine hK _ ?_; clear hK
      have hx := nxN_le ls a
      generalize hxe : nxN ls a = x at hx
      have hl0' : ¬ (locs : Int) = 0 := by omega
      have hmod : x / 16 % locs < 10 := Nat.lt_of_lt_of_le (Nat.mod_lt _ hl0) hl
      have hwl : IntKind.i64.wrap (120 + ((x / 16 % locs : Nat) : Int)) = (smallLoc locs x : Int) := by rw [wrap_i64 (by omega) (by omega)]; simp [smallLoc]
      refine bwp_seq fun K hK => bwp_region rfl ?_
      simp -implicitDefEqProofs only [go_sem, ↓reduceIte, Nat.reduceEqDiff, Nat.reduceAdd, Nat.reduceLeDiff, Nat.reduceMul, Nat.reduceSub, Int.reduceLE, Int.reduceLT, Int.reduceEq, Int.reduceToNat, Int.reducePow, Int.reduceNeg, fd16 x, hl0', tmod_nat, hwl]
      refine hK _ ?_; clear hK
      refine bwp_seq fun K hK => bwp_region rfl ?_
      simp -implicitDefEqProofs only [go_sem, ↓reduceIte, Nat.reduceEqDiff, Nat.reduceAdd, Nat.reduceLeDiff, Nat.reduceMul, Nat.reduceSub, Int.reduceLE, Int.reduceLT, Int.reduceEq, Int.reduceToNat, Int.reducePow, Int.reduceNeg, fd64 x, tm3]
      refine hK _ ?_; clear hK
      refine bwp_seq fun K2 hK2 => ?_
      have mid : ∀ t : Fr, fget t 1 = .d (.int .i64 most) → fget t 4 = .ptr 0 0 → fget t 5 = .ptr 1 0 → fget t 7 = .fn 22 [.ptr 2 0, .dptr [X]] → fget t 8 = .d (.int .i64 n) → fget t 9 = .d (.int .i64 locs) →
          fget t 10 = .d (.int .i64 mem) → fget t 11 = .d (.int .i64 i) → fget t 12 = .sl 4 9 0 s.length → fget t 13 = .d (.int .i64 (k + 1 : Nat)) → fget t 14 = .d (.int .i64 x) → fget t 15 = .d (.int .i64 (smallLoc locs x)) → fget t 16 = .ptr 6 0 →
          K2 ⟨t, [(0, [.d (.str []), .d .nsl, .d .nsl, .d (.int .i64 0), .d .nsl]), (1, [.d (.str [116]), .d Iv, .sl 3 1 0 i, .d (.int .i64 0), .d .nsl]), (2, [.d (.int .i64 (a + 1 : Nat))]), (3, ds.map .d), (4, (s.flatMap Ins.cells).map .d), (6, [.d (.int .i64 (smallVal x).reg), .d (.int .i64 (smallVal x).value)])], 7⟩ := by
        intro t h1 h4 h5 h7 h8 h9 h10 h11 h12 h13 h14 h15 h16
        have back : ∀ (t : Fr) (is : List Ins) (mem' : Nat) (c7 : List AV), fget t 1 = .d (.int .i64 most) → fget t 4 = .ptr 0 0 → fget t 5 = .ptr 1 0 → fget t 7 = .fn 22 [.ptr 2 0, .dptr [X]] → fget t 8 = .d (.int .i64 n) → fget t 9 = .d (.int .i64 locs) →
            fget t 10 = .d (.int .i64 mem') → fget t 11 = .d (.int .i64 i) → fget t 12 = .sl 8 9 0 (s.length + is.length) → fget t 13 = .d (.int .i64 (k + 1 : Nat)) → smallIns locs x = is → is.length ≤ 2 → mem' = mem + smallMem x →
            K1 ⟨t, [(0, [.d (.str []), .d .nsl, .d .nsl, .d (.int .i64 0), .d .nsl]), (1, [.d (.str [116]), .d Iv, .sl 3 1 0 i, .d (.int .i64 0), .d .nsl]), (2, [.d (.int .i64 (a + 1 : Nat))]), (3, ds.map .d), (6, [.d (.int .i64 (smallVal x).reg), .d (.int .i64 (smallVal x).value)]), (7, c7),
              (8, (s.flatMap Ins.cells).map .d ++ (is.flatMap Ins.cells).map .d)], 9⟩ := by
          intro t is mem' c7 h1 h4 h5 h7 h8 h9 h10 h11 h12 h13 his hil hmem
          have hwk : IntKind.i64.wrap (((k + 1 : Nat) : Int) - 1) = (k : Int) := by rw [wrap_i64 (by omega) (by omega)]; omega
          refine hK1 _ ?_; clear hK1
          refine bwp_region rfl ?_
          simp -implicitDefEqProofs only [go_sem, ↓reduceIte, Nat.reduceEqDiff, Nat.reduceAdd, Nat.reduceLeDiff, Nat.reduceMul, Nat.reduceSub, Int.reduceLE, Int.reduceLT, Int.reduceEq, Int.reduceToNat, Int.reducePow, Int.reduceNeg, h13, hwk]
          have hrec' : smallThread ls locs most k (a + 1) mem' (s ++ is) = smallThread ls locs most (k + 1) a mem s := by
            simp only [smallThread, hmm, if_true, hxe, his, hmem]
          have hsm : smallMem x ≤ 1 := by unfold smallMem; split <;> omega
          refine ⟨smS X Iv ds n locs most i k (a + 1) mem' (s ++ is), Leads.ent [(0, 0), (1, 1), (2, 2), (3, 3), (8, 4)] ⟨?_, ?_, rfl, rfl⟩, ⟨k, a + 1, mem', s ++ is, by omega, by omega, by omega, by simp; omega, hrec'.trans hrec, rfl⟩, ?_⟩
          · simp [smS, smT, entT, fget, AV.ren, renL, pget, h1, h4, h5, h7, h8, h9, h10, h11, h12]
          · simp [smS, smM, entM, pinv, mget, renL, AV.ren, pget, renL_append]
          · simp only [smS, fget, ↓reduceIte, Nat.reduceEqDiff, Int.toNat_natCast]
            omega
        have hwm : IntKind.i64.wrap ((mem : Int) + 1) = ((mem + 1 : Nat) : Int) := by rw [wrap_i64 (by omega) (by omega)]; rfl
        have hb1 : (s.length + 1) * 72 ≤ 140737488351232 := by omega
        have hb2 : (s.length + 2) * 72 ≤ 140737488351232 := by omega
        have hil := insLen s
        refine hK2 _ ?_; clear hK2
        refine bwp_seq fun K hK => bwp_region rfl ?_
        simp -implicitDefEqProofs only [go_sem, ↓reduceIte, Nat.reduceEqDiff, Nat.reduceAdd, Nat.reduceLeDiff, Nat.reduceMul, Nat.reduceSub, Int.reduceLE, Int.reduceLT, Int.reduceEq, Int.reduceToNat, Int.reducePow, Int.reduceNeg, h14, fd2048 x, and1]
        refine hK _ ?_; clear hK
        refine bwp_seq fun K hK => bwp_region rfl ?_
        simp -implicitDefEqProofs only [go_sem, ↓reduceIte, Nat.reduceEqDiff, Nat.reduceAdd, Nat.reduceLeDiff, Nat.reduceMul, Nat.reduceSub, Int.reduceLE, Int.reduceLT, Int.reduceEq, Int.reduceToNat, Int.reducePow, Int.reduceNeg, h14, tm12 x]
        refine hK _ ?_; clear hK
        refine bwp_block ?_
        have h12c : x % 12 = 0 ∨ x % 12 = 1 ∨ x % 12 = 2 ∨ x % 12 = 3 ∨ x % 12 = 4 ∨ x % 12 = 5 ∨ x % 12 = 6 ∨ x % 12 = 7 ∨ x % 12 = 8 ∨ x % 12 = 9 ∨ x % 12 = 10 ∨ x % 12 = 11 := by omega
        rcases h12c with h | h | h | h | h | h | h | h | h | h | h | h
        · have hc : ((x % 12 : Nat) : Int) = 0 := by omega
          repeat (first
            | (refine bwp_seq fun K hK => bwp_region rfl ?_; simp -implicitDefEqProofs only [go_sem, ↓reduceIte, Nat.reduceEqDiff, Nat.reduceAdd, Nat.reduceLeDiff, Nat.reduceMul, Nat.reduceSub, Int.reduceLE, Int.reduceLT, Int.reduceEq, Int.reduceToNat, Int.reducePow, Int.reduceNeg, h1, h4, h5, h7, h8, h9, h10, h11, h12, h13, h14, h15, h16, hc, hwm, hb1, hb2, hil, List.length_append]; refine hK _ ?_; clear hK)
            | (refine bwp_seq fun K hK => ?_)
            | (refine bwp_cond true ?_ (fun _ => ?_) (fun h => nomatch h); focus (simp [ev, fget, h1, h4, h5, h7, h8, h9, h10, h11, h12, h13, h14, h15, h16, hc, hwm, hb1, hb2, hil, List.length_append]; done))
            | (refine bwp_cond false ?_ (fun h => nomatch h) (fun _ => ?_); focus (simp [ev, fget, h1, h4, h5, h7, h8, h9, h10, h11, h12, h13, h14, h15, h16, hc, hwm, hb1, hb2, hil, List.length_append]; done))
            | (refine bwp_block ?_)
            | (refine bwp_skip ?_; refine hK _ ?_; clear hK)
            | (refine bwp_region rfl ?_; simp -implicitDefEqProofs only [go_sem, ↓reduceIte, Nat.reduceEqDiff, Nat.reduceAdd, Nat.reduceLeDiff, Nat.reduceMul, Nat.reduceSub, Int.reduceLE, Int.reduceLT, Int.reduceEq, Int.reduceToNat, Int.reducePow, Int.reduceNeg, h1, h4, h5, h7, h8, h9, h10, h11, h12, h13, h14, h15, h16, hc, hwm, hb1, hb2, hil, List.length_append]; refine hK _ ?_; clear hK))
          refine bwp_region rfl ?_
          simp -implicitDefEqProofs only [go_sem, ↓reduceIte, Nat.reduceEqDiff, Nat.reduceAdd, Nat.reduceLeDiff, Nat.reduceMul, Nat.reduceSub, Int.reduceLE, Int.reduceLT, Int.reduceEq, Int.reduceToNat, Int.reducePow, Int.reduceNeg, h1, h4, h5, h7, h8, h9, h10, h11, h12, h13, h14, h15, h16, hc, hwm, hb1, hb2, hil, List.length_append]
          exact back _ [⟨1, 0, smallLoc locs x, smallVal x, 0, ⟨0, 0⟩, 0⟩] (mem + 1) _ h1 h4 h5 h7 h8 h9 rfl h11 rfl h13 (by simp [smallIns, h]) (by simp) (by simp [smallMem, h])
        · have hc : ((x % 12 : Nat) : Int) = 1 := by omega
          repeat (first
            | (refine bwp_seq fun K hK => bwp_region rfl ?_; simp -implicitDefEqProofs only [go_sem, ↓reduceIte, Nat.reduceEqDiff, Nat.reduceAdd, Nat.reduceLeDiff, Nat.reduceMul, Nat.reduceSub, Int.reduceLE, Int.reduceLT, Int.reduceEq, Int.reduceToNat, Int.reducePow, Int.reduceNeg, h1, h4, h5, h7, h8, h9, h10, h11, h12, h13, h14, h15, h16, hc, hwm, hb1, hb2, hil, List.length_append]; refine hK _ ?_; clear hK)
            | (refine bwp_seq fun K hK => ?_)
            | (refine bwp_cond true ?_ (fun _ => ?_) (fun h => nomatch h); focus (simp [ev, fget, h1, h4, h5, h7, h8, h9, h10, h11, h12, h13, h14, h15, h16, hc, hwm, hb1, hb2, hil, List.length_append]; done))
            | (refine bwp_cond false ?_ (fun h => nomatch h) (fun _ => ?_); focus (simp [ev, fget, h1, h4, h5, h7, h8, h9, h10, h11, h12, h13, h14, h15, h16, hc, hwm, hb1, hb2, hil, List.length_append]; done))
            | (refine bwp_block ?_)
            | (refine bwp_skip ?_; refine hK _ ?_; clear hK)
            | (refine bwp_region rfl ?_; simp -implicitDefEqProofs only [go_sem, ↓reduceIte, Nat.reduceEqDiff, Nat.reduceAdd, Nat.reduceLeDiff, Nat.reduceMul, Nat.reduceSub, Int.reduceLE, Int.reduceLT, Int.reduceEq, Int.reduceToNat, Int.reducePow, Int.reduceNeg, h1, h4, h5, h7, h8, h9, h10, h11, h12, h13, h14, h15, h16, hc, hwm, hb1, hb2, hil, List.length_append]; refine hK _ ?_; clear hK))
          refine bwp_region rfl ?_
          simp -implicitDefEqProofs only [go_sem, ↓reduceIte, Nat.reduceEqDiff, Nat.reduceAdd, Nat.reduceLeDiff, Nat.reduceMul, Nat.reduceSub, Int.reduceLE, Int.reduceLT, Int.reduceEq, Int.reduceToNat, Int.reducePow, Int.reduceNeg, h1, h4, h5, h7, h8, h9, h10, h11, h12, h13, h14, h15, h16, hc, hwm, hb1, hb2, hil, List.length_append]
          exact back _ [⟨1, 0, smallLoc locs x, smallVal x, 0, ⟨0, 0⟩, 0⟩] (mem + 1) _ h1 h4 h5 h7 h8 h9 rfl h11 rfl h13 (by simp [smallIns, h]) (by simp) (by simp [smallMem, h])
        · have hc : ((x % 12 : Nat) : Int) = 2 := by omega
          repeat (first
            | (refine bwp_seq fun K hK => bwp_region rfl ?_; simp -implicitDefEqProofs only [go_sem, ↓reduceIte, Nat.reduceEqDiff, Nat.reduceAdd, Nat.reduceLeDiff, Nat.reduceMul, Nat.reduceSub, Int.reduceLE, Int.reduceLT, Int.reduceEq, Int.reduceToNat, Int.reducePow, Int.reduceNeg, h1, h4, h5, h7, h8, h9, h10, h11, h12, h13, h14, h15, h16, hc, hwm, hb1, hb2, hil, List.length_append]; refine hK _ ?_; clear hK)
            | (refine bwp_seq fun K hK => ?_)
            | (refine bwp_cond true ?_ (fun _ => ?_) (fun h => nomatch h); focus (simp [ev, fget, h1, h4, h5, h7, h8, h9, h10, h11, h12, h13, h14, h15, h16, hc, hwm, hb1, hb2, hil, List.length_append]; done))
            | (refine bwp_cond false ?_ (fun h => nomatch h) (fun _ => ?_); focus (simp [ev, fget, h1, h4, h5, h7, h8, h9, h10, h11, h12, h13, h14, h15, h16, hc, hwm, hb1, hb2, hil, List.length_append]; done))
            | (refine bwp_block ?_)
            | (refine bwp_skip ?_; refine hK _ ?_; clear hK)
            | (refine bwp_region rfl ?_; simp -implicitDefEqProofs only [go_sem, ↓reduceIte, Nat.reduceEqDiff, Nat.reduceAdd, Nat.reduceLeDiff, Nat.reduceMul, Nat.reduceSub, Int.reduceLE, Int.reduceLT, Int.reduceEq, Int.reduceToNat, Int.reducePow, Int.reduceNeg, h1, h4, h5, h7, h8, h9, h10, h11, h12, h13, h14, h15, h16, hc, hwm, hb1, hb2, hil, List.length_append]; refine hK _ ?_; clear hK))
          refine bwp_region rfl ?_
          simp -implicitDefEqProofs only [go_sem, ↓reduceIte, Nat.reduceEqDiff, Nat.reduceAdd, Nat.reduceLeDiff, Nat.reduceMul, Nat.reduceSub, Int.reduceLE, Int.reduceLT, Int.reduceEq, Int.reduceToNat, Int.reducePow, Int.reduceNeg, h1, h4, h5, h7, h8, h9, h10, h11, h12, h13, h14, h15, h16, hc, hwm, hb1, hb2, hil, List.length_append]
          exact back _ [⟨1, 0, smallLoc locs x, smallVal x, 0, ⟨0, 0⟩, 0⟩] (mem + 1) _ h1 h4 h5 h7 h8 h9 rfl h11 rfl h13 (by simp [smallIns, h]) (by simp) (by simp [smallMem, h])
        · have hc : ((x % 12 : Nat) : Int) = 3 := by omega
          repeat (first
            | (refine bwp_seq fun K hK => bwp_region rfl ?_; simp -implicitDefEqProofs only [go_sem, ↓reduceIte, Nat.reduceEqDiff, Nat.reduceAdd, Nat.reduceLeDiff, Nat.reduceMul, Nat.reduceSub, Int.reduceLE, Int.reduceLT, Int.reduceEq, Int.reduceToNat, Int.reducePow, Int.reduceNeg, h1, h4, h5, h7, h8, h9, h10, h11, h12, h13, h14, h15, h16, hc, hwm, hb1, hb2, hil, List.length_append]; refine hK _ ?_; clear hK)
            | (refine bwp_seq fun K hK => ?_)
            | (refine bwp_cond true ?_ (fun _ => ?_) (fun h => nomatch h); focus (simp [ev, fget, h1, h4, h5, h7, h8, h9, h10, h11, h12, h13, h14, h15, h16, hc, hwm, hb1, hb2, hil, List.length_append]; done))
            | (refine bwp_cond false ?_ (fun h => nomatch h) (fun _ => ?_); focus (simp [ev, fget, h1, h4, h5, h7, h8, h9, h10, h11, h12, h13, h14, h15, h16, hc, hwm, hb1, hb2, hil, List.length_append]; done))
            | (refine bwp_block ?_)
            | (refine bwp_skip ?_; refine hK _ ?_; clear hK)
            | (refine bwp_region rfl ?_; simp -implicitDefEqProofs only [go_sem, ↓reduceIte, Nat.reduceEqDiff, Nat.reduceAdd, Nat.reduceLeDiff, Nat.reduceMul, Nat.reduceSub, Int.reduceLE, Int.reduceLT, Int.reduceEq, Int.reduceToNat, Int.reducePow, Int.reduceNeg, h1, h4, h5, h7, h8, h9, h10, h11, h12, h13, h14, h15, h16, hc, hwm, hb1, hb2, hil, List.length_append]; refine hK _ ?_; clear hK))
          refine bwp_region rfl ?_
          simp -implicitDefEqProofs only [go_sem, ↓reduceIte, Nat.reduceEqDiff, Nat.reduceAdd, Nat.reduceLeDiff, Nat.reduceMul, Nat.reduceSub, Int.reduceLE, Int.reduceLT, Int.reduceEq, Int.reduceToNat, Int.reducePow, Int.reduceNeg, h1, h4, h5, h7, h8, h9, h10, h11, h12, h13, h14, h15, h16, hc, hwm, hb1, hb2, hil, List.length_append]
          exact back _ [⟨1, 0, smallLoc locs x, smallVal x, 0, ⟨0, 0⟩, 0⟩] (mem + 1) _ h1 h4 h5 h7 h8 h9 rfl h11 rfl h13 (by simp [smallIns, h]) (by simp) (by simp [smallMem, h])
        · have hc : ((x % 12 : Nat) : Int) = 4 := by omega
          repeat (first
            | (refine bwp_seq fun K hK => bwp_region rfl ?_; simp -implicitDefEqProofs only [go_sem, ↓reduceIte, Nat.reduceEqDiff, Nat.reduceAdd, Nat.reduceLeDiff, Nat.reduceMul, Nat.reduceSub, Int.reduceLE, Int.reduceLT, Int.reduceEq, Int.reduceToNat, Int.reducePow, Int.reduceNeg, h1, h4, h5, h7, h8, h9, h10, h11, h12, h13, h14, h15, h16, hc, hwm, hb1, hb2, hil, List.length_append]; refine hK _ ?_; clear hK)
            | (refine bwp_seq fun K hK => ?_)
            | (refine bwp_cond true ?_ (fun _ => ?_) (fun h => nomatch h); focus (simp [ev, fget, h1, h4, h5, h7, h8, h9, h10, h11, h12, h13, h14, h15, h16, hc, hwm, hb1, hb2, hil, List.length_append]; done))
            | (refine bwp_cond false ?_ (fun h => nomatch h) (fun _ => ?_); focus (simp [ev, fget, h1, h4, h5, h7, h8, h9, h10, h11, h12, h13, h14, h15, h16, hc, hwm, hb1, hb2, hil, List.length_append]; done))
            | (refine bwp_block ?_)
            | (refine bwp_skip ?_; refine hK _ ?_; clear hK)
            | (refine bwp_region rfl ?_; simp -implicitDefEqProofs only [go_sem, ↓reduceIte, Nat.reduceEqDiff, Nat.reduceAdd, Nat.reduceLeDiff, Nat.reduceMul, Nat.reduceSub, Int.reduceLE, Int.reduceLT, Int.reduceEq, Int.reduceToNat, Int.reducePow, Int.reduceNeg, h1, h4, h5, h7, h8, h9, h10, h11, h12, h13, h14, h15, h16, hc, hwm, hb1, hb2, hil, List.length_append]; refine hK _ ?_; clear hK))
          refine bwp_region rfl ?_
          simp -implicitDefEqProofs only [go_sem, ↓reduceIte, Nat.reduceEqDiff, Nat.reduceAdd, Nat.reduceLeDiff, Nat.reduceMul, Nat.reduceSub, Int.reduceLE, Int.reduceLT, Int.reduceEq, Int.reduceToNat, Int.reducePow, Int.reduceNeg, h1, h4, h5, h7, h8, h9, h10, h11, h12, h13, h14, h15, h16, hc, hwm, hb1, hb2, hil, List.length_append]
          exact back _ [⟨2, smallReg x, smallLoc locs x, ⟨0, 0⟩, 0, ⟨0, 0⟩, 0⟩] (mem + 1) _ h1 h4 h5 h7 h8 h9 rfl h11 rfl h13 (by simp [smallIns, h]) (by simp) (by simp [smallMem, h])
        · have hc : ((x % 12 : Nat) : Int) = 5 := by omega
          repeat (first
            | (refine bwp_seq fun K hK => bwp_region rfl ?_; simp -implicitDefEqProofs only [go_sem, ↓reduceIte, Nat.reduceEqDiff, Nat.reduceAdd, Nat.reduceLeDiff, Nat.reduceMul, Nat.reduceSub, Int.reduceLE, Int.reduceLT, Int.reduceEq, Int.reduceToNat, Int.reducePow, Int.reduceNeg, h1, h4, h5, h7, h8, h9, h10, h11, h12, h13, h14, h15, h16, hc, hwm, hb1, hb2, hil, List.length_append]; refine hK _ ?_; clear hK)
            | (refine bwp_seq fun K hK => ?_)
            | (refine bwp_cond true ?_ (fun _ => ?_) (fun h => nomatch h); focus (simp [ev, fget, h1, h4, h5, h7, h8, h9, h10, h11, h12, h13, h14, h15, h16, hc, hwm, hb1, hb2, hil, List.length_append]; done))
            | (refine bwp_cond false ?_ (fun h => nomatch h) (fun _ => ?_); focus (simp [ev, fget, h1, h4, h5, h7, h8, h9, h10, h11, h12, h13, h14, h15, h16, hc, hwm, hb1, hb2, hil, List.length_append]; done))
            | (refine bwp_block ?_)
            | (refine bwp_skip ?_; refine hK _ ?_; clear hK)
            | (refine bwp_region rfl ?_; simp -implicitDefEqProofs only [go_sem, ↓reduceIte, Nat.reduceEqDiff, Nat.reduceAdd, Nat.reduceLeDiff, Nat.reduceMul, Nat.reduceSub, Int.reduceLE, Int.reduceLT, Int.reduceEq, Int.reduceToNat, Int.reducePow, Int.reduceNeg, h1, h4, h5, h7, h8, h9, h10, h11, h12, h13, h14, h15, h16, hc, hwm, hb1, hb2, hil, List.length_append]; refine hK _ ?_; clear hK))
          refine bwp_region rfl ?_
          simp -implicitDefEqProofs only [go_sem, ↓reduceIte, Nat.reduceEqDiff, Nat.reduceAdd, Nat.reduceLeDiff, Nat.reduceMul, Nat.reduceSub, Int.reduceLE, Int.reduceLT, Int.reduceEq, Int.reduceToNat, Int.reducePow, Int.reduceNeg, h1, h4, h5, h7, h8, h9, h10, h11, h12, h13, h14, h15, h16, hc, hwm, hb1, hb2, hil, List.length_append]
          exact back _ [⟨2, smallReg x, smallLoc locs x, ⟨0, 0⟩, 0, ⟨0, 0⟩, 0⟩] (mem + 1) _ h1 h4 h5 h7 h8 h9 rfl h11 rfl h13 (by simp [smallIns, h]) (by simp) (by simp [smallMem, h])
        · have hc : ((x % 12 : Nat) : Int) = 6 := by omega
          repeat (first
            | (refine bwp_seq fun K hK => bwp_region rfl ?_; simp -implicitDefEqProofs only [go_sem, ↓reduceIte, Nat.reduceEqDiff, Nat.reduceAdd, Nat.reduceLeDiff, Nat.reduceMul, Nat.reduceSub, Int.reduceLE, Int.reduceLT, Int.reduceEq, Int.reduceToNat, Int.reducePow, Int.reduceNeg, h1, h4, h5, h7, h8, h9, h10, h11, h12, h13, h14, h15, h16, hc, hwm, hb1, hb2, hil, List.length_append]; refine hK _ ?_; clear hK)
            | (refine bwp_seq fun K hK => ?_)
            | (refine bwp_cond true ?_ (fun _ => ?_) (fun h => nomatch h); focus (simp [ev, fget, h1, h4, h5, h7, h8, h9, h10, h11, h12, h13, h14, h15, h16, hc, hwm, hb1, hb2, hil, List.length_append]; done))
            | (refine bwp_cond false ?_ (fun h => nomatch h) (fun _ => ?_); focus (simp [ev, fget, h1, h4, h5, h7, h8, h9, h10, h11, h12, h13, h14, h15, h16, hc, hwm, hb1, hb2, hil, List.length_append]; done))
            | (refine bwp_block ?_)
            | (refine bwp_skip ?_; refine hK _ ?_; clear hK)
            | (refine bwp_region rfl ?_; simp -implicitDefEqProofs only [go_sem, ↓reduceIte, Nat.reduceEqDiff, Nat.reduceAdd, Nat.reduceLeDiff, Nat.reduceMul, Nat.reduceSub, Int.reduceLE, Int.reduceLT, Int.reduceEq, Int.reduceToNat, Int.reducePow, Int.reduceNeg, h1, h4, h5, h7, h8, h9, h10, h11, h12, h13, h14, h15, h16, hc, hwm, hb1, hb2, hil, List.length_append]; refine hK _ ?_; clear hK))
          refine bwp_region rfl ?_
          simp -implicitDefEqProofs only [go_sem, ↓reduceIte, Nat.reduceEqDiff, Nat.reduceAdd, Nat.reduceLeDiff, Nat.reduceMul, Nat.reduceSub, Int.reduceLE, Int.reduceLT, Int.reduceEq, Int.reduceToNat, Int.reducePow, Int.reduceNeg, h1, h4, h5, h7, h8, h9, h10, h11, h12, h13, h14, h15, h16, hc, hwm, hb1, hb2, hil, List.length_append]
          exact back _ [⟨2, smallReg x, smallLoc locs x, ⟨0, 0⟩, 0, ⟨0, 0⟩, 0⟩] (mem + 1) _ h1 h4 h5 h7 h8 h9 rfl h11 rfl h13 (by simp [smallIns, h]) (by simp) (by simp [smallMem, h])
        · have hc : ((x % 12 : Nat) : Int) = 7 := by omega
          repeat (first
            | (refine bwp_seq fun K hK => bwp_region rfl ?_; simp -implicitDefEqProofs only [go_sem, ↓reduceIte, Nat.reduceEqDiff, Nat.reduceAdd, Nat.reduceLeDiff, Nat.reduceMul, Nat.reduceSub, Int.reduceLE, Int.reduceLT, Int.reduceEq, Int.reduceToNat, Int.reducePow, Int.reduceNeg, h1, h4, h5, h7, h8, h9, h10, h11, h12, h13, h14, h15, h16, hc, hwm, hb1, hb2, hil, List.length_append]; refine hK _ ?_; clear hK)
            | (refine bwp_seq fun K hK => ?_)
            | (refine bwp_cond true ?_ (fun _ => ?_) (fun h => nomatch h); focus (simp [ev, fget, h1, h4, h5, h7, h8, h9, h10, h11, h12, h13, h14, h15, h16, hc, hwm, hb1, hb2, hil, List.length_append]; done))
            | (refine bwp_cond false ?_ (fun h => nomatch h) (fun _ => ?_); focus (simp [ev, fget, h1, h4, h5, h7, h8, h9, h10, h11, h12, h13, h14, h15, h16, hc, hwm, hb1, hb2, hil, List.length_append]; done))
            | (refine bwp_block ?_)
            | (refine bwp_skip ?_; refine hK _ ?_; clear hK)
            | (refine bwp_region rfl ?_; simp -implicitDefEqProofs only [go_sem, ↓reduceIte, Nat.reduceEqDiff, Nat.reduceAdd, Nat.reduceLeDiff, Nat.reduceMul, Nat.reduceSub, Int.reduceLE, Int.reduceLT, Int.reduceEq, Int.reduceToNat, Int.reducePow, Int.reduceNeg, h1, h4, h5, h7, h8, h9, h10, h11, h12, h13, h14, h15, h16, hc, hwm, hb1, hb2, hil, List.length_append]; refine hK _ ?_; clear hK))
          refine bwp_region rfl ?_
          simp -implicitDefEqProofs only [go_sem, ↓reduceIte, Nat.reduceEqDiff, Nat.reduceAdd, Nat.reduceLeDiff, Nat.reduceMul, Nat.reduceSub, Int.reduceLE, Int.reduceLT, Int.reduceEq, Int.reduceToNat, Int.reducePow, Int.reduceNeg, h1, h4, h5, h7, h8, h9, h10, h11, h12, h13, h14, h15, h16, hc, hwm, hb1, hb2, hil, List.length_append]
          exact back _ [⟨2, smallReg x, smallLoc locs x, ⟨0, 0⟩, 0, ⟨0, 0⟩, 0⟩] (mem + 1) _ h1 h4 h5 h7 h8 h9 rfl h11 rfl h13 (by simp [smallIns, h]) (by simp) (by simp [smallMem, h])
        · have hc : ((x % 12 : Nat) : Int) = 8 := by omega
          repeat (first
            | (refine bwp_seq fun K hK => bwp_region rfl ?_; simp -implicitDefEqProofs only [go_sem, ↓reduceIte, Nat.reduceEqDiff, Nat.reduceAdd, Nat.reduceLeDiff, Nat.reduceMul, Nat.reduceSub, Int.reduceLE, Int.reduceLT, Int.reduceEq, Int.reduceToNat, Int.reducePow, Int.reduceNeg, h1, h4, h5, h7, h8, h9, h10, h11, h12, h13, h14, h15, h16, hc, hwm, hb1, hb2, hil, List.length_append]; refine hK _ ?_; clear hK)
            | (refine bwp_seq fun K hK => ?_)
            | (refine bwp_cond true ?_ (fun _ => ?_) (fun h => nomatch h); focus (simp [ev, fget, h1, h4, h5, h7, h8, h9, h10, h11, h12, h13, h14, h15, h16, hc, hwm, hb1, hb2, hil, List.length_append]; done))
            | (refine bwp_cond false ?_ (fun h => nomatch h) (fun _ => ?_); focus (simp [ev, fget, h1, h4, h5, h7, h8, h9, h10, h11, h12, h13, h14, h15, h16, hc, hwm, hb1, hb2, hil, List.length_append]; done))
            | (refine bwp_block ?_)
            | (refine bwp_skip ?_; refine hK _ ?_; clear hK)
            | (refine bwp_region rfl ?_; simp -implicitDefEqProofs only [go_sem, ↓reduceIte, Nat.reduceEqDiff, Nat.reduceAdd, Nat.reduceLeDiff, Nat.reduceMul, Nat.reduceSub, Int.reduceLE, Int.reduceLT, Int.reduceEq, Int.reduceToNat, Int.reducePow, Int.reduceNeg, h1, h4, h5, h7, h8, h9, h10, h11, h12, h13, h14, h15, h16, hc, hwm, hb1, hb2, hil, List.length_append]; refine hK _ ?_; clear hK))
          refine bwp_region rfl ?_
          simp -implicitDefEqProofs only [go_sem, ↓reduceIte, Nat.reduceEqDiff, Nat.reduceAdd, Nat.reduceLeDiff, Nat.reduceMul, Nat.reduceSub, Int.reduceLE, Int.reduceLT, Int.reduceEq, Int.reduceToNat, Int.reducePow, Int.reduceNeg, h1, h4, h5, h7, h8, h9, h10, h11, h12, h13, h14, h15, h16, hc, hwm, hb1, hb2, hil, List.length_append]
          exact back _ [⟨3, 0, 0, ⟨0, 0⟩, 0, ⟨0, 0⟩, 0⟩] mem _ h1 h4 h5 h7 h8 h9 h10 h11 rfl h13 (by simp [smallIns, h]) (by simp) (by simp [smallMem, h])
        · have hc : ((x % 12 : Nat) : Int) = 9 := by omega
          repeat (first
            | (refine bwp_seq fun K hK => bwp_region rfl ?_; simp -implicitDefEqProofs only [go_sem, ↓reduceIte, Nat.reduceEqDiff, Nat.reduceAdd, Nat.reduceLeDiff, Nat.reduceMul, Nat.reduceSub, Int.reduceLE, Int.reduceLT, Int.reduceEq, Int.reduceToNat, Int.reducePow, Int.reduceNeg, h1, h4, h5, h7, h8, h9, h10, h11, h12, h13, h14, h15, h16, hc, hwm, hb1, hb2, hil, List.length_append]; refine hK _ ?_; clear hK)
            | (refine bwp_seq fun K hK => ?_)
            | (refine bwp_cond true ?_ (fun _ => ?_) (fun h => nomatch h); focus (simp [ev, fget, h1, h4, h5, h7, h8, h9, h10, h11, h12, h13, h14, h15, h16, hc, hwm, hb1, hb2, hil, List.length_append]; done))
            | (refine bwp_cond false ?_ (fun h => nomatch h) (fun _ => ?_); focus (simp [ev, fget, h1, h4, h5, h7, h8, h9, h10, h11, h12, h13, h14, h15, h16, hc, hwm, hb1, hb2, hil, List.length_append]; done))
            | (refine bwp_block ?_)
            | (refine bwp_skip ?_; refine hK _ ?_; clear hK)
            | (refine bwp_region rfl ?_; simp -implicitDefEqProofs only [go_sem, ↓reduceIte, Nat.reduceEqDiff, Nat.reduceAdd, Nat.reduceLeDiff, Nat.reduceMul, Nat.reduceSub, Int.reduceLE, Int.reduceLT, Int.reduceEq, Int.reduceToNat, Int.reducePow, Int.reduceNeg, h1, h4, h5, h7, h8, h9, h10, h11, h12, h13, h14, h15, h16, hc, hwm, hb1, hb2, hil, List.length_append]; refine hK _ ?_; clear hK))
          refine bwp_region rfl ?_
          simp -implicitDefEqProofs only [go_sem, ↓reduceIte, Nat.reduceEqDiff, Nat.reduceAdd, Nat.reduceLeDiff, Nat.reduceMul, Nat.reduceSub, Int.reduceLE, Int.reduceLT, Int.reduceEq, Int.reduceToNat, Int.reducePow, Int.reduceNeg, h1, h4, h5, h7, h8, h9, h10, h11, h12, h13, h14, h15, h16, hc, hwm, hb1, hb2, hil, List.length_append]
          exact back _ [⟨4, smallReg x, smallLoc locs x, smallVal x, 0, ⟨-1, 1⟩, 0⟩] (mem + 1) _ h1 h4 h5 h7 h8 h9 rfl h11 rfl h13 (by simp [smallIns, h]) (by simp) (by simp [smallMem, h])
        · have hc : ((x % 12 : Nat) : Int) = 10 := by omega
          repeat (first
            | (refine bwp_seq fun K hK => bwp_region rfl ?_; simp -implicitDefEqProofs only [go_sem, ↓reduceIte, Nat.reduceEqDiff, Nat.reduceAdd, Nat.reduceLeDiff, Nat.reduceMul, Nat.reduceSub, Int.reduceLE, Int.reduceLT, Int.reduceEq, Int.reduceToNat, Int.reducePow, Int.reduceNeg, h1, h4, h5, h7, h8, h9, h10, h11, h12, h13, h14, h15, h16, hc, hwm, hb1, hb2, hil, List.length_append]; refine hK _ ?_; clear hK)
            | (refine bwp_seq fun K hK => ?_)
            | (refine bwp_cond true ?_ (fun _ => ?_) (fun h => nomatch h); focus (simp [ev, fget, h1, h4, h5, h7, h8, h9, h10, h11, h12, h13, h14, h15, h16, hc, hwm, hb1, hb2, hil, List.length_append]; done))
            | (refine bwp_cond false ?_ (fun h => nomatch h) (fun _ => ?_); focus (simp [ev, fget, h1, h4, h5, h7, h8, h9, h10, h11, h12, h13, h14, h15, h16, hc, hwm, hb1, hb2, hil, List.length_append]; done))
            | (refine bwp_block ?_)
            | (refine bwp_skip ?_; refine hK _ ?_; clear hK)
            | (refine bwp_region rfl ?_; simp -implicitDefEqProofs only [go_sem, ↓reduceIte, Nat.reduceEqDiff, Nat.reduceAdd, Nat.reduceLeDiff, Nat.reduceMul, Nat.reduceSub, Int.reduceLE, Int.reduceLT, Int.reduceEq, Int.reduceToNat, Int.reducePow, Int.reduceNeg, h1, h4, h5, h7, h8, h9, h10, h11, h12, h13, h14, h15, h16, hc, hwm, hb1, hb2, hil, List.length_append]; refine hK _ ?_; clear hK))
          refine bwp_region rfl ?_
          simp -implicitDefEqProofs only [go_sem, ↓reduceIte, Nat.reduceEqDiff, Nat.reduceAdd, Nat.reduceLeDiff, Nat.reduceMul, Nat.reduceSub, Int.reduceLE, Int.reduceLT, Int.reduceEq, Int.reduceToNat, Int.reducePow, Int.reduceNeg, h1, h4, h5, h7, h8, h9, h10, h11, h12, h13, h14, h15, h16, hc, hwm, hb1, hb2, hil, List.length_append]
          exact back _ [⟨5, smallReg x, 0, smallVal x, 6, ⟨-1, 1⟩, 0⟩] mem _ h1 h4 h5 h7 h8 h9 h10 h11 rfl h13 (by simp [smallIns, h]) (by simp) (by simp [smallMem, h])
        · have hc : ((x % 12 : Nat) : Int) = 11 := by omega
          repeat (first
            | (refine bwp_seq fun K hK => bwp_region rfl ?_; simp -implicitDefEqProofs only [go_sem, ↓reduceIte, Nat.reduceEqDiff, Nat.reduceAdd, Nat.reduceLeDiff, Nat.reduceMul, Nat.reduceSub, Int.reduceLE, Int.reduceLT, Int.reduceEq, Int.reduceToNat, Int.reducePow, Int.reduceNeg, h1, h4, h5, h7, h8, h9, h10, h11, h12, h13, h14, h15, h16, hc, hwm, hb1, hb2, hil, List.length_append]; refine hK _ ?_; clear hK)
            | (refine bwp_seq fun K hK => ?_)
            | (refine bwp_cond true ?_ (fun _ => ?_) (fun h => nomatch h); focus (simp [ev, fget, h1, h4, h5, h7, h8, h9, h10, h11, h12, h13, h14, h15, h16, hc, hwm, hb1, hb2, hil, List.length_append]; done))
            | (refine bwp_cond false ?_ (fun h => nomatch h) (fun _ => ?_); focus (simp [ev, fget, h1, h4, h5, h7, h8, h9, h10, h11, h12, h13, h14, h15, h16, hc, hwm, hb1, hb2, hil, List.length_append]; done))
            | (refine bwp_block ?_)
            | (refine bwp_skip ?_; refine hK _ ?_; clear hK)
            | (refine bwp_region rfl ?_; simp -implicitDefEqProofs only [go_sem, ↓reduceIte, Nat.reduceEqDiff, Nat.reduceAdd, Nat.reduceLeDiff, Nat.reduceMul, Nat.reduceSub, Int.reduceLE, Int.reduceLT, Int.reduceEq, Int.reduceToNat, Int.reducePow, Int.reduceNeg, h1, h4, h5, h7, h8, h9, h10, h11, h12, h13, h14, h15, h16, hc, hwm, hb1, hb2, hil, List.length_append]; refine hK _ ?_; clear hK))
          refine bwp_region rfl ?_
          simp -implicitDefEqProofs only [go_sem, ↓reduceIte, Nat.reduceEqDiff, Nat.reduceAdd, Nat.reduceLeDiff, Nat.reduceMul, Nat.reduceSub, Int.reduceLE, Int.reduceLT, Int.reduceEq, Int.reduceToNat, Int.reducePow, Int.reduceNeg, h1, h4, h5, h7, h8, h9, h10, h11, h12, h13, h14, h15, h16, hc, hwm, hb1, hb2, hil, List.length_append]
          exact back _ [⟨6, 0, 0, smallVal x, 0, ⟨-1, 0⟩, 1⟩, ⟨1, 0, smallLoc locs x, ⟨-1, 2⟩, 0, ⟨0, 0⟩, 0⟩] (mem + 1) _ h1 h4 h5 h7 h8 h9 rfl h11 rfl h13 (by simp [smallIns, h]) (by simp) (by simp [smallMem, h])
      refine bwp_seq fun K hK => bwp_region rfl ?_
      simp -implicitDefEqProofs only [go_sem, ↓reduceIte, Nat.reduceEqDiff, Nat.reduceAdd, Nat.reduceLeDiff, Nat.reduceMul, Nat.reduceSub, Int.reduceLE, Int.reduceLT, Int.reduceEq, Int.reduceToNat, Int.reducePow, Int.reduceNeg, fd256 x, tm3]
      refine hK _ ?_; clear hK
      by_cases hv : x / 256 % 3 = 0
      · have hv' : ((x / 256 % 3 : Nat) : Int) = 0 := by omega
        refine bwp_cond true (by simp [ev, fget, hv]) (fun _ => ?_) (fun h => nomatch h)
        refine bwp_region rfl ?_
        simp -implicitDefEqProofs only [go_sem, ↓reduceIte, Nat.reduceEqDiff, Nat.reduceAdd, Nat.reduceLeDiff, Nat.reduceMul, Nat.reduceSub, Int.reduceLE, Int.reduceLT, Int.reduceEq, Int.reduceToNat, Int.reducePow, Int.reduceNeg, fd1024 x, and1]
        have := mid
        simp only [smallVal, hv, if_true] at this
        exact this _ rfl rfl rfl rfl rfl rfl rfl rfl rfl rfl rfl rfl rfl
      · refine bwp_cond false (by simp [ev, fget]; omega) (fun h => nomatch h) (fun _ => ?_)
        refine bwp_skip ?_
        have := mid
        simp only [smallVal, hv, if_false] at this
        exact this _ rfl rfl rfl rfl rfl rfl rfl rfl rfl rfl rfl rfl rfl
    · have hmm' : ¬ (mem : Int) < most := by omega
      refine bwp_seq fun K hK => bwp_region rfl ?_
      simp -implicitDefEqProofs only [go_sem, ↓reduceIte, Nat.reduceEqDiff, Nat.reduceAdd, Nat.reduceLeDiff, Nat.reduceMul, Nat.reduceSub, Int.reduceLE, Int.reduceLT, Int.reduceEq, Int.reduceToNat, Int.reducePow, Int.reduceNeg, h0, hmm']
      refine hK _ ?_; clear hK
      exact stop _ rfl rfl rfl rfl rfl rfl rfl rfl rfl rfl (by simp [smallThread, hmm]) _ fun _ h => h

end Go.Proofs.YtgfkgngpganllaaDoor
