/- WellJumps comes to true, whatever it is given. -/
import Derived.Test.YtjfghjakpjfgpaaG3
import Derived.Test.YtjfghjakpjfgpaaG2
namespace Go.Proofs.Ytjfghjakpjfgpaa
open Go Go.Jq
set_option maxRecDepth 100000
set_option linter.unusedSimpArgs false

/-- The state in the loop: the thread's instructions so far. -/
def wjS (n at' w a b : Nat) (L : List Ins) (k : Nat) : St :=
  ⟨[(12, .d (.int .i64 k)), (0, .d (.int .i64 n)), (1, .d (.int .i64 at')), (2, .d (.int .i64 w)), (3, .d (.int .i64 a)), (4, .d (.int .i64 b)), (11, .ptr 2 0), (10, .d (.bool false))],
    [(0, (L.flatMap Ins.cells).map .d), (1, [.sl 0 9 0 n]), (2, [.d (.str [110]), .d .nsl, .sl 1 1 0 1, .d (.int .i64 0), .d .nsl])], 3⟩

theorem put_fence (L : List Ins) (i : Nat) (hi : i < L.length) :
    putAt ((L.flatMap Ins.cells).map .d) (i * 9) [.d (.int .i64 3), .d (.int .i64 0), .d (.int .i64 0), .d (.int .i64 0), .d (.int .i64 0), .d (.int .i64 0), .d (.int .i64 0), .d (.int .i64 0), .d (.int .i64 0)] = ((L.set i fence).flatMap Ins.cells).map .d :=
  putAt_flat ins_len fence L i hi

theorem put_skip (L : List Ins) (i : Nat) (hi : i < L.length) (w : Int) :
    putAt ((L.flatMap Ins.cells).map .d) (i * 9) [.d (.int .i64 6), .d (.int .i64 0), .d (.int .i64 0), .d (.int .i64 0), .d (.int .i64 0), .d (.int .i64 0), .d (.int .i64 0), .d (.int .i64 0), .d (.int .i64 w)] = ((L.set i (skipIns w)).flatMap Ins.cells).map .d :=
  putAt_flat ins_len (skipIns w) L i hi

theorem wj_loop {n at' w a b : Nat} (hn : n ≤ 10) {Q : Exit → St → Prop} (hQ : Q (.exit 0) (wjS n at' w a b (List.replicate n fence) n)) :
    BWP Try.prog (mbound []) 91 (.loop ac9L0) (wjS n at' w a b (List.replicate n zeroIns) 0) Q := by
  refine bwp_count (fun k => wjS n at' w a b (List.replicate k fence ++ List.replicate (n - k) zeroIns) k) n ?_
  intro k hk
  have hLl : (List.replicate k fence ++ List.replicate (n - k) zeroIns).length = n := by simp; omega
  unfold ac9L0
  refine bwp_seq fun K1 hK1 => ?_
  by_cases hlt : k < n
  · have hlt' : (k : Int) < n := by omega
    have hset : (List.replicate k fence ++ List.replicate (n - k) zeroIns).set k fence = List.replicate (k + 1) fence ++ List.replicate (n - (k + 1)) zeroIns := by
      rw [show n - k = (n - (k + 1)) + 1 by omega]
      exact fill_next fence zeroIns k (n - (k + 1))
    generalize List.replicate k fence ++ List.replicate (n - k) zeroIns = L at hLl hset
    have hput := put_fence L k (by omega)
    simp only [putAt] at hput
    have hil := insLen L
    rw [hLl] at hil
    have hle : k * 9 + 9 ≤ n * 9 := by omega
    have hw : IntKind.i64.wrap ((k : Int) + 1) = ((k + 1 : Nat) : Int) := by rw [wrap_i64 (by omega) (by omega)]; rfl
    unfold wjS
    refine bwp_seq fun K hK => bwp_region rfl ?_
    simp -implicitDefEqProofs only [go_sem, ↓reduceIte, Nat.reduceEqDiff, Nat.reduceAdd, Nat.reduceLeDiff, Nat.reduceMul, Nat.reduceSub, Int.reduceLE, Int.reduceLT, Int.reduceEq, Int.reduceToNat, Int.reducePow, Int.reduceNeg, hlt']
    refine hK _ ?_; clear hK
    refine bwp_cond true (by simp [ev, fget]) (fun _ => ?_) (fun h => nomatch h)
    refine bwp_skip ?_
    refine hK1 _ ?_; clear hK1
    refine bwp_seq fun K1 hK1 => ?_
    refine bwp_block ?_
    refine bwp_region rfl ?_
    simp -implicitDefEqProofs only [go_sem, ↓reduceIte, Nat.reduceEqDiff, Nat.reduceAdd, Nat.reduceLeDiff, Nat.reduceMul, Nat.reduceSub, Int.reduceLE, Int.reduceLT, Int.reduceEq, Int.reduceToNat, Int.reducePow, Int.reduceNeg, Int.natCast_nonneg, hlt', Int.toNat_natCast, hput, hil, hle]
    refine hK1 _ ?_; clear hK1
    refine bwp_region rfl ?_
    simp -implicitDefEqProofs only [go_sem, ↓reduceIte, Nat.reduceEqDiff, Nat.reduceAdd, Nat.reduceLeDiff, Nat.reduceMul, Nat.reduceSub, Int.reduceLE, Int.reduceLT, Int.reduceEq, Int.reduceToNat, Int.reducePow, Int.reduceNeg, hw]
    exact ⟨hlt, (Leads.ent [(0, 0), (1, 1), (2, 2)] ⟨by simp [entT, fget, AV.ren, renL, pget, wjS, hset], by simp [entM, pinv, mget, mset, renL, AV.ren, pget, renL_append, -List.map_map, wjS, hset], rfl, rfl⟩)⟩
  · have hlt' : ¬ (k : Int) < n := by omega
    have hin : k = n := by omega
    subst hin
    have e : List.replicate k fence ++ List.replicate (k - k) zeroIns = List.replicate k fence := by simp
    rw [e]
    unfold wjS
    refine bwp_seq fun K hK => bwp_region rfl ?_
    simp -implicitDefEqProofs only [go_sem, ↓reduceIte, Nat.reduceEqDiff, Nat.reduceAdd, Nat.reduceLeDiff, Nat.reduceMul, Nat.reduceSub, Int.reduceLE, Int.reduceLT, Int.reduceEq, Int.reduceToNat, Int.reducePow, Int.reduceNeg, hlt']
    refine hK _ ?_; clear hK
    refine bwp_cond false (by simp [ev, fget]) (fun h => nomatch h) (fun _ => ?_)
    refine bwp_leads (S' := wjS k at' w a b (List.replicate k fence) k) (Leads.ent [(0, 0), (1, 1), (2, 2)] ⟨by simp [entT, fget, AV.ren, renL, pget, wjS], by simp [entM, pinv, mget, mset, renL, AV.ren, pget, renL_append, -List.map_map, wjS], rfl, rfl⟩) ?_
    exact bwp_exit hQ

theorem bits_and_nat (x : Int) (m : Nat) (hm : m ≤ 255) : ∃ q : Nat, q ≤ m ∧ bits .and .i64 x (m : Int) = (q : Int) := bits_and_le x m (by omega)

/-- The tests that WellJumps makes. -/
theorem wj_check1 {n a : Nat} (hn1 : 1 ≤ n) (hn : n ≤ 10) (ha : a < n) (w : Nat) : checkW ⟨[110], [], [(List.replicate n fence).set a (skipIns w)], 0, []⟩ = if w < 1 ∨ n < a + 1 + w then 10 else 0 := by
  have hloc : ∀ x ∈ (List.replicate n fence).set a (skipIns w), x.loc = 0 ∧ okInsB x = true := by
    intro x hx
    rcases List.mem_or_eq_of_mem_set hx with hx | rfl
    · rw [List.mem_replicate] at hx
      rw [hx.2]; exact ⟨rfl, fence_ok⟩
    · exact ⟨rfl, skip_ok w (by omega)⟩
  have hlen : ((List.replicate n fence).set a (skipIns w)).length = n := by simp
  have hj := skip_jump ha (w : Int)
  generalize (List.replicate n fence).set a (skipIns w) = L at *
  have hb : badThreadB L = false := by
    unfold badThreadB
    rw [List.any_eq_false]
    intro x hx
    rw [(hloc x hx).2]; decide
  have hwd : isWordB [110] = true := by decide +kernel
  have hf : (wellLocs ⟨[110], [], [L], 0, []⟩).length ≤ 4 := by
    refine wellLocs_few fun x hx hb => ?_
    simp only [allLocs, List.map_nil, List.nil_append, List.flatten_cons, List.flatten_nil, List.append_nil, List.mem_map] at hx
    obtain ⟨y, hy, rfl⟩ := hx
    rw [(hloc y hy).1] at hb
    exact absurd hb (by decide)
  rw [checkW_of]
  · have : twiceB [] = false := rfl
    simp only [this, Bool.false_eq_true, if_false, List.any_cons, List.any_nil, Bool.or_false, hj, Bool.not_not, Bool.or_eq_true, decide_eq_true_eq]
    by_cases h : w < 1 ∨ n < a + 1 + w
    · rw [if_pos h, if_pos (by omega)]
    · rw [if_neg h, if_neg (by omega)]
  · have hi : badInitB [] = false := rfl
    have hc : okCondB 0 [] = true := rfl
    simp [okB, hwd, hi, hb, hc]
  · have hs : sumLen [L] = L.length := by simp [sumLen]
    have f1 : ¬ 10 < L.length := by omega
    have f2 : ¬ 24 < L.length := by omega
    have f3 : ¬ 4 < (wellLocs ⟨[110], [], [L], 0, []⟩).length := by omega
    simp [bigB, hs, f1, f2, f3]
  · rfl

theorem wj_check2 {n a b : Nat} (hn1 : 1 ≤ n) (hn : n ≤ 10) (ha : a ≤ 3) (hb : b ≤ 3) : checkW ⟨[110], [⟨97 + (a : Int), 0⟩, ⟨97 + (b : Int), 3⟩], [List.replicate n fence], 0, []⟩ = if a = b then 9 else 0 := by
  have hbt : badThreadB (List.replicate n fence) = false := by
    unfold badThreadB
    rw [List.any_eq_false]
    intro x hx
    rw [List.mem_replicate] at hx
    rw [hx.2, fence_ok]; decide
  have hj := fences_jump n
  have hwd : isWordB [110] = true := by decide +kernel
  have hf : (wellLocs ⟨[110], [⟨97 + (a : Int), 0⟩, ⟨97 + (b : Int), 3⟩], [List.replicate n fence], 0, []⟩).length ≤ 4 := by
    refine locs_window 4 (by omega) fun x hx hb => ?_
    simp only [allLocs, List.map_cons, List.map_nil, List.flatten_cons, List.flatten_nil, List.append_nil, List.map_replicate, List.cons_append, List.nil_append, List.mem_cons, List.mem_replicate] at hx
    rcases hx with rfl | rfl | ⟨_, rfl⟩
    · omega
    · omega
    · exact absurd hb (by decide)
  have la : isLocB (97 + (a : Int)) = true := (isLocB_iff _).2 (by omega)
  have lb : isLocB (97 + (b : Int)) = true := (isLocB_iff _).2 (by omega)
  rw [checkW_of]
  · have ht : twiceB [⟨97 + (a : Int), 0⟩, ⟨97 + (b : Int), 3⟩] = decide (a = b) := by
      unfold twiceB
      by_cases h : a = b
      · subst h; simp
      · have : (97 + (a : Int)) ≠ 97 + (b : Int) := by omega
        have h2 : ¬ (a : Int) = b := by omega
        simp [h, h2]
    have hjs : ([List.replicate n fence].any fun l => !jumpsB l) = false := by simp [hj]
    simp only [ht, hjs, decide_eq_true_eq, Bool.false_eq_true, if_false]
  · have hi : badInitB [⟨97 + (a : Int), 0⟩, ⟨97 + (b : Int), 3⟩] = false := by simp [badInitB, la, lb]
    have hc : okCondB 0 [] = true := rfl
    simp [okB, hwd, hi, hbt, hc]
  · have hs : sumLen [List.replicate n fence] = n := by simp [sumLen]
    have f1 : ¬ 10 < n := by omega
    have f2 : ¬ 24 < n := by omega
    have f3 : ¬ 4 < (wellLocs ⟨[110], [⟨97 + (a : Int), 0⟩, ⟨97 + (b : Int), 3⟩], [List.replicate n fence], 0, []⟩).length := by omega
    simp [bigB, hs, f1, f2, f3]
  · rfl

theorem wellJumps_pure (n0 at0 w0 a0 b0 : Int) : Pure Try.prog 9 [.d (.int .i64 n0), .d (.int .i64 at0), .d (.int .i64 w0), .d (.int .i64 a0), .d (.int .i64 b0)] (.d (.bool true)) := by
  obtain ⟨w, hw15, hwe⟩ := bits_and_nat w0 15 (by omega)
  obtain ⟨a, ha3, hae⟩ := bits_and_nat a0 3 (by omega)
  obtain ⟨b, hb3, hbe⟩ := bits_and_nat b0 3 (by omega)
  have hwe' : bits .and .i64 w0 15 = (w : Int) := hwe
  have hae' : bits .and .i64 a0 3 = (a : Int) := hae
  have hbe' : bits .and .i64 b0 3 = (b : Int) := hbe
  have tm10 : ∀ x : Nat, (x : Int).tmod 10 = ((x % 10 : Nat) : Int) := fun x => rfl
  refine acalls_of Try.func9 ac9_ok Try.ntmps9 Try.results9 rfl ?_
  unfold ac9
  refine bwp_seq fun K hK => bwp_region rfl ?_
  simp -implicitDefEqProofs only [go_sem, ↓reduceIte, Nat.reduceEqDiff, Nat.reduceAdd, Nat.reduceLeDiff, Nat.reduceMul, Nat.reduceSub, Int.reduceLE, Int.reduceLT, Int.reduceEq, Int.reduceToNat, Int.reducePow, Int.reduceNeg]
  refine hK _ ?_; clear hK
  have hn10 : low8 n0 % 10 + 1 ≤ 10 := by omega
  have hn1 : 1 ≤ low8 n0 % 10 + 1 := by omega
  have hwn : IntKind.i64.wrap (((low8 n0 % 10 : Nat) : Int) + 1) = ((low8 n0 % 10 + 1 : Nat) : Int) := by rw [wrap_i64 (by omega) (by omega)]; rfl
  refine bwp_seq fun K hK => bwp_region rfl ?_
  simp -implicitDefEqProofs only [go_sem, ↓reduceIte, Nat.reduceEqDiff, Nat.reduceAdd, Nat.reduceLeDiff, Nat.reduceMul, Nat.reduceSub, Int.reduceLE, Int.reduceLT, Int.reduceEq, Int.reduceToNat, Int.reducePow, Int.reduceNeg, low8_eq, tm10, hwn]
  refine hK _ ?_; clear hK
  generalize low8 n0 % 10 + 1 = n at hn10 hn1
  have hnz : ¬ (n : Int) = 0 := by omega
  refine bwp_seq fun K hK => bwp_region rfl ?_
  simp -implicitDefEqProofs only [go_sem, ↓reduceIte, Nat.reduceEqDiff, Nat.reduceAdd, Nat.reduceLeDiff, Nat.reduceMul, Nat.reduceSub, Int.reduceLE, Int.reduceLT, Int.reduceEq, Int.reduceToNat, Int.reducePow, Int.reduceNeg, low8_eq, hnz, tmod_nat, hwe', hae', hbe']
  refine hK _ ?_; clear hK
  have hat : low8 at0 % n < n := Nat.mod_lt _ (by omega)
  generalize low8 at0 % n = at' at hat
  have hmb : 72 * (n : Int) ≤ 140737488351232 := by omega
  have hmc : (n : Int) ≤ 9223372036854775807 := by omega
  have hz9 := zeros9 n
  refine bwp_seq fun K hK => bwp_region rfl ?_
  simp -implicitDefEqProofs only [go_sem, ↓reduceIte, Nat.reduceEqDiff, Nat.reduceAdd, Nat.reduceLeDiff, Nat.reduceMul, Nat.reduceSub, Int.reduceLE, Int.reduceLT, Int.reduceEq, Int.reduceToNat, Int.reducePow, Int.reduceNeg, Int.natCast_nonneg, Int.le_refl, hmb, hmc, Int.toNat_natCast, hz9]
  refine hK _ ?_; clear hK
  refine bwp_seq fun K1 hK1 => ?_
  refine bwp_seq fun K2 hK2 => ?_
  refine bwp_region rfl ?_
  simp -implicitDefEqProofs only [go_sem, ↓reduceIte, Nat.reduceEqDiff, Nat.reduceAdd, Nat.reduceLeDiff, Nat.reduceMul, Nat.reduceSub, Int.reduceLE, Int.reduceLT, Int.reduceEq, Int.reduceToNat, Int.reducePow, Int.reduceNeg]
  refine hK2 _ ?_; clear hK2
  refine bwp_block ?_
  refine bwp_leads (S' := wjS n at' w a b (List.replicate n zeroIns) 0) (Leads.ent [(0, 0), (1, 1), (2, 2)] ⟨by simp [entT, fget, AV.ren, renL, pget, wjS, hz9], by simp [entM, pinv, mget, mset, renL, AV.ren, pget, renL_append, -List.map_map, wjS, hz9], rfl, rfl⟩) ?_
  refine wj_loop hn10 ?_
  simp -implicitDefEqProofs only [go_sem, ↓reduceIte, Nat.reduceEqDiff, Nat.reduceAdd, Nat.reduceLeDiff, Nat.reduceMul, Nat.reduceSub, Int.reduceLE, Int.reduceLT, Int.reduceEq, Int.reduceToNat, Int.reducePow, Int.reduceNeg]
  refine hK1 _ ?_; clear hK1
  have hLl : (List.replicate n fence).length = n := by simp
  have hil := insLen (List.replicate n fence)
  rw [hLl] at hil
  have hle : at' * 9 + 9 ≤ n * 9 := by omega
  have hat' : (at' : Int) < n := by omega
  have hput := put_skip (List.replicate n fence) at' (by omega) w
  simp only [putAt] at hput
  have hc1 := wj_check1 hn1 hn10 hat w
  have hL1l : ((List.replicate n fence).set at' (skipIns w)).length = n := by simp
  have hback : ((List.replicate n fence).set at' (skipIns w)).set at' fence = List.replicate n fence := by
    rw [List.set_set]
    refine List.ext_getElem? fun i => ?_
    rw [List.getElem?_set]
    split
    · rename_i h; subst h; rw [List.getElem?_replicate]; simp [hat]
    · rfl
  unfold wjS
  refine bwp_seq fun K hK => bwp_region rfl ?_
  simp -implicitDefEqProofs only [go_sem, ↓reduceIte, Nat.reduceEqDiff, Nat.reduceAdd, Nat.reduceLeDiff, Nat.reduceMul, Nat.reduceSub, Int.reduceLE, Int.reduceLT, Int.reduceEq, Int.reduceToNat, Int.reducePow, Int.reduceNeg, Int.natCast_nonneg, hat', Int.toNat_natCast, hput, hil, hle]
  refine hK _ ?_; clear hK
  generalize (List.replicate n fence).set at' (skipIns w) = L1 at *
  refine bwp_seq fun K hK => bwp_region rfl ?_
  simp -implicitDefEqProofs only [go_sem, ↓reduceIte, Nat.reduceEqDiff, Nat.reduceAdd, Nat.reduceLeDiff, Nat.reduceMul, Nat.reduceSub, Int.reduceLE, Int.reduceLT, Int.reduceEq, Int.reduceToNat, Int.reducePow, Int.reduceNeg]
  refine hK _ ?_; clear hK
  refine bwp_seq fun K1 hK1 => ?_
  have rest : ∀ t' : Fr, fget t' 0 = .d (.int .i64 n) → fget t' 1 = .d (.int .i64 at') → fget t' 3 = .d (.int .i64 a) → fget t' 4 = .d (.int .i64 b) → fget t' 11 = .ptr 2 0 →
      fget t' 13 = .d (.int .i64 (if w < 1 ∨ n < at' + 1 + w then 10 else 0)) → K1 ⟨t', [(0, (L1.flatMap Ins.cells).map .d), (1, [.sl 0 9 0 n]), (2, [.d (.str [110]), .d .nsl, .sl 1 1 0 1, .d (.int .i64 0), .d .nsl])], 3⟩ := by
    intro t' h0 h1 h3 h4 h11 h13
    refine hK1 _ ?_; clear hK1
    refine bwp_seq fun K2 hK2 => ?_
    have hI0 : IsSl Init.cells [] .nsl := ⟨by simp, .inl ⟨rfl, rfl⟩⟩
    have i1 : IsTest ⟨[110], [], [L1], 0, []⟩ [.str [110], .nsl, .sl 1 [.sl n (L1.flatMap Ins.cells)], .int .i64 0, .nsl] :=
      ⟨.nsl, _, .nsl, rfl, hI0, ⟨[.sl n (L1.flatMap Ins.cells)], ⟨by simp, .inr rfl⟩, ⟨by omega, .inr (by rw [hL1l])⟩, trivial⟩, isSl2_nil⟩
    have hil1 := insLen L1
    rw [hL1l] at hil1
    have htk : (L1.flatMap Ins.cells).take (n * 9) = L1.flatMap Ins.cells := List.take_of_length_le (by omega)
    have hput2 := put_fence L1 at' (by omega)
    rw [hback] at hput2
    simp only [putAt] at hput2
    refine bwp_seq fun K hK => bwp_region rfl ?_
    simp -implicitDefEqProofs only [go_sem, ↓reduceIte, Nat.reduceEqDiff, Nat.reduceAdd, Nat.reduceLeDiff, Nat.reduceMul, Nat.reduceSub, Int.reduceLE, Int.reduceLT, Int.reduceEq, Int.reduceToNat, Int.reducePow, Int.reduceNeg, h11]
    refine callK_lend [(0, L1.flatMap Ins.cells), (1, [.sl n (L1.flatMap Ins.cells)])] _ (check_pure i1 (by simp) (by simp)) ?_ ?_ (fun v h => by subst h; rfl) ?_
    · simp [zokFrom, mget, cvL, AV.cv, zget, cvL_d, htk]
    · simp [cvL, AV.cv, zget]
    rintro v rfl
    rw [hc1]
    simp -implicitDefEqProofs only [go_sem, ↓reduceIte, Nat.reduceEqDiff, Nat.reduceAdd, Nat.reduceLeDiff, Nat.reduceMul, Nat.reduceSub, Int.reduceLE, Int.reduceLT, Int.reduceEq, Int.reduceToNat, Int.reducePow, Int.reduceNeg, h13]
    refine hK _ ?_; clear hK
    refine bwp_cond false (by simp [ev, fget]) (fun h => nomatch h) (fun _ => ?_)
    refine bwp_skip ?_
    refine hK2 _ ?_; clear hK2
    generalize L1.flatMap Ins.cells = c1 at *
    refine bwp_seq fun K hK => bwp_region rfl ?_
    simp -implicitDefEqProofs only [go_sem, ↓reduceIte, Nat.reduceEqDiff, Nat.reduceAdd, Nat.reduceLeDiff, Nat.reduceMul, Nat.reduceSub, Int.reduceLE, Int.reduceLT, Int.reduceEq, Int.reduceToNat, Int.reducePow, Int.reduceNeg, h11, h1, Int.natCast_nonneg, hat', Int.toNat_natCast, hil1, hle, hput2]
    refine hK _ ?_; clear hK
    have hwa : IntKind.i64.wrap (97 + (a : Int)) = 97 + (a : Int) := wrap_i64 (by omega) (by omega)
    have hwb : IntKind.i64.wrap (97 + (b : Int)) = 97 + (b : Int) := wrap_i64 (by omega) (by omega)
    refine bwp_seq fun K hK => bwp_region rfl ?_
    simp -implicitDefEqProofs only [go_sem, ↓reduceIte, Nat.reduceEqDiff, Nat.reduceAdd, Nat.reduceLeDiff, Nat.reduceMul, Nat.reduceSub, Int.reduceLE, Int.reduceLT, Int.reduceEq, Int.reduceToNat, Int.reducePow, Int.reduceNeg, h3, h4, h11, hwa, hwb]
    refine hK _ ?_; clear hK
    refine bwp_seq fun K hK => bwp_region rfl ?_
    simp -implicitDefEqProofs only [go_sem, ↓reduceIte, Nat.reduceEqDiff, Nat.reduceAdd, Nat.reduceLeDiff, Nat.reduceMul, Nat.reduceSub, Int.reduceLE, Int.reduceLT, Int.reduceEq, Int.reduceToNat, Int.reducePow, Int.reduceNeg]
    refine hK _ ?_; clear hK
    have hc2 := wj_check2 (n := n) hn1 hn10 ha3 hb3
    have hI2 : IsSl Init.cells [⟨97 + (a : Int), 0⟩, ⟨97 + (b : Int), 3⟩] (.sl 2 [.int .i64 (97 + (a : Int)), .int .i64 0, .int .i64 (97 + (b : Int)), .int .i64 3]) := ⟨by simp, .inr rfl⟩
    have i2 : IsTest ⟨[110], [⟨97 + (a : Int), 0⟩, ⟨97 + (b : Int), 3⟩], [List.replicate n fence], 0, []⟩ [.str [110], .sl 2 [.int .i64 (97 + (a : Int)), .int .i64 0, .int .i64 (97 + (b : Int)), .int .i64 3], .sl 1 [.sl n ((List.replicate n fence).flatMap Ins.cells)], .int .i64 0, .nsl] :=
      ⟨_, _, .nsl, rfl, hI2, ⟨[.sl n ((List.replicate n fence).flatMap Ins.cells)], ⟨by simp, .inr rfl⟩, ⟨by simp; omega, .inr (by rw [hLl])⟩, trivial⟩, isSl2_nil⟩
    have htk2 : ((List.replicate n fence).flatMap Ins.cells).take (n * 9) = (List.replicate n fence).flatMap Ins.cells := List.take_of_length_le (by omega)
    generalize (List.replicate n fence).flatMap Ins.cells = c2 at *
    refine bwp_seq fun K3 hK3 => ?_
    have rest2 : ∀ t2 : Fr, fget t2 11 = .ptr 2 0 → fget t2 13 = .d (.int .i64 (if a = b then 9 else 0)) →
        K3 ⟨t2, [(0, c2.map .d), (1, [.sl 0 9 0 n]), (2, [.d (.str [110]), .sl 3 2 0 2, .sl 1 1 0 1, .d (.int .i64 0), .d .nsl]), (3, [.d (.int .i64 (97 + (a : Int))), .d (.int .i64 0), .d (.int .i64 (97 + (b : Int))), .d (.int .i64 3)])], 4⟩ := by
      intro t2 k11 k13
      refine hK3 _ ?_; clear hK3
      refine bwp_seq fun K hK => bwp_region rfl ?_
      simp -implicitDefEqProofs only [go_sem, ↓reduceIte, Nat.reduceEqDiff, Nat.reduceAdd, Nat.reduceLeDiff, Nat.reduceMul, Nat.reduceSub, Int.reduceLE, Int.reduceLT, Int.reduceEq, Int.reduceToNat, Int.reducePow, Int.reduceNeg, k11]
      refine callK_lend [(0, c2), (1, [.sl n c2]), (3, [.int .i64 (97 + (a : Int)), .int .i64 0, .int .i64 (97 + (b : Int)), .int .i64 3])] _ (check_pure i2 (by simp) (by simp)) ?_ ?_ (fun v h => by subst h; rfl) ?_
      · simp [zokFrom, mget, cvL, AV.cv, zget, cvL_d, htk2]
      · simp [cvL, AV.cv, zget]
      rintro v rfl
      rw [hc2]
      simp -implicitDefEqProofs only [go_sem, ↓reduceIte, Nat.reduceEqDiff, Nat.reduceAdd, Nat.reduceLeDiff, Nat.reduceMul, Nat.reduceSub, Int.reduceLE, Int.reduceLT, Int.reduceEq, Int.reduceToNat, Int.reducePow, Int.reduceNeg, k13]
      refine callK_pure awake5_pure rfl rfl ?_
      simp -implicitDefEqProofs only [go_sem, ↓reduceIte, Nat.reduceEqDiff, Nat.reduceAdd, Nat.reduceLeDiff, Nat.reduceMul, Nat.reduceSub, Int.reduceLE, Int.reduceLT, Int.reduceEq, Int.reduceToNat, Int.reducePow, Int.reduceNeg]
      refine hK _ ?_; clear hK
      refine bwp_ret ?_
      simp only [go_sem]
      refine aend_ret _ rfl rfl ⟨?_, rfl⟩
      rfl
    refine bwp_seq fun K hK => bwp_region rfl ?_
    simp -implicitDefEqProofs only [go_sem, ↓reduceIte, Nat.reduceEqDiff, Nat.reduceAdd, Nat.reduceLeDiff, Nat.reduceMul, Nat.reduceSub, Int.reduceLE, Int.reduceLT, Int.reduceEq, Int.reduceToNat, Int.reducePow, Int.reduceNeg, h3, h4]
    refine hK _ ?_; clear hK
    by_cases hab : a = b
    · have hab' : (a : Int) = b := by omega
      refine bwp_cond true (by simp [ev, fget, hab]) (fun _ => ?_) (fun h => nomatch h)
      refine bwp_region rfl ?_
      simp -implicitDefEqProofs only [go_sem, ↓reduceIte, Nat.reduceEqDiff, Nat.reduceAdd, Nat.reduceLeDiff, Nat.reduceMul, Nat.reduceSub, Int.reduceLE, Int.reduceLT, Int.reduceEq, Int.reduceToNat, Int.reducePow, Int.reduceNeg]
      exact rest2 _ (by simp [fget, h11]) (by simp [fget, hab])
    · have hab' : ¬ (a : Int) = b := by omega
      refine bwp_cond false (by simp [ev, fget, hab']) (fun h => nomatch h) (fun _ => ?_)
      refine bwp_skip ?_
      simp -implicitDefEqProofs only [go_sem, ↓reduceIte, Nat.reduceEqDiff, Nat.reduceAdd, Nat.reduceLeDiff, Nat.reduceMul, Nat.reduceSub, Int.reduceLE, Int.reduceLT, Int.reduceEq, Int.reduceToNat, Int.reducePow, Int.reduceNeg]
      exact rest2 _ (by simp [fget, h11]) (by simp [fget, hab])
  by_cases hw0 : w = 0
  · have hw0' : (w : Int) = 0 := by omega
    refine bwp_seq fun K hK => bwp_region rfl ?_
    simp -implicitDefEqProofs only [go_sem, ↓reduceIte, Nat.reduceEqDiff, Nat.reduceAdd, Nat.reduceLeDiff, Nat.reduceMul, Nat.reduceSub, Int.reduceLE, Int.reduceLT, Int.reduceEq, Int.reduceToNat, Int.reducePow, Int.reduceNeg, hw0']
    refine hK _ ?_; clear hK
    refine bwp_cond true (by simp [ev, fget]) (fun _ => ?_) (fun h => nomatch h)
    refine bwp_region rfl ?_
    simp -implicitDefEqProofs only [go_sem, ↓reduceIte, Nat.reduceEqDiff, Nat.reduceAdd, Nat.reduceLeDiff, Nat.reduceMul, Nat.reduceSub, Int.reduceLE, Int.reduceLT, Int.reduceEq, Int.reduceToNat, Int.reducePow, Int.reduceNeg]
    exact rest _ rfl rfl rfl rfl rfl (by simp [fget, hw0])
  · have hw0' : ¬ (w : Int) = 0 := by omega
    have hw1 : IntKind.i64.wrap ((at' : Int) + 1) = (at' : Int) + 1 := wrap_i64 (by omega) (by omega)
    have hw2 : IntKind.i64.wrap ((at' : Int) + 1 + w) = (at' : Int) + 1 + w := wrap_i64 (by omega) (by omega)
    by_cases hg : n < at' + 1 + w
    · have hg' : (n : Int) < (at' : Int) + 1 + w := by omega
      refine bwp_seq fun K hK => bwp_region rfl ?_
      simp -implicitDefEqProofs only [go_sem, ↓reduceIte, Nat.reduceEqDiff, Nat.reduceAdd, Nat.reduceLeDiff, Nat.reduceMul, Nat.reduceSub, Int.reduceLE, Int.reduceLT, Int.reduceEq, Int.reduceToNat, Int.reducePow, Int.reduceNeg, hw0', hw1, hw2, hg']
      refine hK _ ?_; clear hK
      refine bwp_cond true (by simp [ev, fget]) (fun _ => ?_) (fun h => nomatch h)
      refine bwp_region rfl ?_
      simp -implicitDefEqProofs only [go_sem, ↓reduceIte, Nat.reduceEqDiff, Nat.reduceAdd, Nat.reduceLeDiff, Nat.reduceMul, Nat.reduceSub, Int.reduceLE, Int.reduceLT, Int.reduceEq, Int.reduceToNat, Int.reducePow, Int.reduceNeg]
      exact rest _ rfl rfl rfl rfl rfl (by simp [fget, hg])
    · have hg' : ¬ (n : Int) < (at' : Int) + 1 + w := by omega
      have hn0 : ¬ w < 1 := by omega
      refine bwp_seq fun K hK => bwp_region rfl ?_
      simp -implicitDefEqProofs only [go_sem, ↓reduceIte, Nat.reduceEqDiff, Nat.reduceAdd, Nat.reduceLeDiff, Nat.reduceMul, Nat.reduceSub, Int.reduceLE, Int.reduceLT, Int.reduceEq, Int.reduceToNat, Int.reducePow, Int.reduceNeg, hw0', hw1, hw2, hg']
      refine hK _ ?_; clear hK
      refine bwp_cond false (by simp [ev, fget]) (fun h => nomatch h) (fun _ => ?_)
      refine bwp_skip ?_
      simp -implicitDefEqProofs only [go_sem, ↓reduceIte, Nat.reduceEqDiff, Nat.reduceAdd, Nat.reduceLeDiff, Nat.reduceMul, Nat.reduceSub, Int.reduceLE, Int.reduceLT, Int.reduceEq, Int.reduceToNat, Int.reducePow, Int.reduceNeg]
      exact rest _ rfl rfl rfl rfl rfl (by simp [fget, hg, hw0])

end Go.Proofs.Ytjfghjakpjfgpaa
