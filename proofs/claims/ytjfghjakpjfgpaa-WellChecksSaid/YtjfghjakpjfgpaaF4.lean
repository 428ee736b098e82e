/- A test's locations as the program tells them, without a heap: a bit each. -/
import Derived.Test.YtjfghjakpjfgpaaF3
import Derived.Test.YtjfghjakpjfgpaaXG
namespace Go.Proofs.Ytjfghjakpjfgpaa
open Go Go.Jq
set_option maxRecDepth 100000
set_option linter.unusedSimpArgs false

/-- One more location. -/
def addLoc (s : Nat) (x : Int) : Nat := if isLocB x = true then addBit s (x - 97).toNat else s

theorem isLocB_iff (x : Int) : isLocB x = true ↔ 97 ≤ x ∧ x ≤ 122 := by simp [isLocB]

theorem addLoc_lt {s : Nat} (hs : s < 67108864) (x : Int) : addLoc s x < 67108864 := by
  unfold addLoc
  split
  · rename_i h
    have := (isLocB_iff x).1 h
    exact addBit_lt hs (by omega)
  · exact hs

theorem adds_lt {α : Type} (f : α → Int) : ∀ (l : List α) {s : Nat}, s < 67108864 → l.foldl (fun s x => addLoc s (f x)) s < 67108864
  | [], s, h => h
  | a :: l, s, h => by rw [List.foldl_cons]; exact adds_lt f l (addLoc_lt h _)

theorem addss_lt {α : Type} (f : α → Int) : ∀ (l : List (List α)) {s : Nat}, s < 67108864 → l.foldl (fun s l => l.foldl (fun s x => addLoc s (f x)) s) s < 67108864
  | [], s, h => h
  | a :: l, s, h => by rw [List.foldl_cons]; exact addss_lt f l (adds_lt f a h)

theorem shl_bit {x : Int} (h0 : 97 ≤ x) (h1 : x ≤ 122) : IntKind.u64.wrap (1 * 2 ^ min (x - 97).toNat (IntKind.u64.bits)) = ((2 ^ (x - 97).toNat : Nat) : Int) := by
  have hm : min (x - 97).toNat (IntKind.u64.bits) = (x - 97).toNat := Nat.min_eq_left (by have : IntKind.u64.bits = 64 := rfl; omega)
  have hlt : (2 : Nat) ^ (x - 97).toNat < 2 ^ 26 := Nat.pow_lt_pow_right (by omega) (by omega)
  rw [hm, wrap_u64]
  · simp
  · have : (0 : Int) ≤ ((2 ^ (x - 97).toNat : Nat) : Int) := Int.natCast_nonneg _
    simpa using this
  · have : ((2 ^ (x - 97).toNat : Nat) : Int) < 18446744073709551616 := by omega
    simpa using this

theorem add_calls (x : Int) {s : Nat} (hs : s < 67108864) :
    ACalls Try.prog 57 [.d (.int .i64 x), .ptr 0 0] [(0, [.d (.int .u64 s)])] fun r m' => r = .tup [] ∧ m' = [(0, [.d (.int .u64 (addLoc s x))])] := by
  refine acalls_of Try.func57 ac57_ok Try.ntmps57 Try.results57 rfl ?_
  unfold ac57
  refine bwp_seq fun K hK => bwp_region rfl ?_
  simp -implicitDefEqProofs only [go_sem, ↓reduceIte, Nat.reduceEqDiff, Nat.reduceAdd, Nat.reduceLeDiff, Nat.reduceMul, Nat.reduceSub, Int.reduceLE, Int.reduceLT, Int.reduceEq, Int.reduceToNat, Int.reducePow, Int.reduceNeg]
  refine callK_pure (isLoc_pure x) rfl rfl ?_
  simp -implicitDefEqProofs only [go_sem, ↓reduceIte, Nat.reduceEqDiff, Nat.reduceAdd, Nat.reduceLeDiff, Nat.reduceMul, Nat.reduceSub, Int.reduceLE, Int.reduceLT, Int.reduceEq, Int.reduceToNat, Int.reducePow, Int.reduceNeg]
  refine hK _ ?_; clear hK
  cases hb : isLocB x
  · refine bwp_cond false (by simp [ev, fget]) (fun h => nomatch h) (fun _ => ?_)
    refine bwp_skip ?_
    exact ⟨.tup [], rfl, [(0, 0)], [(0, [.d (.int .u64 s)])], rfl, rfl, by simp [entM, pinv, mget, renL, AV.ren], rfl, by simp [addLoc, hb]⟩
  · refine bwp_cond true (by simp [ev, fget]) (fun _ => ?_) (fun h => nomatch h)
    have h := (isLocB_iff x).1 hb
    have hw : IntKind.i64.wrap (x - 97) = x - 97 := wrap_i64 (by omega) (by omega)
    have hp : (2 : Nat) ^ (x - 97).toNat < 18446744073709551616 := by
      have : (2 : Nat) ^ (x - 97).toNat < 2 ^ 26 := Nat.pow_lt_pow_right (by omega) (by omega)
      omega
    have hor := or_u64 (a := s) (b := 2 ^ (x - 97).toNat) (by omega) hp
    have hs2 := shl_bit h.1 h.2
    have hs3 : IntKind.u64.wrap (2 ^ min (x - 97).toNat 64) = ((2 ^ (x - 97).toNat : Nat) : Int) := by rw [Int.one_mul] at hs2; exact hs2
    have hn : ¬ x - 97 < 0 := by omega
    refine bwp_region_draw rfl rfl ?_
    have hk64 : (x - 97).toNat ≤ 64 := by omega
    have hbits : IntKind.u64.bits = 64 := rfl
    have hmin : min (x - 97).toNat 64 = (x - 97).toNat := Nat.min_eq_left hk64
    rw [hbits, hmin] at hs2
    rw [hmin] at hs3
    simp -implicitDefEqProofs only [go_sem, ↓reduceIte, Nat.reduceEqDiff, Nat.reduceAdd, Nat.reduceLeDiff, Nat.reduceMul, Nat.reduceSub, Int.reduceLE, Int.reduceLT, Int.reduceEq, Int.reduceToNat, Int.reducePow, Int.reduceNeg, hw, hn, hbits, hk64, hs2, hs3, hor]
    refine ⟨rfl, ?_⟩
    exact ⟨.tup [], rfl, [(0, 0)], [(0, [.d (.int .u64 (addLoc s x))])], rfl, rfl, by simp only [entM, pinv, mget, renL, AV.ren, addLoc, hb, addBit, if_true, Int.one_mul, hs2, hs3, hor, and_true, true_and, ↓reduceIte], rfl, rfl⟩

theorem add_callK (x : Int) {s : Nat} (hs : s < 67108864) {j : Nat} {dst : Option Nat} {r : List AOper} {K : St → Prop} {t : Fr} {m : Mem} {n : Nat} (hm : mget m j = some [.d (.int .u64 s)])
    (hk : runOps Try.prog r ⟨putF t dst (.tup []), mset m j [.d (.int .u64 (addLoc s x))], n + 1⟩ K) : callK Try.prog 57 [.d (.int .i64 x), .ptr j 0] dst r K t m n := by
  refine callK_gen [(0, j)] [.d (.int .i64 x), .ptr 0 0] [(0, [.d (.int .u64 s)])] (nb := j + 1) (add_calls x hs) (by simp [okRen]) (by simp [renL, AV.ren, pget]) (by simp [inL, inB, pget]) ⟨by simp [pget, hm, renL, AV.ren, inL, inB], trivial⟩ (by simp [mget]) ?_
  rintro r0 m' ⟨rfl, rfl⟩
  have e : callMem [(0, j)] [(0, [AV.d (.int .u64 s)])] [(0, [AV.d (.int .u64 (addLoc s x))])] n m = mset m j [.d (.int .u64 (addLoc s x))] := by
    simp [callMem, updNew, updOld, mget, renL, AV.ren]
  rw [e]
  exact hk

/-- The state in letters. -/
def ltS (cs : List DV) (s : Nat) (ex : Fr) : St := ⟨ex ++ [(1, .dptr cs), (2, .d (.int .u64 0)), (3, .ptr 0 0), (4, .fn 57 [.ptr 0 0])], [(0, [.d (.int .u64 s)])], 1⟩

theorem lets_inits {l : List Init} {D : DV} (hD : IsSl Init.cells l D) {cs : List DV} {s : Nat} (hs : s < 67108864) {Q : Exit → St → Prop}
    (hQ : Q (.exit 0) (ltS cs (l.foldl (fun s x => addLoc s x.loc) s) [])) :
    BWP Try.prog (mbound []) 68 (.loop ac38L0) (ltS cs s [(19, .d (.int .i64 (0 : Nat))), (17, .d D), (18, .d (.int .i64 l.length))]) Q := by
  have hbig := hD.1
  refine bwp_count (fun i => ltS cs ((l.take i).foldl (fun s x => addLoc s x.loc) s) [(19, .d (.int .i64 (i : Nat))), (17, .d D), (18, .d (.int .i64 l.length))]) l.length ?_
  intro i hi
  have hsi : (l.take i).foldl (fun s (x : Init) => addLoc s x.loc) s < 67108864 := adds_lt _ _ hs
  generalize hv : (l.take i).foldl (fun s (x : Init) => addLoc s x.loc) s = si at hsi
  unfold ac38L0 ltS
  by_cases hlt : i < l.length
  · have hlt' : (i : Int) < l.length := by omega
    obtain ⟨cs2, rest, hDe, hdrop, hcs⟩ := hD.at init_len (by omega) i hlt
    have hnx := foldl_next (fun s (x : Init) => addLoc s x.loc) s l i hlt
    rw [hv] at hnx
    have hw : IntKind.i64.wrap ((i : Int) + 1) = ((i + 1 : Nat) : Int) := by rw [wrap_i64 (by omega) (by omega)]; rfl
    refine bwp_seq fun K hK => bwp_region rfl ?_
    simp -implicitDefEqProofs only [go_sem, ↓reduceIte, Nat.reduceEqDiff, Nat.reduceAdd, Nat.reduceLeDiff, Nat.reduceMul, Nat.reduceSub, Int.reduceLE, Int.reduceLT, Int.reduceEq, Int.reduceToNat, Int.reducePow, Int.reduceNeg, hlt']
    refine hK _ ?_; clear hK
    refine bwp_seq fun K1 hK1 => ?_
    refine bwp_cond true (by simp [ev, fget]) (fun _ => ?_) (fun h => nomatch h)
    refine bwp_skip ?_
    refine hK1 _ ?_; clear hK1
    refine bwp_seq fun K1 hK1 => ?_
    refine bwp_block ?_
    have hl2 : ∀ (n : Nat), (2 ≤ (n + 1 + 1)) = True := fun n => by simp
    refine bwp_seq fun K hK => bwp_region rfl ?_
    simp -implicitDefEqProofs only [go_sem, ↓reduceIte, Nat.reduceEqDiff, Nat.reduceAdd, Nat.reduceLeDiff, Nat.reduceMul, Nat.reduceSub, Int.reduceLE, Int.reduceLT, Int.reduceEq, Int.reduceToNat, Int.reducePow, Int.reduceNeg, hDe, hlt', Int.natCast_nonneg, Int.toNat_natCast, hcs, hdrop, Init.cells, hl2]
    refine hK _ ?_; clear hK
    generalize l[i] = x at hnx hdrop
    refine bwp_region rfl ?_
    simp -implicitDefEqProofs only [go_sem, ↓reduceIte, Nat.reduceEqDiff, Nat.reduceAdd, Nat.reduceLeDiff, Nat.reduceMul, Nat.reduceSub, Int.reduceLE, Int.reduceLT, Int.reduceEq, Int.reduceToNat, Int.reducePow, Int.reduceNeg]
    refine ⟨rfl, add_callK x.loc hsi rfl ?_⟩
    simp -implicitDefEqProofs only [go_sem, ↓reduceIte, Nat.reduceEqDiff, Nat.reduceAdd, Nat.reduceLeDiff, Nat.reduceMul, Nat.reduceSub, Int.reduceLE, Int.reduceLT, Int.reduceEq, Int.reduceToNat, Int.reducePow, Int.reduceNeg]
    refine hK1 _ ?_; clear hK1
    refine bwp_region rfl ?_
    simp -implicitDefEqProofs only [go_sem, ↓reduceIte, Nat.reduceEqDiff, Nat.reduceAdd, Nat.reduceLeDiff, Nat.reduceMul, Nat.reduceSub, Int.reduceLE, Int.reduceLT, Int.reduceEq, Int.reduceToNat, Int.reducePow, Int.reduceNeg, hw]
    exact ⟨hlt, (Leads.ent [(0, 0)] ⟨by simp [entT, fget, AV.ren, renL, pget, hDe, hnx], by simp [entM, pinv, mget, mset, renL, AV.ren, pget, renL_append, -List.map_map, hDe, hnx], rfl, rfl⟩)⟩
  · have hlt' : ¬ (i : Int) < l.length := by omega
    have hin : i = l.length := by omega
    subst hin
    rw [List.take_of_length_le (Nat.le_refl _)] at hv
    refine bwp_seq fun K hK => bwp_region rfl ?_
    simp -implicitDefEqProofs only [go_sem, ↓reduceIte, Nat.reduceEqDiff, Nat.reduceAdd, Nat.reduceLeDiff, Nat.reduceMul, Nat.reduceSub, Int.reduceLE, Int.reduceLT, Int.reduceEq, Int.reduceToNat, Int.reducePow, Int.reduceNeg, hlt']
    refine hK _ ?_; clear hK
    refine bwp_seq fun K1 hK1 => ?_
    refine bwp_cond false (by simp [ev, fget]) (fun h => nomatch h) (fun _ => ?_)
    refine bwp_leads (S' := ltS cs (l.foldl (fun s x => addLoc s x.loc) s) []) (Leads.ent [(0, 0)] ⟨by simp [entT, fget, AV.ren, renL, pget, ltS, hv], by simp [entM, pinv, mget, mset, renL, AV.ren, pget, renL_append, -List.map_map, ltS, hv], rfl, rfl⟩) ?_
    exact bwp_exit hQ

theorem lets_ins {l : List Ins} {D D2 : DV} (hD : IsSl Ins.cells l D) {cs : List DV} {s j n : Nat} (hs : s < 67108864) {Q : Exit → St → Prop}
    (hQ : Q (.exit 4) (ltS cs (l.foldl (fun s x => addLoc s x.loc) s) [(31, .d (.int .i64 (j : Nat))), (29, .d D2), (30, .d (.int .i64 n))])) :
    BWP Try.prog (mbound []) 68 (.loop ac38L1) (ltS cs s [(37, .d (.int .i64 (0 : Nat))), (35, .d D), (36, .d (.int .i64 l.length)), (31, .d (.int .i64 (j : Nat))), (29, .d D2), (30, .d (.int .i64 n))]) Q := by
  have hbig := hD.1
  refine bwp_count (fun i => ltS cs ((l.take i).foldl (fun s x => addLoc s x.loc) s) [(37, .d (.int .i64 (i : Nat))), (35, .d D), (36, .d (.int .i64 l.length)), (31, .d (.int .i64 (j : Nat))), (29, .d D2), (30, .d (.int .i64 n))]) l.length ?_
  intro i hi
  have hsi : (l.take i).foldl (fun s (x : Ins) => addLoc s x.loc) s < 67108864 := adds_lt _ _ hs
  generalize hv : (l.take i).foldl (fun s (x : Ins) => addLoc s x.loc) s = si at hsi
  unfold ac38L1 ltS
  by_cases hlt : i < l.length
  · have hlt' : (i : Int) < l.length := by omega
    obtain ⟨cs2, rest, hDe, hdrop, hcs⟩ := hD.at ins_len (by omega) i hlt
    have hnx := foldl_next (fun s (x : Ins) => addLoc s x.loc) s l i hlt
    rw [hv] at hnx
    have hw : IntKind.i64.wrap ((i : Int) + 1) = ((i + 1 : Nat) : Int) := by rw [wrap_i64 (by omega) (by omega)]; rfl
    refine bwp_seq fun K hK => bwp_region rfl ?_
    simp -implicitDefEqProofs only [go_sem, ↓reduceIte, Nat.reduceEqDiff, Nat.reduceAdd, Nat.reduceLeDiff, Nat.reduceMul, Nat.reduceSub, Int.reduceLE, Int.reduceLT, Int.reduceEq, Int.reduceToNat, Int.reducePow, Int.reduceNeg, hlt']
    refine hK _ ?_; clear hK
    refine bwp_seq fun K1 hK1 => ?_
    refine bwp_cond true (by simp [ev, fget]) (fun _ => ?_) (fun h => nomatch h)
    refine bwp_skip ?_
    refine hK1 _ ?_; clear hK1
    refine bwp_seq fun K1 hK1 => ?_
    refine bwp_block ?_
    have hl2 : ∀ (n : Nat), (9 ≤ (n + 1 + 1 + 1 + 1 + 1 + 1 + 1 + 1 + 1)) = True := fun n => by simp
    refine bwp_seq fun K hK => bwp_region rfl ?_
    simp -implicitDefEqProofs only [go_sem, ↓reduceIte, Nat.reduceEqDiff, Nat.reduceAdd, Nat.reduceLeDiff, Nat.reduceMul, Nat.reduceSub, Int.reduceLE, Int.reduceLT, Int.reduceEq, Int.reduceToNat, Int.reducePow, Int.reduceNeg, hDe, hlt', Int.natCast_nonneg, Int.toNat_natCast, hcs, hdrop, Ins.cells, hl2]
    refine hK _ ?_; clear hK
    generalize l[i] = x at hnx hdrop
    refine bwp_region rfl ?_
    simp -implicitDefEqProofs only [go_sem, ↓reduceIte, Nat.reduceEqDiff, Nat.reduceAdd, Nat.reduceLeDiff, Nat.reduceMul, Nat.reduceSub, Int.reduceLE, Int.reduceLT, Int.reduceEq, Int.reduceToNat, Int.reducePow, Int.reduceNeg]
    refine ⟨rfl, add_callK x.loc hsi rfl ?_⟩
    simp -implicitDefEqProofs only [go_sem, ↓reduceIte, Nat.reduceEqDiff, Nat.reduceAdd, Nat.reduceLeDiff, Nat.reduceMul, Nat.reduceSub, Int.reduceLE, Int.reduceLT, Int.reduceEq, Int.reduceToNat, Int.reducePow, Int.reduceNeg]
    refine hK1 _ ?_; clear hK1
    refine bwp_region rfl ?_
    simp -implicitDefEqProofs only [go_sem, ↓reduceIte, Nat.reduceEqDiff, Nat.reduceAdd, Nat.reduceLeDiff, Nat.reduceMul, Nat.reduceSub, Int.reduceLE, Int.reduceLT, Int.reduceEq, Int.reduceToNat, Int.reducePow, Int.reduceNeg, hw]
    exact ⟨hlt, (Leads.ent [(0, 0)] ⟨by simp [entT, fget, AV.ren, renL, pget, hDe, hnx], by simp [entM, pinv, mget, mset, renL, AV.ren, pget, renL_append, -List.map_map, hDe, hnx], rfl, rfl⟩)⟩
  · have hlt' : ¬ (i : Int) < l.length := by omega
    have hin : i = l.length := by omega
    subst hin
    rw [List.take_of_length_le (Nat.le_refl _)] at hv
    refine bwp_seq fun K hK => bwp_region rfl ?_
    simp -implicitDefEqProofs only [go_sem, ↓reduceIte, Nat.reduceEqDiff, Nat.reduceAdd, Nat.reduceLeDiff, Nat.reduceMul, Nat.reduceSub, Int.reduceLE, Int.reduceLT, Int.reduceEq, Int.reduceToNat, Int.reducePow, Int.reduceNeg, hlt']
    refine hK _ ?_; clear hK
    refine bwp_seq fun K1 hK1 => ?_
    refine bwp_cond false (by simp [ev, fget]) (fun h => nomatch h) (fun _ => ?_)
    refine bwp_leads (S' := ltS cs (l.foldl (fun s x => addLoc s x.loc) s) [(31, .d (.int .i64 (j : Nat))), (29, .d D2), (30, .d (.int .i64 n))]) (Leads.ent [(0, 0)] ⟨by simp [entT, fget, AV.ren, renL, pget, ltS, hv], by simp [entM, pinv, mget, mset, renL, AV.ren, pget, renL_append, -List.map_map, ltS, hv], rfl, rfl⟩) ?_
    exact bwp_exit hQ

theorem lets_inss {ls : List (List Ins)} {D : DV} (hD : IsSl2 Ins.cells ls D) {cs : List DV} {s : Nat} (hs : s < 67108864) {Q : Exit → St → Prop}
    (hQ : Q (.exit 2) (ltS cs (ls.foldl (fun s l => l.foldl (fun s x => addLoc s x.loc) s) s) [])) :
    BWP Try.prog (mbound []) 68 (.loop ac38L2) (ltS cs s [(31, .d (.int .i64 (0 : Nat))), (29, .d D), (30, .d (.int .i64 ls.length))]) Q := by
  have hbig := hD.big
  refine bwp_count (fun j => ltS cs ((ls.take j).foldl (fun s l => l.foldl (fun s x => addLoc s x.loc) s) s) [(31, .d (.int .i64 (j : Nat))), (29, .d D), (30, .d (.int .i64 ls.length))]) ls.length ?_
  intro j hj
  have hsi : (ls.take j).foldl (fun s (l : List Ins) => l.foldl (fun s x => addLoc s x.loc) s) s < 67108864 := addss_lt _ _ hs
  generalize hv : (ls.take j).foldl (fun s (l : List Ins) => l.foldl (fun s x => addLoc s x.loc) s) s = si at hsi
  unfold ac38L2
  by_cases hlt : j < ls.length
  · have hlt' : (j : Int) < ls.length := by omega
    obtain ⟨cs2, d, rest, hDe, hdr, hjc, hd⟩ := hD.at j hlt
    have hnx := foldl_next (fun s (l : List Ins) => l.foldl (fun s x => addLoc s x.loc) s) s ls j hlt
    rw [hv] at hnx
    have hw : IntKind.i64.wrap ((j : Int) + 1) = ((j + 1 : Nat) : Int) := by rw [wrap_i64 (by omega) (by omega)]; rfl
    have hdl := hd.len
    unfold ltS
    refine bwp_seq fun K hK => bwp_region rfl ?_
    simp -implicitDefEqProofs only [go_sem, ↓reduceIte, Nat.reduceEqDiff, Nat.reduceAdd, Nat.reduceLeDiff, Nat.reduceMul, Nat.reduceSub, Int.reduceLE, Int.reduceLT, Int.reduceEq, Int.reduceToNat, Int.reducePow, Int.reduceNeg, hlt']
    refine hK _ ?_; clear hK
    refine bwp_seq fun K1 hK1 => ?_
    refine bwp_cond true (by simp [ev, fget]) (fun _ => ?_) (fun h => nomatch h)
    refine bwp_skip ?_
    refine hK1 _ ?_; clear hK1
    refine bwp_seq fun K1 hK1 => ?_
    refine bwp_block ?_
    refine bwp_seq fun K hK => bwp_region rfl ?_
    simp -implicitDefEqProofs only [go_sem, ↓reduceIte, Nat.reduceEqDiff, Nat.reduceAdd, Nat.reduceLeDiff, Nat.reduceMul, Nat.reduceSub, Int.reduceLE, Int.reduceLT, Int.reduceEq, Int.reduceToNat, Int.reducePow, Int.reduceNeg, hDe, hlt', Int.natCast_nonneg, Int.toNat_natCast, Nat.mul_one, hjc, hdr]
    refine hK _ ?_; clear hK
    refine bwp_seq fun K hK => bwp_region rfl ?_
    simp -implicitDefEqProofs only [go_sem, ↓reduceIte, Nat.reduceEqDiff, Nat.reduceAdd, Nat.reduceLeDiff, Nat.reduceMul, Nat.reduceSub, Int.reduceLE, Int.reduceLT, Int.reduceEq, Int.reduceToNat, Int.reducePow, Int.reduceNeg, hdl]
    refine hK _ ?_; clear hK
    refine bwp_block ?_
    refine bwp_leads (S' := ltS cs si [(37, .d (.int .i64 (0 : Nat))), (35, .d d), (36, .d (.int .i64 ls[j].length)), (31, .d (.int .i64 (j : Nat))), (29, .d D), (30, .d (.int .i64 ls.length))]) (Leads.ent [(0, 0)] ⟨by simp [entT, fget, AV.ren, renL, pget, ltS, hDe], by simp [entM, pinv, mget, mset, renL, AV.ren, pget, renL_append, -List.map_map, ltS, hDe], rfl, rfl⟩) ?_
    refine lets_ins hd hsi ?_
    rw [← hnx]
    unfold ltS
    simp -implicitDefEqProofs only [go_sem, ↓reduceIte, Nat.reduceEqDiff, Nat.reduceAdd, Nat.reduceLeDiff, Nat.reduceMul, Nat.reduceSub, Int.reduceLE, Int.reduceLT, Int.reduceEq, Int.reduceToNat, Int.reducePow, Int.reduceNeg]
    refine hK1 _ ?_; clear hK1
    refine bwp_region rfl ?_
    simp -implicitDefEqProofs only [go_sem, ↓reduceIte, Nat.reduceEqDiff, Nat.reduceAdd, Nat.reduceLeDiff, Nat.reduceMul, Nat.reduceSub, Int.reduceLE, Int.reduceLT, Int.reduceEq, Int.reduceToNat, Int.reducePow, Int.reduceNeg, hw]
    exact ⟨hlt, (Leads.ent [(0, 0)] ⟨by simp [entT, fget, AV.ren, renL, pget, ltS], by simp [entM, pinv, mget, mset, renL, AV.ren, pget, renL_append, -List.map_map, ltS], rfl, rfl⟩)⟩
  · have hlt' : ¬ (j : Int) < ls.length := by omega
    have hin : j = ls.length := by omega
    subst hin
    rw [List.take_of_length_le (Nat.le_refl _)] at hv
    unfold ltS
    refine bwp_seq fun K hK => bwp_region rfl ?_
    simp -implicitDefEqProofs only [go_sem, ↓reduceIte, Nat.reduceEqDiff, Nat.reduceAdd, Nat.reduceLeDiff, Nat.reduceMul, Nat.reduceSub, Int.reduceLE, Int.reduceLT, Int.reduceEq, Int.reduceToNat, Int.reducePow, Int.reduceNeg, hlt']
    refine hK _ ?_; clear hK
    refine bwp_seq fun K1 hK1 => ?_
    refine bwp_cond false (by simp [ev, fget]) (fun h => nomatch h) (fun _ => ?_)
    refine bwp_leads (S' := ltS cs (ls.foldl (fun s l => l.foldl (fun s x => addLoc s x.loc) s) s) []) (Leads.ent [(0, 0)] ⟨by simp [entT, fget, AV.ren, renL, pget, ltS, hv], by simp [entM, pinv, mget, mset, renL, AV.ren, pget, renL_append, -List.map_map, ltS, hv], rfl, rfl⟩) ?_
    exact bwp_exit hQ

theorem lets_atom {l : List Atom} {D D2 : DV} (hD : IsSl Atom.cells l D) {cs : List DV} {s j n : Nat} (hs : s < 67108864) {Q : Exit → St → Prop}
    (hQ : Q (.exit 8) (ltS cs (l.foldl (fun s x => addLoc s x.loc) s) [(51, .d (.int .i64 (j : Nat))), (49, .d D2), (50, .d (.int .i64 n))])) :
    BWP Try.prog (mbound []) 68 (.loop ac38L3) (ltS cs s [(57, .d (.int .i64 (0 : Nat))), (55, .d D), (56, .d (.int .i64 l.length)), (51, .d (.int .i64 (j : Nat))), (49, .d D2), (50, .d (.int .i64 n))]) Q := by
  have hbig := hD.1
  refine bwp_count (fun i => ltS cs ((l.take i).foldl (fun s x => addLoc s x.loc) s) [(57, .d (.int .i64 (i : Nat))), (55, .d D), (56, .d (.int .i64 l.length)), (51, .d (.int .i64 (j : Nat))), (49, .d D2), (50, .d (.int .i64 n))]) l.length ?_
  intro i hi
  have hsi : (l.take i).foldl (fun s (x : Atom) => addLoc s x.loc) s < 67108864 := adds_lt _ _ hs
  generalize hv : (l.take i).foldl (fun s (x : Atom) => addLoc s x.loc) s = si at hsi
  unfold ac38L3 ltS
  by_cases hlt : i < l.length
  · have hlt' : (i : Int) < l.length := by omega
    obtain ⟨cs2, rest, hDe, hdrop, hcs⟩ := hD.at atom_len (by omega) i hlt
    have hnx := foldl_next (fun s (x : Atom) => addLoc s x.loc) s l i hlt
    rw [hv] at hnx
    have hw : IntKind.i64.wrap ((i : Int) + 1) = ((i + 1 : Nat) : Int) := by rw [wrap_i64 (by omega) (by omega)]; rfl
    refine bwp_seq fun K hK => bwp_region rfl ?_
    simp -implicitDefEqProofs only [go_sem, ↓reduceIte, Nat.reduceEqDiff, Nat.reduceAdd, Nat.reduceLeDiff, Nat.reduceMul, Nat.reduceSub, Int.reduceLE, Int.reduceLT, Int.reduceEq, Int.reduceToNat, Int.reducePow, Int.reduceNeg, hlt']
    refine hK _ ?_; clear hK
    refine bwp_seq fun K1 hK1 => ?_
    refine bwp_cond true (by simp [ev, fget]) (fun _ => ?_) (fun h => nomatch h)
    refine bwp_skip ?_
    refine hK1 _ ?_; clear hK1
    refine bwp_seq fun K1 hK1 => ?_
    refine bwp_block ?_
    have hl2 : ∀ (n : Nat), (4 ≤ (n + 1 + 1 + 1 + 1)) = True := fun n => by simp
    refine bwp_seq fun K hK => bwp_region rfl ?_
    simp -implicitDefEqProofs only [go_sem, ↓reduceIte, Nat.reduceEqDiff, Nat.reduceAdd, Nat.reduceLeDiff, Nat.reduceMul, Nat.reduceSub, Int.reduceLE, Int.reduceLT, Int.reduceEq, Int.reduceToNat, Int.reducePow, Int.reduceNeg, hDe, hlt', Int.natCast_nonneg, Int.toNat_natCast, hcs, hdrop, Atom.cells, hl2]
    refine hK _ ?_; clear hK
    generalize l[i] = x at hnx hdrop
    refine bwp_region rfl ?_
    simp -implicitDefEqProofs only [go_sem, ↓reduceIte, Nat.reduceEqDiff, Nat.reduceAdd, Nat.reduceLeDiff, Nat.reduceMul, Nat.reduceSub, Int.reduceLE, Int.reduceLT, Int.reduceEq, Int.reduceToNat, Int.reducePow, Int.reduceNeg]
    refine ⟨rfl, add_callK x.loc hsi rfl ?_⟩
    simp -implicitDefEqProofs only [go_sem, ↓reduceIte, Nat.reduceEqDiff, Nat.reduceAdd, Nat.reduceLeDiff, Nat.reduceMul, Nat.reduceSub, Int.reduceLE, Int.reduceLT, Int.reduceEq, Int.reduceToNat, Int.reducePow, Int.reduceNeg]
    refine hK1 _ ?_; clear hK1
    refine bwp_region rfl ?_
    simp -implicitDefEqProofs only [go_sem, ↓reduceIte, Nat.reduceEqDiff, Nat.reduceAdd, Nat.reduceLeDiff, Nat.reduceMul, Nat.reduceSub, Int.reduceLE, Int.reduceLT, Int.reduceEq, Int.reduceToNat, Int.reducePow, Int.reduceNeg, hw]
    exact ⟨hlt, (Leads.ent [(0, 0)] ⟨by simp [entT, fget, AV.ren, renL, pget, hDe, hnx], by simp [entM, pinv, mget, mset, renL, AV.ren, pget, renL_append, -List.map_map, hDe, hnx], rfl, rfl⟩)⟩
  · have hlt' : ¬ (i : Int) < l.length := by omega
    have hin : i = l.length := by omega
    subst hin
    rw [List.take_of_length_le (Nat.le_refl _)] at hv
    refine bwp_seq fun K hK => bwp_region rfl ?_
    simp -implicitDefEqProofs only [go_sem, ↓reduceIte, Nat.reduceEqDiff, Nat.reduceAdd, Nat.reduceLeDiff, Nat.reduceMul, Nat.reduceSub, Int.reduceLE, Int.reduceLT, Int.reduceEq, Int.reduceToNat, Int.reducePow, Int.reduceNeg, hlt']
    refine hK _ ?_; clear hK
    refine bwp_seq fun K1 hK1 => ?_
    refine bwp_cond false (by simp [ev, fget]) (fun h => nomatch h) (fun _ => ?_)
    refine bwp_leads (S' := ltS cs (l.foldl (fun s x => addLoc s x.loc) s) [(51, .d (.int .i64 (j : Nat))), (49, .d D2), (50, .d (.int .i64 n))]) (Leads.ent [(0, 0)] ⟨by simp [entT, fget, AV.ren, renL, pget, ltS, hv], by simp [entM, pinv, mget, mset, renL, AV.ren, pget, renL_append, -List.map_map, ltS, hv], rfl, rfl⟩) ?_
    exact bwp_exit hQ

theorem lets_atoms {ls : List (List Atom)} {D : DV} (hD : IsSl2 Atom.cells ls D) {cs : List DV} {s : Nat} (hs : s < 67108864) {Q : Exit → St → Prop}
    (hQ : Q (.exit 6) (ltS cs (ls.foldl (fun s l => l.foldl (fun s x => addLoc s x.loc) s) s) [])) :
    BWP Try.prog (mbound []) 68 (.loop ac38L4) (ltS cs s [(51, .d (.int .i64 (0 : Nat))), (49, .d D), (50, .d (.int .i64 ls.length))]) Q := by
  have hbig := hD.big
  refine bwp_count (fun j => ltS cs ((ls.take j).foldl (fun s l => l.foldl (fun s x => addLoc s x.loc) s) s) [(51, .d (.int .i64 (j : Nat))), (49, .d D), (50, .d (.int .i64 ls.length))]) ls.length ?_
  intro j hj
  have hsi : (ls.take j).foldl (fun s (l : List Atom) => l.foldl (fun s x => addLoc s x.loc) s) s < 67108864 := addss_lt _ _ hs
  generalize hv : (ls.take j).foldl (fun s (l : List Atom) => l.foldl (fun s x => addLoc s x.loc) s) s = si at hsi
  unfold ac38L4
  by_cases hlt : j < ls.length
  · have hlt' : (j : Int) < ls.length := by omega
    obtain ⟨cs2, d, rest, hDe, hdr, hjc, hd⟩ := hD.at j hlt
    have hnx := foldl_next (fun s (l : List Atom) => l.foldl (fun s x => addLoc s x.loc) s) s ls j hlt
    rw [hv] at hnx
    have hw : IntKind.i64.wrap ((j : Int) + 1) = ((j + 1 : Nat) : Int) := by rw [wrap_i64 (by omega) (by omega)]; rfl
    have hdl := hd.len
    unfold ltS
    refine bwp_seq fun K hK => bwp_region rfl ?_
    simp -implicitDefEqProofs only [go_sem, ↓reduceIte, Nat.reduceEqDiff, Nat.reduceAdd, Nat.reduceLeDiff, Nat.reduceMul, Nat.reduceSub, Int.reduceLE, Int.reduceLT, Int.reduceEq, Int.reduceToNat, Int.reducePow, Int.reduceNeg, hlt']
    refine hK _ ?_; clear hK
    refine bwp_seq fun K1 hK1 => ?_
    refine bwp_cond true (by simp [ev, fget]) (fun _ => ?_) (fun h => nomatch h)
    refine bwp_skip ?_
    refine hK1 _ ?_; clear hK1
    refine bwp_seq fun K1 hK1 => ?_
    refine bwp_block ?_
    refine bwp_seq fun K hK => bwp_region rfl ?_
    simp -implicitDefEqProofs only [go_sem, ↓reduceIte, Nat.reduceEqDiff, Nat.reduceAdd, Nat.reduceLeDiff, Nat.reduceMul, Nat.reduceSub, Int.reduceLE, Int.reduceLT, Int.reduceEq, Int.reduceToNat, Int.reducePow, Int.reduceNeg, hDe, hlt', Int.natCast_nonneg, Int.toNat_natCast, Nat.mul_one, hjc, hdr]
    refine hK _ ?_; clear hK
    refine bwp_seq fun K hK => bwp_region rfl ?_
    simp -implicitDefEqProofs only [go_sem, ↓reduceIte, Nat.reduceEqDiff, Nat.reduceAdd, Nat.reduceLeDiff, Nat.reduceMul, Nat.reduceSub, Int.reduceLE, Int.reduceLT, Int.reduceEq, Int.reduceToNat, Int.reducePow, Int.reduceNeg, hdl]
    refine hK _ ?_; clear hK
    refine bwp_block ?_
    refine bwp_leads (S' := ltS cs si [(57, .d (.int .i64 (0 : Nat))), (55, .d d), (56, .d (.int .i64 ls[j].length)), (51, .d (.int .i64 (j : Nat))), (49, .d D), (50, .d (.int .i64 ls.length))]) (Leads.ent [(0, 0)] ⟨by simp [entT, fget, AV.ren, renL, pget, ltS, hDe], by simp [entM, pinv, mget, mset, renL, AV.ren, pget, renL_append, -List.map_map, ltS, hDe], rfl, rfl⟩) ?_
    refine lets_atom hd hsi ?_
    rw [← hnx]
    unfold ltS
    simp -implicitDefEqProofs only [go_sem, ↓reduceIte, Nat.reduceEqDiff, Nat.reduceAdd, Nat.reduceLeDiff, Nat.reduceMul, Nat.reduceSub, Int.reduceLE, Int.reduceLT, Int.reduceEq, Int.reduceToNat, Int.reducePow, Int.reduceNeg]
    refine hK1 _ ?_; clear hK1
    refine bwp_region rfl ?_
    simp -implicitDefEqProofs only [go_sem, ↓reduceIte, Nat.reduceEqDiff, Nat.reduceAdd, Nat.reduceLeDiff, Nat.reduceMul, Nat.reduceSub, Int.reduceLE, Int.reduceLT, Int.reduceEq, Int.reduceToNat, Int.reducePow, Int.reduceNeg, hw]
    exact ⟨hlt, (Leads.ent [(0, 0)] ⟨by simp [entT, fget, AV.ren, renL, pget, ltS], by simp [entM, pinv, mget, mset, renL, AV.ren, pget, renL_append, -List.map_map, ltS], rfl, rfl⟩)⟩
  · have hlt' : ¬ (j : Int) < ls.length := by omega
    have hin : j = ls.length := by omega
    subst hin
    rw [List.take_of_length_le (Nat.le_refl _)] at hv
    unfold ltS
    refine bwp_seq fun K hK => bwp_region rfl ?_
    simp -implicitDefEqProofs only [go_sem, ↓reduceIte, Nat.reduceEqDiff, Nat.reduceAdd, Nat.reduceLeDiff, Nat.reduceMul, Nat.reduceSub, Int.reduceLE, Int.reduceLT, Int.reduceEq, Int.reduceToNat, Int.reducePow, Int.reduceNeg, hlt']
    refine hK _ ?_; clear hK
    refine bwp_seq fun K1 hK1 => ?_
    refine bwp_cond false (by simp [ev, fget]) (fun h => nomatch h) (fun _ => ?_)
    refine bwp_leads (S' := ltS cs (ls.foldl (fun s l => l.foldl (fun s x => addLoc s x.loc) s) s) []) (Leads.ent [(0, 0)] ⟨by simp [entT, fget, AV.ren, renL, pget, ltS, hv], by simp [entM, pinv, mget, mset, renL, AV.ren, pget, renL_append, -List.map_map, ltS, hv], rfl, rfl⟩) ?_
    exact bwp_exit hQ

/-- A test's locations, a bit each. -/
def maskT (t : Test) : Nat := t.rows.foldl (fun s l => l.foldl (fun s x => addLoc s x.loc) s) (t.threads.foldl (fun s l => l.foldl (fun s x => addLoc s x.loc) s) (t.inits.foldl (fun s x => addLoc s x.loc) 0))

theorem maskT_lt (t : Test) : maskT t < 67108864 := addss_lt _ _ (addss_lt _ _ (adds_lt _ _ (by omega)))

theorem letters_pure {t : Test} {cs : List DV} (hT : IsTest t cs) : Pure Try.prog 38 [.agg (cs.map .d)] (.d (.int .u64 (maskT t))) := by
  obtain ⟨I, T, A, rfl, hI, hTh, hA⟩ := hT
  have h1 : t.inits.foldl (fun s (x : Init) => addLoc s x.loc) 0 < 67108864 := adds_lt _ _ (by omega)
  have h2 : t.threads.foldl (fun s (l : List Ins) => l.foldl (fun s x => addLoc s x.loc) s) (t.inits.foldl (fun s (x : Init) => addLoc s x.loc) 0) < 67108864 := addss_lt _ _ h1
  have hIl := hI.len
  have hTl := hTh.len
  have hAl := hA.len
  refine acalls_of Try.func38 ac38_ok Try.ntmps38 Try.results38 rfl ?_
  unfold ac38
  refine bwp_seq fun K hK => bwp_region rfl ?_
  simp -implicitDefEqProofs only [go_sem, ↓reduceIte, Nat.reduceEqDiff, Nat.reduceAdd, Nat.reduceLeDiff, Nat.reduceMul, Nat.reduceSub, Int.reduceLE, Int.reduceLT, Int.reduceEq, Int.reduceToNat, Int.reducePow, Int.reduceNeg]
  refine hK _ ?_; clear hK
  refine bwp_leads (S' := ⟨[(1, .dptr [.str t.name, I, T, .int .i64 t.kind, A]), (2, .d (.int .u64 0))], [], 0⟩) (Leads.frz [] [(0, [.str t.name, I, T, .int .i64 t.kind, A])] ⟨?_, ?_, rfl, rfl, ?_⟩) ?_
  · simp [frzT, fget, AV.cv, cvL, zget, pget]
  · simp [frzM, pinv, zget, mget, cvL, AV.cv]
  · simp [zokFrom, mget, cvL, AV.cv]
  refine bwp_seq fun K hK => bwp_region rfl ?_
  simp -implicitDefEqProofs only [go_sem, ↓reduceIte, Nat.reduceEqDiff, Nat.reduceAdd, Nat.reduceLeDiff, Nat.reduceMul, Nat.reduceSub, Int.reduceLE, Int.reduceLT, Int.reduceEq, Int.reduceToNat, Int.reducePow, Int.reduceNeg]
  refine hK _ ?_; clear hK
  refine bwp_seq fun K hK => bwp_region rfl ?_
  simp -implicitDefEqProofs only [go_sem, ↓reduceIte, Nat.reduceEqDiff, Nat.reduceAdd, Nat.reduceLeDiff, Nat.reduceMul, Nat.reduceSub, Int.reduceLE, Int.reduceLT, Int.reduceEq, Int.reduceToNat, Int.reducePow, Int.reduceNeg]
  refine hK _ ?_; clear hK
  refine bwp_seq fun K1 hK1 => ?_
  refine bwp_seq fun K2 hK2 => ?_
  refine bwp_region rfl ?_
  simp -implicitDefEqProofs only [go_sem, ↓reduceIte, Nat.reduceEqDiff, Nat.reduceAdd, Nat.reduceLeDiff, Nat.reduceMul, Nat.reduceSub, Int.reduceLE, Int.reduceLT, Int.reduceEq, Int.reduceToNat, Int.reducePow, Int.reduceNeg, hIl]
  refine hK2 _ ?_; clear hK2
  refine bwp_block ?_
  refine bwp_leads (S' := ltS [.str t.name, I, T, .int .i64 t.kind, A] 0 [(19, .d (.int .i64 (0 : Nat))), (17, .d I), (18, .d (.int .i64 t.inits.length))]) (Leads.ent [(0, 0)] ⟨by simp [entT, fget, AV.ren, renL, pget, ltS], by simp [entM, pinv, mget, mset, renL, AV.ren, pget, renL_append, -List.map_map, ltS], rfl, rfl⟩) ?_
  refine lets_inits hI (by omega) ?_
  unfold ltS
  simp -implicitDefEqProofs only [go_sem, ↓reduceIte, Nat.reduceEqDiff, Nat.reduceAdd, Nat.reduceLeDiff, Nat.reduceMul, Nat.reduceSub, Int.reduceLE, Int.reduceLT, Int.reduceEq, Int.reduceToNat, Int.reducePow, Int.reduceNeg]
  refine hK1 _ ?_; clear hK1
  refine bwp_seq fun K1 hK1 => ?_
  refine bwp_seq fun K2 hK2 => ?_
  refine bwp_region rfl ?_
  simp -implicitDefEqProofs only [go_sem, ↓reduceIte, Nat.reduceEqDiff, Nat.reduceAdd, Nat.reduceLeDiff, Nat.reduceMul, Nat.reduceSub, Int.reduceLE, Int.reduceLT, Int.reduceEq, Int.reduceToNat, Int.reducePow, Int.reduceNeg, hTl]
  refine hK2 _ ?_; clear hK2
  refine bwp_block ?_
  refine bwp_leads (S' := ltS [.str t.name, I, T, .int .i64 t.kind, A] (t.inits.foldl (fun s x => addLoc s x.loc) 0) [(31, .d (.int .i64 (0 : Nat))), (29, .d T), (30, .d (.int .i64 t.threads.length))]) (Leads.ent [(0, 0)] ⟨by simp [entT, fget, AV.ren, renL, pget, ltS], by simp [entM, pinv, mget, mset, renL, AV.ren, pget, renL_append, -List.map_map, ltS], rfl, rfl⟩) ?_
  refine lets_inss hTh h1 ?_
  unfold ltS
  simp -implicitDefEqProofs only [go_sem, ↓reduceIte, Nat.reduceEqDiff, Nat.reduceAdd, Nat.reduceLeDiff, Nat.reduceMul, Nat.reduceSub, Int.reduceLE, Int.reduceLT, Int.reduceEq, Int.reduceToNat, Int.reducePow, Int.reduceNeg]
  refine hK1 _ ?_; clear hK1
  refine bwp_seq fun K1 hK1 => ?_
  refine bwp_seq fun K2 hK2 => ?_
  refine bwp_region rfl ?_
  simp -implicitDefEqProofs only [go_sem, ↓reduceIte, Nat.reduceEqDiff, Nat.reduceAdd, Nat.reduceLeDiff, Nat.reduceMul, Nat.reduceSub, Int.reduceLE, Int.reduceLT, Int.reduceEq, Int.reduceToNat, Int.reducePow, Int.reduceNeg, hAl]
  refine hK2 _ ?_; clear hK2
  refine bwp_block ?_
  refine bwp_leads (S' := ltS [.str t.name, I, T, .int .i64 t.kind, A] (t.threads.foldl (fun s l => l.foldl (fun s x => addLoc s x.loc) s) (t.inits.foldl (fun s x => addLoc s x.loc) 0)) [(51, .d (.int .i64 (0 : Nat))), (49, .d A), (50, .d (.int .i64 t.rows.length))]) (Leads.ent [(0, 0)] ⟨by simp [entT, fget, AV.ren, renL, pget, ltS], by simp [entM, pinv, mget, mset, renL, AV.ren, pget, renL_append, -List.map_map, ltS], rfl, rfl⟩) ?_
  refine lets_atoms hA h2 ?_
  unfold ltS
  simp -implicitDefEqProofs only [go_sem, ↓reduceIte, Nat.reduceEqDiff, Nat.reduceAdd, Nat.reduceLeDiff, Nat.reduceMul, Nat.reduceSub, Int.reduceLE, Int.reduceLT, Int.reduceEq, Int.reduceToNat, Int.reducePow, Int.reduceNeg]
  refine hK1 _ ?_; clear hK1
  refine bwp_seq fun K hK => bwp_region rfl ?_
  simp -implicitDefEqProofs only [go_sem, ↓reduceIte, Nat.reduceEqDiff, Nat.reduceAdd, Nat.reduceLeDiff, Nat.reduceMul, Nat.reduceSub, Int.reduceLE, Int.reduceLT, Int.reduceEq, Int.reduceToNat, Int.reducePow, Int.reduceNeg]
  refine hK _ ?_; clear hK
  refine bwp_ret ?_
  simp only [go_sem]
  refine aend_ret _ rfl rfl ⟨?_, rfl⟩
  rfl

end Go.Proofs.Ytjfghjakpjfgpaa
