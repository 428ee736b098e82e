/- strings.Builder's WriteString, and print.Test's line, told without a heap. -/
import Derived.Test.YtgfkgngpganllaaDoorB2
namespace Go.Proofs.YtgfkgngpganllaaDoor
open Go Go.Jq
set_option maxRecDepth 100000
set_option linter.unusedSimpArgs false

/-- Before the first write; behind a write. -/
def bld0 : Mem := [(0, [.npt 0 66, .slT 1 5 0]), (1, [])]
def bldA (s : List UInt8) : Mem := [(0, [.ptr 0 0, .slT 2 5 s.length]), (2, bytesAV s)]

theorem ren_bytes (π : Nat → Option Nat) (s : List UInt8) : renL π (bytesAV s) = bytesAV s := by
  have : bytesAV s = (s.map fun b => DV.int .u8 b.toNat).map .d := by simp [bytesAV]
  rw [this, renL_d]
theorem inL_bytes (π : Nat → Option Nat) (s : List UInt8) : inL π (bytesAV s) = true := by
  have : bytesAV s = (s.map fun b => DV.int .u8 b.toNat).map .d := by simp [bytesAV]
  rw [this, inL_d]

theorem ws_used {s x : List UInt8} (hx : x ≠ []) (hl : s.length + x.length ≤ 140737488351232) : ACalls Tryd.prog 34 [.ptr 0 0, .d (.str x)] (bldM s) fun r m' => r = .tup [.d (.int .i64 x.length), .d .nif] ∧ m' = bldA (s ++ x) := by
  have hx0 : ¬ x.length = 0 := by simpa using hx
  have hb := bytesAV_len s
  unfold bldM bldA
  rw [bytesAV_append]
  generalize hys : bytesAV s = ys at hb
  have hren : ∀ π, renL π ys = ys := fun π => by rw [← hys]; exact ren_bytes π s
  have hin : ∀ π, inL π ys = true := fun π => by rw [← hys]; exact inL_bytes π s
  refine acalls_of Tryd.func34 ac34_ok Tryd.ntmps34 Tryd.results34 rfl ?_
  unfold ac34
  refine bwp_seq fun K hK => bwp_region rfl ?_
  simp -implicitDefEqProofs only [go_sem, ↓reduceIte, Nat.reduceEqDiff, Nat.reduceAdd, Nat.reduceLeDiff, Nat.reduceMul, Nat.reduceSub, Int.reduceLE, Int.reduceLT, Int.reduceEq, Int.reduceToNat, Int.reducePow, Int.reduceNeg]
  refine hK _ ?_; clear hK
  refine bwp_seq fun K hK => bwp_region rfl ?_
  simp -implicitDefEqProofs only [go_sem, ↓reduceIte, Nat.reduceEqDiff, Nat.reduceAdd, Nat.reduceLeDiff, Nat.reduceMul, Nat.reduceSub, Int.reduceLE, Int.reduceLT, Int.reduceEq, Int.reduceToNat, Int.reducePow, Int.reduceNeg]
  refine callK_gen [(0, 0), (1, 1)] [.ptr 0 0] [(0, [.ptr 0 0, .slT 1 5 s.length]), (1, ys)] (nb := 2) (copyCheck_used _ _) (by simp [okRen]) (by simp [renL, AV.ren, pget]) (by simp [inL, inB, pget]) ?_ rfl ?_
  · simp [handed, pget, mget, renL, AV.ren, inL, inB, hren, hin]
  rintro r0 m' ⟨rfl, rfl⟩
  simp -implicitDefEqProofs only [go_sem, ↓reduceIte, Nat.reduceEqDiff, Nat.reduceAdd, Nat.reduceLeDiff, Nat.reduceMul, Nat.reduceSub, Int.reduceLE, Int.reduceLT, Int.reduceEq, Int.reduceToNat, Int.reducePow, Int.reduceNeg, callMem, updNew, updOld, mget, mset, renOf, pget, renL, AV.ren, hren, Option.isSome_some, Bool.and_self]
  refine hK _ ?_; clear hK
  refine bwp_seq fun K hK => bwp_region rfl ?_
  simp -implicitDefEqProofs only [go_sem, ↓reduceIte, Nat.reduceEqDiff, Nat.reduceAdd, Nat.reduceLeDiff, Nat.reduceMul, Nat.reduceSub, Int.reduceLE, Int.reduceLT, Int.reduceEq, Int.reduceToNat, Int.reducePow, Int.reduceNeg, hb, hl, hx0, mbound, List.foldr_cons, List.foldr_nil, Nat.max_def]
  refine hK _ ?_; clear hK
  refine bwp_seq fun K hK => bwp_region rfl ?_
  simp -implicitDefEqProofs only [go_sem, ↓reduceIte, Nat.reduceEqDiff, Nat.reduceAdd, Nat.reduceLeDiff, Nat.reduceMul, Nat.reduceSub, Int.reduceLE, Int.reduceLT, Int.reduceEq, Int.reduceToNat, Int.reducePow, Int.reduceNeg]
  refine hK _ ?_; clear hK
  refine bwp_ret ?_
  simp only [go_sem]
  refine aend_mem (.tup [.d (.int .i64 x.length), .d .nif]) [(0, 0), (4, 2)] _ ?_ rfl rfl ?_ ⟨rfl, rfl⟩
  · simp [resA, resVs, resV, fget]
  · simp [entM, pinv, mget, mset, mdel, renL, AV.ren, pget]
    rw [renL_append, hren]
    congr 1
    exact ren_bytes _ x

theorem ws_fresh {x : List UInt8} (hx : x ≠ []) (hl : 0 + x.length ≤ 140737488351232) : ACalls Tryd.prog 34 [.ptr 0 0, .d (.str x)] bld0 fun r m' => r = .tup [.d (.int .i64 x.length), .d .nif] ∧ m' = bldA x := by
  have hx0 : ¬ x.length = 0 := by simpa using hx
  have hl' : x.length ≤ 140737488351232 := by omega
  unfold bld0 bldA
  refine acalls_of Tryd.func34 ac34_ok Tryd.ntmps34 Tryd.results34 rfl ?_
  unfold ac34
  refine bwp_seq fun K hK => bwp_region rfl ?_
  simp -implicitDefEqProofs only [go_sem, ↓reduceIte, Nat.reduceEqDiff, Nat.reduceAdd, Nat.reduceLeDiff, Nat.reduceMul, Nat.reduceSub, Int.reduceLE, Int.reduceLT, Int.reduceEq, Int.reduceToNat, Int.reducePow, Int.reduceNeg]
  refine hK _ ?_; clear hK
  refine bwp_seq fun K hK => bwp_region rfl ?_
  simp -implicitDefEqProofs only [go_sem, ↓reduceIte, Nat.reduceEqDiff, Nat.reduceAdd, Nat.reduceLeDiff, Nat.reduceMul, Nat.reduceSub, Int.reduceLE, Int.reduceLT, Int.reduceEq, Int.reduceToNat, Int.reducePow, Int.reduceNeg]
  refine callK_gen [(0, 0), (1, 1)] [.ptr 0 0] [(0, [.npt 0 66, .slT 1 5 0]), (1, [])] (nb := 2) (copyCheck_fresh _ _) (by simp [okRen]) (by simp [renL, AV.ren, pget]) (by simp [inL, inB, pget]) ?_ rfl ?_
  · simp [handed, pget, mget, renL, AV.ren, inL, inB]
  rintro r0 m' ⟨rfl, rfl⟩
  simp -implicitDefEqProofs only [go_sem, ↓reduceIte, Nat.reduceEqDiff, Nat.reduceAdd, Nat.reduceLeDiff, Nat.reduceMul, Nat.reduceSub, Int.reduceLE, Int.reduceLT, Int.reduceEq, Int.reduceToNat, Int.reducePow, Int.reduceNeg, callMem, updNew, updOld, mget, mset, renOf, pget, renL, AV.ren, Option.isSome_some, Bool.and_self]
  refine hK _ ?_; clear hK
  refine bwp_seq fun K hK => bwp_region rfl ?_
  simp -implicitDefEqProofs only [go_sem, ↓reduceIte, Nat.reduceEqDiff, Nat.reduceAdd, Nat.reduceLeDiff, Nat.reduceMul, Nat.reduceSub, Int.reduceLE, Int.reduceLT, Int.reduceEq, Int.reduceToNat, Int.reducePow, Int.reduceNeg, hl, hl', List.length_nil, List.nil_append, Nat.zero_add, hx0, mbound, List.foldr_cons, List.foldr_nil, Nat.max_def]
  refine hK _ ?_; clear hK
  refine bwp_seq fun K hK => bwp_region rfl ?_
  simp -implicitDefEqProofs only [go_sem, ↓reduceIte, Nat.reduceEqDiff, Nat.reduceAdd, Nat.reduceLeDiff, Nat.reduceMul, Nat.reduceSub, Int.reduceLE, Int.reduceLT, Int.reduceEq, Int.reduceToNat, Int.reducePow, Int.reduceNeg]
  refine hK _ ?_; clear hK
  refine bwp_ret ?_
  simp only [go_sem]
  refine aend_mem (.tup [.d (.int .i64 x.length), .d .nif]) [(0, 0), (4, 2)] _ ?_ rfl rfl ?_ ⟨rfl, rfl⟩
  · simp [resA, resVs, resV, fget]
  · simp [entM, pinv, mget, mset, mdel, renL, AV.ren, pget]
    exact ren_bytes _ x

theorem line_used {s x : List UInt8} (hl : s.length + x.length + 1 ≤ 140737488351232) : ACalls Tryd.prog 33 [.d (.str x), .ptr 0 0] (bldM s) fun r m' => r = .tup [] ∧ m' = bldA (s ++ (x ++ [10])) := by
  have hne : x ++ [10] ≠ [] := by simp
  have hl1 : x.length + 1 ≤ 9223372036854775807 := by omega
  refine acalls_of Tryd.func33 ac33_ok Tryd.ntmps33 Tryd.results33 rfl ?_
  unfold ac33
  refine bwp_region rfl ?_
  simp -implicitDefEqProofs only [go_sem, ↓reduceIte, Nat.reduceEqDiff, Nat.reduceAdd, Nat.reduceLeDiff, Nat.reduceMul, Nat.reduceSub, Int.reduceLE, Int.reduceLT, Int.reduceEq, Int.reduceToNat, Int.reducePow, Int.reduceNeg, List.length_cons, List.length_nil, Nat.zero_add, hl1]
  refine callK_gen [(0, 0), (1, 1)] [.ptr 0 0, .d (.str (x ++ [10]))] (bldM s) (nb := 2) (ws_used hne (by simp only [List.length_append, List.length_cons, List.length_nil]; omega)) (by simp [okRen, bldM]) (by simp [renL, AV.ren, pget]) (by simp [inL, inB, pget]) ?_ rfl ?_
  · simp [bldM, handed, pget, mget, renL, AV.ren, inL, inB, ren_bytes, inL_bytes]
  rintro r0 m' ⟨rfl, rfl⟩
  simp -implicitDefEqProofs only [go_sem, ↓reduceIte, Nat.reduceEqDiff, Nat.reduceAdd, Nat.reduceLeDiff, Nat.reduceMul, Nat.reduceSub, Int.reduceLE, Int.reduceLT, Int.reduceEq, Int.reduceToNat, Int.reducePow, Int.reduceNeg]
  exact ⟨.tup [], rfl, [(0, 0), (4, 2)], bldA (s ++ (x ++ [10])), rfl, rfl, by simp [bldM, bldA, callMem, updNew, updOld, mget, mset, mdel, mbound, renOf, entM, pinv, renL, AV.ren, pget, ren_bytes], rfl, rfl⟩

theorem line_fresh {x : List UInt8} (hl : x.length + 1 ≤ 140737488351232) : ACalls Tryd.prog 33 [.d (.str x), .ptr 0 0] bld0 fun r m' => r = .tup [] ∧ m' = bldA (x ++ [10]) := by
  have hne : x ++ [10] ≠ [] := by simp
  have hl1 : x.length + 1 ≤ 9223372036854775807 := by omega
  refine acalls_of Tryd.func33 ac33_ok Tryd.ntmps33 Tryd.results33 rfl ?_
  unfold ac33
  refine bwp_region rfl ?_
  simp -implicitDefEqProofs only [go_sem, ↓reduceIte, Nat.reduceEqDiff, Nat.reduceAdd, Nat.reduceLeDiff, Nat.reduceMul, Nat.reduceSub, Int.reduceLE, Int.reduceLT, Int.reduceEq, Int.reduceToNat, Int.reducePow, Int.reduceNeg, List.length_cons, List.length_nil, Nat.zero_add, hl1]
  refine callK_gen [(0, 0), (1, 1)] [.ptr 0 0, .d (.str (x ++ [10]))] bld0 (nb := 2) (ws_fresh hne (by simp only [List.length_append, List.length_cons, List.length_nil]; omega)) (by simp [okRen, bld0]) (by simp [renL, AV.ren, pget]) (by simp [inL, inB, pget]) ?_ rfl ?_
  · simp [bld0, handed, pget, mget, renL, AV.ren, inL, inB, ren_bytes, inL_bytes]
  rintro r0 m' ⟨rfl, rfl⟩
  simp -implicitDefEqProofs only [go_sem, ↓reduceIte, Nat.reduceEqDiff, Nat.reduceAdd, Nat.reduceLeDiff, Nat.reduceMul, Nat.reduceSub, Int.reduceLE, Int.reduceLT, Int.reduceEq, Int.reduceToNat, Int.reducePow, Int.reduceNeg]
  exact ⟨.tup [], rfl, [(0, 0), (4, 2)], bldA (x ++ [10]), rfl, rfl, by simp [bld0, bldA, callMem, updNew, updOld, mget, mset, mdel, mbound, renOf, entM, pinv, renL, AV.ren, pget, ren_bytes], rfl, rfl⟩

theorem line_used_callK {s x : List UInt8} (hl : s.length + x.length + 1 ≤ 140737488351232) {i j : Nat} {dst : Option Nat} {r : List AOper} {K : St → Prop} {t : Fr} {m : Mem} {n : Nat} (hi : mget m i = some [.ptr i 0, .slT j 5 s.length]) (hj : mget m j = some (bytesAV s)) (hij : ¬ i = j)
    (hk : runOps Tryd.prog r ⟨putF t dst (.tup []), mset (mdel (mset m i [.ptr i 0, .slT (n + 2) 5 (s ++ (x ++ [10])).length]) j) (n + 2) (bytesAV (s ++ (x ++ [10]))), n + 3⟩ K) : callK Tryd.prog 33 [.d (.str x), .ptr i 0] dst r K t m n := by
  refine callK_gen [(0, i), (1, j)] [.d (.str x), .ptr 0 0] (bldM s) (nb := i + j + 1) (line_used hl) (by simp [okRen, hij, Ne.symm]; omega) (by simp [renL, AV.ren, pget]) (by simp [inL, inB, pget]) ?_ rfl ?_
  · simp [bldM, handed, pget, hi, hj, renL, AV.ren, inL, inB, ren_bytes, inL_bytes]
  rintro r0 m' ⟨rfl, rfl⟩
  have e : callMem [(0, i), (1, j)] (bldM s) (bldA (s ++ (x ++ [10]))) n m = mset (mdel (mset m i [.ptr i 0, .slT (n + 2) 5 (s ++ (x ++ [10])).length]) j) (n + 2) (bytesAV (s ++ (x ++ [10]))) := by
    simp [bldM, bldA, callMem, updNew, updOld, mget, renOf, renL, AV.ren, pget, ren_bytes]
  have e2 : n + Nat.max (mbound (bldM s)) (mbound (bldA (s ++ (x ++ [10])))) = n + 3 := rfl
  rw [e, e2]
  exact hk

theorem line_used_dCallK {s x : List UInt8} (hl : s.length + x.length + 1 ≤ 140737488351232) {i j : Nat} {dst : Option Nat} {r : List AOper} {acc : List Foot} {ms : List Nat} {K : St → Prop} {t : Fr} {m : Mem} {n : Nat} (hi : mget m i = some [.ptr i 0, .slT j 5 s.length]) (hj : mget m j = some (bytesAV s)) (hij : ¬ i = j)
    (hk : runDA Tryd.prog r (⟨[i, j, n, n + 2], [i, j]⟩ :: acc) ms ⟨putF t dst (.tup []), mset (mdel (mset m i [.ptr i 0, .slT (n + 2) 5 (s ++ (x ++ [10])).length]) j) (n + 2) (bytesAV (s ++ (x ++ [10]))), n + 3⟩ K) : dCallK Tryd.prog 33 [.d (.str x), .ptr i 0] dst r acc ms K t m n := by
  refine ⟨[(0, i), (1, j)], (bldM s), [.d (.str x), .ptr 0 0], _, _, i + j + 1, by simp [okRen, hij, Ne.symm]; omega, by simp [renL, AV.ren, pget], by simp [inL, inB, pget], by simp [bldM, handed, pget, hi, hj, renL, AV.ren, inL, inB, ren_bytes, inL_bytes], fun q id h => ?_, line_used hl, ?_⟩
  · simp only [pget] at h
    split at h
    · rename_i e; subst e; rfl
    · split at h
      · rename_i e; subst e; rfl
      · cases h
  have e : callMem [(0, i), (1, j)] (bldM s) (bldA (s ++ (x ++ [10]))) n m = mset (mdel (mset m i [.ptr i 0, .slT (n + 2) 5 (s ++ (x ++ [10])).length]) j) (n + 2) (bytesAV (s ++ (x ++ [10]))) := by
    simp [bldM, bldA, callMem, updNew, updOld, mget, renOf, renL, AV.ren, pget, ren_bytes]
  have e2 : n + Nat.max (mbound (bldM s)) (mbound (bldA (s ++ (x ++ [10])))) = n + 3 := rfl
  rw [e, e2]
  exact hk

theorem line_fresh_callK {x : List UInt8} (hl : x.length + 1 ≤ 140737488351232) {i j : Nat} {dst : Option Nat} {r : List AOper} {K : St → Prop} {t : Fr} {m : Mem} {n : Nat} (hi : mget m i = some [.npt i 66, .slT j 5 0]) (hj : mget m j = some ([])) (hij : ¬ i = j)
    (hk : runOps Tryd.prog r ⟨putF t dst (.tup []), mset (mdel (mset m i [.ptr i 0, .slT (n + 2) 5 (x ++ [10]).length]) j) (n + 2) (bytesAV (x ++ [10])), n + 3⟩ K) : callK Tryd.prog 33 [.d (.str x), .ptr i 0] dst r K t m n := by
  refine callK_gen [(0, i), (1, j)] [.d (.str x), .ptr 0 0] bld0 (nb := i + j + 1) (line_fresh hl) (by simp [okRen, hij, Ne.symm]; omega) (by simp [renL, AV.ren, pget]) (by simp [inL, inB, pget]) ?_ rfl ?_
  · simp [bld0, handed, pget, hi, hj, renL, AV.ren, inL, inB, ren_bytes, inL_bytes]
  rintro r0 m' ⟨rfl, rfl⟩
  have e : callMem [(0, i), (1, j)] bld0 (bldA (x ++ [10])) n m = mset (mdel (mset m i [.ptr i 0, .slT (n + 2) 5 (x ++ [10]).length]) j) (n + 2) (bytesAV (x ++ [10])) := by
    simp [bld0, bldA, callMem, updNew, updOld, mget, renOf, renL, AV.ren, pget, ren_bytes]
  have e2 : n + Nat.max (mbound bld0) (mbound (bldA (x ++ [10]))) = n + 3 := rfl
  rw [e, e2]
  exact hk

theorem line_fresh_dCallK {x : List UInt8} (hl : x.length + 1 ≤ 140737488351232) {i j : Nat} {dst : Option Nat} {r : List AOper} {acc : List Foot} {ms : List Nat} {K : St → Prop} {t : Fr} {m : Mem} {n : Nat} (hi : mget m i = some [.npt i 66, .slT j 5 0]) (hj : mget m j = some ([])) (hij : ¬ i = j)
    (hk : runDA Tryd.prog r (⟨[i, j, n, n + 2], [i, j]⟩ :: acc) ms ⟨putF t dst (.tup []), mset (mdel (mset m i [.ptr i 0, .slT (n + 2) 5 (x ++ [10]).length]) j) (n + 2) (bytesAV (x ++ [10])), n + 3⟩ K) : dCallK Tryd.prog 33 [.d (.str x), .ptr i 0] dst r acc ms K t m n := by
  refine ⟨[(0, i), (1, j)], bld0, [.d (.str x), .ptr 0 0], _, _, i + j + 1, by simp [okRen, hij, Ne.symm]; omega, by simp [renL, AV.ren, pget], by simp [inL, inB, pget], by simp [bld0, handed, pget, hi, hj, renL, AV.ren, inL, inB, ren_bytes, inL_bytes], fun q id h => ?_, line_fresh hl, ?_⟩
  · simp only [pget] at h
    split at h
    · rename_i e; subst e; rfl
    · split at h
      · rename_i e; subst e; rfl
      · cases h
  have e : callMem [(0, i), (1, j)] bld0 (bldA (x ++ [10])) n m = mset (mdel (mset m i [.ptr i 0, .slT (n + 2) 5 (x ++ [10]).length]) j) (n + 2) (bytesAV (x ++ [10])) := by
    simp [bld0, bldA, callMem, updNew, updOld, mget, renOf, renL, AV.ren, pget, ren_bytes]
  have e2 : n + Nat.max (mbound bld0) (mbound (bldA (x ++ [10]))) = n + 3 := rfl
  rw [e, e2]
  exact hk

end Go.Proofs.YtgfkgngpganllaaDoor
