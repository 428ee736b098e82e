/- Whether a test is too big, begins a location twice, jumps too far: without a heap. -/
import Derived.Test.YtjfghjakpjfgpaaF5
namespace Go.Proofs.Ytjfghjakpjfgpaa
open Go Go.Jq
set_option maxRecDepth 100000
set_option linter.unusedSimpArgs false

def sumLen (l : List (List Ins)) : Nat := l.foldl (fun s x => s + x.length) 0

def longB (l : List Atom) : Bool := decide (8 < l.length)

def bigB (t : Test) : Bool :=
  t.threads.any (fun l => decide (10 < l.length)) || (decide (t.threads.length = 0) || (decide (4 < t.threads.length) || (decide (24 < sumLen t.threads) || (decide (4 < (wellLocs t).length) || (decide (8 < t.rows.length) || (t.rows.any longB || decide (20 < t.name.length)))))))

theorem long_pure {l : List Atom} {X : DV} (hX : IsSl Atom.cells l X) : Pure Try.prog 55 [.d X] (.d (.bool (longB l))) := by
  have hl := hX.len
  refine acalls_of Try.func55 ac55_ok Try.ntmps55 Try.results55 rfl ?_
  unfold ac55
  refine bwp_seq fun K hK => bwp_region rfl ?_
  simp -implicitDefEqProofs only [go_sem, ↓reduceIte, Nat.reduceEqDiff, Nat.reduceAdd, Nat.reduceLeDiff, Nat.reduceMul, Nat.reduceSub, Int.reduceLE, Int.reduceLT, Int.reduceEq, Int.reduceToNat, Int.reducePow, Int.reduceNeg]
  refine hK _ ?_; clear hK
  refine bwp_seq fun K hK => bwp_region rfl ?_
  simp -implicitDefEqProofs only [go_sem, ↓reduceIte, Nat.reduceEqDiff, Nat.reduceAdd, Nat.reduceLeDiff, Nat.reduceMul, Nat.reduceSub, Int.reduceLE, Int.reduceLT, Int.reduceEq, Int.reduceToNat, Int.reducePow, Int.reduceNeg, hl]
  refine hK _ ?_; clear hK
  refine bwp_ret ?_
  simp only [go_sem]
  refine aend_ret _ rfl rfl ⟨?_, rfl⟩
  have : ((8 : Int) < l.length) = (8 < l.length) := by apply propext; omega
  simp [fget, longB, this]

def bgS (cs : List DV) (D : DV) (n s j : Nat) : St := ⟨[(10, .d (.int .i64 j)), (8, .d D), (9, .d (.int .i64 n)), (3, .d (.int .i64 s)), (1, .dptr cs), (2, .d (.bool false))], [], 0⟩

theorem big_pure {t : Test} {cs : List DV} (hT : IsTest t cs) (hbig : t.threads.length ≤ 1000000) : Pure Try.prog 32 [.agg (cs.map .d)] (.d (.bool (bigB t))) := by
  have hT0 := hT
  obtain ⟨I, T, A, rfl, hI, hTh, hA⟩ := hT
  have hTl := hTh.len
  have hAl := hA.len
  refine acalls_of Try.func32 ac32_ok Try.ntmps32 Try.results32 rfl ?_
  unfold ac32
  refine bwp_seq fun K hK => bwp_region rfl ?_
  simp -implicitDefEqProofs only [go_sem, ↓reduceIte, Nat.reduceEqDiff, Nat.reduceAdd, Nat.reduceLeDiff, Nat.reduceMul, Nat.reduceSub, Int.reduceLE, Int.reduceLT, Int.reduceEq, Int.reduceToNat, Int.reducePow, Int.reduceNeg]
  refine hK _ ?_; clear hK
  refine bwp_leads (S' := ⟨[(1, .dptr [.str t.name, I, T, .int .i64 t.kind, A]), (2, .d (.bool false))], [], 0⟩) (Leads.frz [] [(0, [.str t.name, I, T, .int .i64 t.kind, A])] ⟨?_, ?_, rfl, rfl, ?_⟩) ?_
  · simp [frzT, fget, AV.cv, cvL, zget, pget]
  · simp [frzM, pinv, zget, mget, cvL, AV.cv]
  · simp [zokFrom, mget, cvL, AV.cv]
  refine bwp_seq fun K hK => bwp_region rfl ?_
  simp -implicitDefEqProofs only [go_sem, ↓reduceIte, Nat.reduceEqDiff, Nat.reduceAdd, Nat.reduceLeDiff, Nat.reduceMul, Nat.reduceSub, Int.reduceLE, Int.reduceLT, Int.reduceEq, Int.reduceToNat, Int.reducePow, Int.reduceNeg]
  refine hK _ ?_; clear hK
  refine bwp_seq fun K1 hK1 => ?_
  refine bwp_seq fun K2 hK2 => ?_
  refine bwp_region rfl ?_
  simp -implicitDefEqProofs only [go_sem, ↓reduceIte, Nat.reduceEqDiff, Nat.reduceAdd, Nat.reduceLeDiff, Nat.reduceMul, Nat.reduceSub, Int.reduceLE, Int.reduceLT, Int.reduceEq, Int.reduceToNat, Int.reducePow, Int.reduceNeg, hTl]
  refine hK2 _ ?_; clear hK2
  refine bwp_block ?_
  refine bwp_leads (S' := bgS [.str t.name, I, T, .int .i64 t.kind, A] T t.threads.length 0 0) (Leads.ent [] ⟨by simp [entT, fget, AV.ren, renL, pget, bgS], by simp [entM, pinv, mget, mset, renL, AV.ren, pget, renL_append, -List.map_map, bgS], rfl, rfl⟩) ?_
  refine bwp_countI (fun j => bgS [.str t.name, I, T, .int .i64 t.kind, A] T t.threads.length (sumLen (t.threads.take j)) j) (fun j => (∀ l ∈ t.threads.take j, l.length ≤ 10) ∧ sumLen (t.threads.take j) ≤ 10 * j) t.threads.length ⟨by simp, by simp [sumLen]⟩ ?_
  intro j hj hp
  unfold ac32L0
  generalize hs : sumLen (t.threads.take j) = s at hp
  obtain ⟨hp1, hp2⟩ := hp
  by_cases hlt : j < t.threads.length
  · have hlt' : (j : Int) < t.threads.length := by omega
    obtain ⟨cs2, d, rest, hDe, hdr, hjc, hd⟩ := hTh.at j hlt
    have hdl := hd.len
    have hw : IntKind.i64.wrap ((j : Int) + 1) = ((j + 1 : Nat) : Int) := by rw [wrap_i64 (by omega) (by omega)]; rfl
    unfold bgS
    refine bwp_seq fun K hK => bwp_region rfl ?_
    simp -implicitDefEqProofs only [go_sem, ↓reduceIte, Nat.reduceEqDiff, Nat.reduceAdd, Nat.reduceLeDiff, Nat.reduceMul, Nat.reduceSub, Int.reduceLE, Int.reduceLT, Int.reduceEq, Int.reduceToNat, Int.reducePow, Int.reduceNeg, hlt']
    refine hK _ ?_; clear hK
    refine bwp_seq fun K2 hK2 => ?_
    refine bwp_cond true (by simp [ev, fget]) (fun _ => ?_) (fun h => nomatch h)
    refine bwp_skip ?_
    refine hK2 _ ?_; clear hK2
    refine bwp_seq fun K2 hK2 => ?_
    refine bwp_block ?_
    refine bwp_seq fun K hK => bwp_region rfl ?_
    simp -implicitDefEqProofs only [go_sem, ↓reduceIte, Nat.reduceEqDiff, Nat.reduceAdd, Nat.reduceLeDiff, Nat.reduceMul, Nat.reduceSub, Int.reduceLE, Int.reduceLT, Int.reduceEq, Int.reduceToNat, Int.reducePow, Int.reduceNeg, hDe, hlt', Int.natCast_nonneg, Int.toNat_natCast, Nat.mul_one, hjc, hdr]
    refine hK _ ?_; clear hK
    refine bwp_seq fun K3 hK3 => ?_
    refine bwp_seq fun K hK => bwp_region rfl ?_
    simp -implicitDefEqProofs only [go_sem, ↓reduceIte, Nat.reduceEqDiff, Nat.reduceAdd, Nat.reduceLeDiff, Nat.reduceMul, Nat.reduceSub, Int.reduceLE, Int.reduceLT, Int.reduceEq, Int.reduceToNat, Int.reducePow, Int.reduceNeg, hdl]
    refine hK _ ?_; clear hK
    by_cases h10 : 10 < t.threads[j].length
    · have h10' : (10 : Int) < t.threads[j].length := by omega
      refine bwp_cond true (by simp [ev, fget, h10']) (fun _ => ?_) (fun h => nomatch h)
      refine bwp_seq fun K hK => bwp_region rfl ?_
      simp -implicitDefEqProofs only [go_sem, ↓reduceIte, Nat.reduceEqDiff, Nat.reduceAdd, Nat.reduceLeDiff, Nat.reduceMul, Nat.reduceSub, Int.reduceLE, Int.reduceLT, Int.reduceEq, Int.reduceToNat, Int.reducePow, Int.reduceNeg]
      refine hK _ ?_; clear hK
      refine bwp_ret ?_
      simp only [go_sem]
      refine aend_ret _ rfl rfl ⟨?_, rfl⟩
      have : t.threads.any (fun l => decide (10 < l.length)) = true := List.any_eq_true.2 ⟨_, List.getElem_mem hlt, by simpa using h10⟩
      simp [fget, bigB, this]
    · have h10' : ¬ (10 : Int) < t.threads[j].length := by omega
      have hsum : sumLen (t.threads.take (j + 1)) = s + t.threads[j].length := by
        have := foldl_next (fun s (x : List Ins) => s + x.length) 0 t.threads j hlt
        unfold sumLen at hs ⊢
        rw [this, hs]
      have hws : IntKind.i64.wrap ((s : Int) + t.threads[j].length) = ((s + t.threads[j].length : Nat) : Int) := by rw [wrap_i64 (by omega) (by omega)]; omega
      refine bwp_cond false (by simp [ev, fget, h10']) (fun h => nomatch h) (fun _ => ?_)
      refine bwp_skip ?_
      simp -implicitDefEqProofs only [go_sem, ↓reduceIte, Nat.reduceEqDiff, Nat.reduceAdd, Nat.reduceLeDiff, Nat.reduceMul, Nat.reduceSub, Int.reduceLE, Int.reduceLT, Int.reduceEq, Int.reduceToNat, Int.reducePow, Int.reduceNeg]
      refine hK3 _ ?_; clear hK3
      refine bwp_region rfl ?_
      simp -implicitDefEqProofs only [go_sem, ↓reduceIte, Nat.reduceEqDiff, Nat.reduceAdd, Nat.reduceLeDiff, Nat.reduceMul, Nat.reduceSub, Int.reduceLE, Int.reduceLT, Int.reduceEq, Int.reduceToNat, Int.reducePow, Int.reduceNeg, hdl, hws]
      refine hK2 _ ?_; clear hK2
      refine bwp_region rfl ?_
      simp -implicitDefEqProofs only [go_sem, ↓reduceIte, Nat.reduceEqDiff, Nat.reduceAdd, Nat.reduceLeDiff, Nat.reduceMul, Nat.reduceSub, Int.reduceLE, Int.reduceLT, Int.reduceEq, Int.reduceToNat, Int.reducePow, Int.reduceNeg, hw]
      refine ⟨hlt, ⟨?_, by rw [hsum]; omega⟩, Leads.ent [] ⟨by simp [bgS, entT, fget, AV.ren, pget, hDe, hsum], by simp [bgS, entM], rfl, rfl⟩⟩
      intro l hl
      rw [List.take_add_one, List.getElem?_eq_getElem hlt, List.mem_append] at hl
      rcases hl with hl | hl
      · exact hp1 l hl
      · simp only [Option.toList_some, List.mem_singleton] at hl
        subst hl
        omega
  · have hlt' : ¬ (j : Int) < t.threads.length := by omega
    have hin : j = t.threads.length := by omega
    subst hin
    rw [List.take_of_length_le (Nat.le_refl _)] at hs hp1
    have hany : t.threads.any (fun l => decide (10 < l.length)) = false := by
      rw [List.any_eq_false]
      intro l hl
      have := hp1 l hl
      simp only [decide_eq_true_eq]; omega
    unfold bgS
    refine bwp_seq fun K hK => bwp_region rfl ?_
    simp -implicitDefEqProofs only [go_sem, ↓reduceIte, Nat.reduceEqDiff, Nat.reduceAdd, Nat.reduceLeDiff, Nat.reduceMul, Nat.reduceSub, Int.reduceLE, Int.reduceLT, Int.reduceEq, Int.reduceToNat, Int.reducePow, Int.reduceNeg, hlt']
    refine hK _ ?_; clear hK
    refine bwp_seq fun K2 hK2 => ?_
    refine bwp_cond false (by simp [ev, fget]) (fun h => nomatch h) (fun _ => ?_)
    refine bwp_exit ?_
    simp -implicitDefEqProofs only [go_sem, ↓reduceIte, Nat.reduceEqDiff, Nat.reduceAdd, Nat.reduceLeDiff, Nat.reduceMul, Nat.reduceSub, Int.reduceLE, Int.reduceLT, Int.reduceEq, Int.reduceToNat, Int.reducePow, Int.reduceNeg]
    refine hK1 _ ?_; clear hK1
    refine bwp_seq fun K hK => bwp_region rfl ?_
    simp -implicitDefEqProofs only [go_sem, ↓reduceIte, Nat.reduceEqDiff, Nat.reduceAdd, Nat.reduceLeDiff, Nat.reduceMul, Nat.reduceSub, Int.reduceLE, Int.reduceLT, Int.reduceEq, Int.reduceToNat, Int.reducePow, Int.reduceNeg]
    refine hK _ ?_; clear hK
    by_cases a1 : t.threads.length = 0
    · have a1' : (t.threads.length : Int) = 0 := by omega
      refine bwp_seq fun K hK => bwp_region rfl ?_
      simp -implicitDefEqProofs only [go_sem, ↓reduceIte, Nat.reduceEqDiff, Nat.reduceAdd, Nat.reduceLeDiff, Nat.reduceMul, Nat.reduceSub, Int.reduceLE, Int.reduceLT, Int.reduceEq, Int.reduceToNat, Int.reducePow, Int.reduceNeg, hTl, a1']
      refine hK _ ?_; clear hK
      refine bwp_ret ?_
      simp only [go_sem]
      refine aend_ret _ rfl rfl ⟨?_, rfl⟩
      simp [fget, bigB, a1]
    have a1' : ¬ (t.threads.length : Int) = 0 := by omega
    by_cases a2 : 4 < t.threads.length
    · have a2' : (4 : Int) < t.threads.length := by omega
      refine bwp_seq fun K hK => bwp_region rfl ?_
      simp -implicitDefEqProofs only [go_sem, ↓reduceIte, Nat.reduceEqDiff, Nat.reduceAdd, Nat.reduceLeDiff, Nat.reduceMul, Nat.reduceSub, Int.reduceLE, Int.reduceLT, Int.reduceEq, Int.reduceToNat, Int.reducePow, Int.reduceNeg, hTl, a1', a2']
      refine hK _ ?_; clear hK
      refine bwp_ret ?_
      simp only [go_sem]
      refine aend_ret _ rfl rfl ⟨?_, rfl⟩
      simp [fget, bigB, a2]
    have a2' : ¬ (4 : Int) < t.threads.length := by omega
    by_cases a3 : 24 < s
    · have a3' : (24 : Int) < s := by omega
      refine bwp_seq fun K hK => bwp_region rfl ?_
      simp -implicitDefEqProofs only [go_sem, ↓reduceIte, Nat.reduceEqDiff, Nat.reduceAdd, Nat.reduceLeDiff, Nat.reduceMul, Nat.reduceSub, Int.reduceLE, Int.reduceLT, Int.reduceEq, Int.reduceToNat, Int.reducePow, Int.reduceNeg, hTl, a1', a2', a3']
      refine hK _ ?_; clear hK
      refine bwp_ret ?_
      simp only [go_sem]
      refine aend_ret _ rfl rfl ⟨?_, rfl⟩
      simp [fget, bigB, hs, a3]
    have a3' : ¬ (24 : Int) < s := by omega
    refine bwp_seq fun K hK => bwp_region rfl ?_
    simp -implicitDefEqProofs only [go_sem, ↓reduceIte, Nat.reduceEqDiff, Nat.reduceAdd, Nat.reduceLeDiff, Nat.reduceMul, Nat.reduceSub, Int.reduceLE, Int.reduceLT, Int.reduceEq, Int.reduceToNat, Int.reducePow, Int.reduceNeg, hTl, a1', a2', a3']
    refine callK_pure (wellLocs_pure hT0) rfl rfl ?_
    have hln : ∀ l : List UInt8, lenA (.d (bytesD l)) = some l.length := fun l => rfl
    have kA : ∀ (dst : Option Nat) (r : List AOper) (K : St → Prop) (t' : Fr) (m : Mem) (n : Nat), runOps Try.prog r ⟨putF t' dst (.d (.bool (t.rows.any longB))), m, n⟩ K → callK Try.prog 27 [.d A, .fn 55 []] dst r K t' m n :=
      fun dst r K t m n h => callK_pure (anyRows rfl rfl hA longB fun l _ d hd => long_pure hd) rfl rfl h
    by_cases a4 : 4 < (wellLocs t).length
    · have a4' : (4 : Int) < (wellLocs t).length := by omega
      simp -implicitDefEqProofs only [go_sem, ↓reduceIte, Nat.reduceEqDiff, Nat.reduceAdd, Nat.reduceLeDiff, Nat.reduceMul, Nat.reduceSub, Int.reduceLE, Int.reduceLT, Int.reduceEq, Int.reduceToNat, Int.reducePow, Int.reduceNeg, hln, a4']
      refine hK _ ?_; clear hK
      refine bwp_ret ?_
      simp only [go_sem]
      refine aend_ret _ rfl rfl ⟨?_, rfl⟩
      simp [fget, bigB, a4]
    have a4' : ¬ (4 : Int) < (wellLocs t).length := by omega
    by_cases a5 : 8 < t.rows.length
    · have a5' : (8 : Int) < t.rows.length := by omega
      simp -implicitDefEqProofs only [go_sem, ↓reduceIte, Nat.reduceEqDiff, Nat.reduceAdd, Nat.reduceLeDiff, Nat.reduceMul, Nat.reduceSub, Int.reduceLE, Int.reduceLT, Int.reduceEq, Int.reduceToNat, Int.reducePow, Int.reduceNeg, hln, a4', hAl, a5']
      refine hK _ ?_; clear hK
      refine bwp_ret ?_
      simp only [go_sem]
      refine aend_ret _ rfl rfl ⟨?_, rfl⟩
      simp [fget, bigB, a5]
    have a5' : ¬ (8 : Int) < t.rows.length := by omega
    simp -implicitDefEqProofs only [go_sem, ↓reduceIte, Nat.reduceEqDiff, Nat.reduceAdd, Nat.reduceLeDiff, Nat.reduceMul, Nat.reduceSub, Int.reduceLE, Int.reduceLT, Int.reduceEq, Int.reduceToNat, Int.reducePow, Int.reduceNeg, hln, a4', hAl, a5']
    refine kA _ _ _ _ _ _ ?_
    cases a6 : t.rows.any longB
    · simp -implicitDefEqProofs only [go_sem, ↓reduceIte, Nat.reduceEqDiff, Nat.reduceAdd, Nat.reduceLeDiff, Nat.reduceMul, Nat.reduceSub, Int.reduceLE, Int.reduceLT, Int.reduceEq, Int.reduceToNat, Int.reducePow, Int.reduceNeg]
      refine hK _ ?_; clear hK
      refine bwp_ret ?_
      simp only [go_sem]
      refine aend_ret _ rfl rfl ⟨?_, rfl⟩
      have e : ((20 : Int) < (t.name.length : Int)) = (20 < t.name.length) := by apply propext; omega
      simp [fget, bigB, hany, a1, a2, hs, a3, a4, a5, a6, e]
    · simp -implicitDefEqProofs only [go_sem, ↓reduceIte, Nat.reduceEqDiff, Nat.reduceAdd, Nat.reduceLeDiff, Nat.reduceMul, Nat.reduceSub, Int.reduceLE, Int.reduceLT, Int.reduceEq, Int.reduceToNat, Int.reducePow, Int.reduceNeg]
      refine hK _ ?_; clear hK
      refine bwp_ret ?_
      simp only [go_sem]
      refine aend_ret _ rfl rfl ⟨?_, rfl⟩
      simp [fget, bigB, a6]

end Go.Proofs.Ytjfghjakpjfgpaa
