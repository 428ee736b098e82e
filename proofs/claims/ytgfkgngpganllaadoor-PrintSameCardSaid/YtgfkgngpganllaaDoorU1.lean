/- slices.Equal, slices.EqualFunc over data. -/
import Derived.Test.YtgfkgngpganllaaDoorF2
import Derived.Test.YtgfkgngpganllaaDoorXI
import Derived.Test.YtgfkgngpganllaaDoorAc
namespace Go.Proofs.YtgfkgngpganllaaDoor
open Go Go.Jq
set_option maxRecDepth 100000
set_option linter.unusedSimpArgs false

def eqL {α : Type} (e : α → α → Bool) : List α → List α → Bool
  | [], [] => true
  | a :: l, b :: l' => e a b && eqL e l l'
  | _, _ => false

theorem eqL_len {α : Type} (e : α → α → Bool) : ∀ (l l' : List α), l.length ≠ l'.length → eqL e l l' = false
  | [], [], h => absurd rfl h
  | [], _ :: _, _ => rfl
  | _ :: _, [], _ => rfl
  | a :: l, b :: l', h => by
    simp only [eqL, eqL_len e l l' (by simpa using h), Bool.and_false]

theorem eqL_at {α : Type} (e : α → α → Bool) : ∀ (l l' : List α) (i : Nat) (h : i < l.length) (h' : i < l'.length), e l[i] l'[i] = false → eqL e l l' = false
  | [], _, i, h, _, _ => by simp at h
  | _ :: _, [], i, _, h', _ => by simp at h'
  | a :: l, b :: l', 0, _, _, he => by simp only [List.getElem_cons_zero] at he; simp [eqL, he]
  | a :: l, b :: l', i + 1, h, h', he => by
    simp only [List.getElem_cons_succ] at he
    simp [eqL, eqL_at e l l' i (by simpa using h) (by simpa using h') he]

theorem eqL_all {α : Type} (e : α → α → Bool) : ∀ (l l' : List α), l.length = l'.length → (∀ i (h : i < l.length) (h' : i < l'.length), e l[i] l'[i] = true) → eqL e l l' = true
  | [], [], _, _ => rfl
  | [], _ :: _, h, _ => by simp at h
  | _ :: _, [], h, _ => by simp at h
  | a :: l, b :: l', h, he => by
    have h0 := he 0 (by simp) (by simp)
    simp only [List.getElem_cons_zero] at h0
    simp only [eqL, h0, Bool.true_and]
    exact eqL_all e l l' (by simpa using h) fun i hi hi' => by
      have := he (i + 1) (by simpa using hi) (by simpa using hi')
      simpa using this

theorem eqL_iff {α : Type} {e : α → α → Bool} (h : ∀ a b, e a b = true ↔ a = b) : ∀ (l l' : List α), eqL e l l' = true ↔ l = l'
  | [], [] => by simp [eqL]
  | [], _ :: _ => by simp [eqL]
  | _ :: _, [] => by simp [eqL]
  | a :: l, b :: l' => by simp [eqL, h, eqL_iff h l l']

def eqInit (x y : Init) : Bool := decide (x.loc = y.loc) && (decide (x.value = y.value) && true)
def eqAtom (x y : Atom) : Bool := decide (x.thread = y.thread) && (decide (x.reg = y.reg) && (decide (x.loc = y.loc) && (decide (x.value = y.value) && true)))

theorem eqInit_iff (x y : Init) : eqInit x y = true ↔ x = y := by
  cases x; cases y
  simp [eqInit]
theorem eqAtom_iff (x y : Atom) : eqAtom x y = true ↔ x = y := by
  cases x; cases y
  simp [eqAtom]
theorem eqIns_iff (x y : Ins) : eqIns x y = true ↔ x = y := by
  cases x with | mk k r l a o b n => cases y with | mk k' r' l' a' o' b' n' => cases a; cases b; cases a'; cases b'; simp [eqIns, and_assoc]

set_option maxHeartbeats 2000000 in
theorem equalInit_pure {l l' : List Init} {D D' : DV} (hD : IsSl Init.cells l D) (hD' : IsSl Init.cells l' D') : Pure Tryd.prog 42 [.d D, .d D'] (.d (.bool (eqL eqInit l l'))) := by
  have hb := hD.1
  have hlen := hD.len
  have hlen' := hD'.len
  refine acalls_of Tryd.func42 ac42_ok Tryd.ntmps42 Tryd.results42 rfl ?_
  unfold ac42
  refine bwp_seq fun K hK => bwp_region rfl ?_
  simp -implicitDefEqProofs only [go_sem, ↓reduceIte, Nat.reduceEqDiff, Nat.reduceAdd, Nat.reduceLeDiff, Nat.reduceMul, Nat.reduceSub, Int.reduceLE, Int.reduceLT, Int.reduceEq, Int.reduceToNat, Int.reducePow, Int.reduceNeg]
  refine hK _ ?_; clear hK
  refine bwp_seq fun K1 hK1 => ?_
  by_cases hl : l.length = l'.length
  · have hl1 : ((l.length : Int) = (l'.length : Int)) := by omega
    refine bwp_seq fun K hK => bwp_region rfl ?_
    simp -implicitDefEqProofs only [go_sem, ↓reduceIte, Nat.reduceEqDiff, Nat.reduceAdd, Nat.reduceLeDiff, Nat.reduceMul, Nat.reduceSub, Int.reduceLE, Int.reduceLT, Int.reduceEq, Int.reduceToNat, Int.reducePow, Int.reduceNeg, hlen, hlen', hl1]
    refine hK _ ?_; clear hK
    refine bwp_cond false (by simp [ev, fget, hl1]) (fun h => nomatch h) (fun _ => ?_)
    refine bwp_skip ?_
    refine hK1 _ ?_; clear hK1
    refine bwp_seq fun K2 hK2 => ?_
    refine bwp_seq fun K hK => bwp_region rfl ?_
    simp -implicitDefEqProofs only [go_sem, ↓reduceIte, Nat.reduceEqDiff, Nat.reduceAdd, Nat.reduceLeDiff, Nat.reduceMul, Nat.reduceSub, Int.reduceLE, Int.reduceLT, Int.reduceEq, Int.reduceToNat, Int.reducePow, Int.reduceNeg, hlen]
    refine hK _ ?_; clear hK
    refine bwp_block ?_
    refine bwp_leads (S' := ⟨[(0, .d D), (1, .d D'), (12, .d (.int .i64 l.length)), (13, .d (.int .i64 (0 : Nat)))], [], 0⟩) (Leads.ent [] ⟨by simp [entT, fget, AV.ren, renL, pget], by simp [entM, pinv, mget, mset, renL, AV.ren, pget, renL_append, -List.map_map], rfl, rfl⟩) ?_
    refine bwp_countI (fun i => ⟨[(0, .d D), (1, .d D'), (12, .d (.int .i64 l.length)), (13, .d (.int .i64 i))], [], 0⟩) (fun i => ∀ j (h : j < l.length) (h' : j < l'.length), j < i → eqInit l[j] l'[j] = true) l.length (fun j _ _ h => absurd h (Nat.not_lt_zero _)) ?_
    intro i hi hp
    unfold ac42L0
    by_cases hlt : i < l.length
    · have hlt' : (i : Int) < l.length := by omega
      have hlt2 : (i : Int) < l'.length := by omega
      obtain ⟨cs, rest, hDe, hdrop, hcs⟩ := hD.at init_len (by omega) i hlt
      obtain ⟨cs', rest', hDe', hdrop', hcs'⟩ := hD'.at init_len (by omega) i (by omega)
      have hw : IntKind.i64.wrap ((i : Int) + 1) = ((i + 1 : Nat) : Int) := by rw [wrap_i64 (by omega) (by omega)]; rfl
      have hno := eqL_at eqInit l l' i hlt (by omega)
      have hnext : eqInit l[i] (l'[i]'(by omega)) = true → ∀ j (h : j < l.length) (h' : j < l'.length), j < i + 1 → eqInit l[j] l'[j] = true := fun he j h h' hj => by
        rcases Nat.lt_succ_iff_lt_or_eq.1 hj with h1 | h1
        · exact hp j h h' h1
        · subst h1; exact he
      generalize l[i] = x at hdrop hno hnext
      generalize l'[i]'(by omega) = y at hdrop' hno hnext
      refine bwp_seq fun K hK => bwp_region rfl ?_
      simp -implicitDefEqProofs only [go_sem, ↓reduceIte, Nat.reduceEqDiff, Nat.reduceAdd, Nat.reduceLeDiff, Nat.reduceMul, Nat.reduceSub, Int.reduceLE, Int.reduceLT, Int.reduceEq, Int.reduceToNat, Int.reducePow, Int.reduceNeg, hlt']
      refine hK _ ?_; clear hK
      refine bwp_seq fun K3 hK3 => ?_
      refine bwp_cond true (by simp [ev, fget, hlt']) (fun _ => ?_) (fun h => nomatch h)
      refine bwp_skip ?_
      refine hK3 _ ?_; clear hK3
      refine bwp_seq fun K3 hK3 => ?_
      refine bwp_block ?_
      refine bwp_seq fun K hK => bwp_region rfl ?_
      simp -implicitDefEqProofs only [go_sem, ↓reduceIte, Nat.reduceEqDiff, Nat.reduceAdd, Nat.reduceLeDiff, Nat.reduceMul, Nat.reduceSub, Int.reduceLE, Int.reduceLT, Int.reduceEq, Int.reduceToNat, Int.reducePow, Int.reduceNeg]
      refine hK _ ?_; clear hK
      refine bwp_seq fun K hK => bwp_region_draw rfl rfl ?_
      simp -implicitDefEqProofs only [go_sem, ↓reduceIte, Nat.reduceEqDiff, Nat.reduceAdd, Nat.reduceLeDiff, Nat.reduceMul, Nat.reduceSub, Int.reduceLE, Int.reduceLT, Int.reduceEq, Int.reduceToNat, Int.reducePow, Int.reduceNeg, hDe, hDe', hlt', hlt2, Int.natCast_nonneg, Int.toNat_natCast, hcs, hcs', hdrop, hdrop', Init.cells]
      refine ⟨rfl, hK _ ?_⟩; clear hK
      cases he : eqInit x y with
      | false =>
        have he' : ¬ (x.loc = y.loc ∧ x.value = y.value) := fun h => by
          have : eqInit x y = true := by simp [eqInit, h]
          rw [this] at he
          cases he
        refine bwp_cond true (by simp [ev, fget]; omega) (fun _ => ?_) (fun h => nomatch h)
        refine bwp_seq fun K hK => bwp_region rfl ?_
        simp -implicitDefEqProofs only [go_sem, ↓reduceIte, Nat.reduceEqDiff, Nat.reduceAdd, Nat.reduceLeDiff, Nat.reduceMul, Nat.reduceSub, Int.reduceLE, Int.reduceLT, Int.reduceEq, Int.reduceToNat, Int.reducePow, Int.reduceNeg]
        refine hK _ ?_; clear hK
        refine bwp_ret ?_
        simp -implicitDefEqProofs only [go_sem, ↓reduceIte, Nat.reduceEqDiff, Nat.reduceAdd, Nat.reduceLeDiff, Nat.reduceMul, Nat.reduceSub, Int.reduceLE, Int.reduceLT, Int.reduceEq, Int.reduceToNat, Int.reducePow, Int.reduceNeg]
        refine aend_ret _ rfl rfl ⟨?_, rfl⟩
        simp [fget, hno he]
      | true =>
        have he' : x.loc = y.loc ∧ x.value = y.value := by simpa [eqInit, and_assoc] using he
        refine bwp_cond false (by simp [ev, fget]; omega) (fun h => nomatch h) (fun _ => ?_)
        refine bwp_skip ?_
        simp -implicitDefEqProofs only [go_sem, ↓reduceIte, Nat.reduceEqDiff, Nat.reduceAdd, Nat.reduceLeDiff, Nat.reduceMul, Nat.reduceSub, Int.reduceLE, Int.reduceLT, Int.reduceEq, Int.reduceToNat, Int.reducePow, Int.reduceNeg]
        refine hK3 _ ?_; clear hK3
        refine bwp_region rfl ?_
        simp -implicitDefEqProofs only [go_sem, ↓reduceIte, Nat.reduceEqDiff, Nat.reduceAdd, Nat.reduceLeDiff, Nat.reduceMul, Nat.reduceSub, Int.reduceLE, Int.reduceLT, Int.reduceEq, Int.reduceToNat, Int.reducePow, Int.reduceNeg, hw]
        refine ⟨hlt, hnext he, Leads.ent [] ⟨by simp [entT, fget, AV.ren, renL, pget, hDe, hDe'], by simp [entM], rfl, rfl⟩⟩
    · have hlt' : ¬ (i : Int) < l.length := by omega
      refine bwp_seq fun K hK => bwp_region rfl ?_
      simp -implicitDefEqProofs only [go_sem, ↓reduceIte, Nat.reduceEqDiff, Nat.reduceAdd, Nat.reduceLeDiff, Nat.reduceMul, Nat.reduceSub, Int.reduceLE, Int.reduceLT, Int.reduceEq, Int.reduceToNat, Int.reducePow, Int.reduceNeg, hlt']
      refine hK _ ?_; clear hK
      refine bwp_seq fun K3 hK3 => ?_
      refine bwp_cond false (by simp [ev, fget, hlt']) (fun h => nomatch h) (fun _ => ?_)
      simp -implicitDefEqProofs only [go_sem, ↓reduceIte, Nat.reduceEqDiff, Nat.reduceAdd, Nat.reduceLeDiff, Nat.reduceMul, Nat.reduceSub, Int.reduceLE, Int.reduceLT, Int.reduceEq, Int.reduceToNat, Int.reducePow, Int.reduceNeg]
      refine bwp_exit ?_
      simp -implicitDefEqProofs only [go_sem, ↓reduceIte, Nat.reduceEqDiff, Nat.reduceAdd, Nat.reduceLeDiff, Nat.reduceMul, Nat.reduceSub, Int.reduceLE, Int.reduceLT, Int.reduceEq, Int.reduceToNat, Int.reducePow, Int.reduceNeg]
      refine hK2 _ ?_; clear hK2
      refine bwp_seq fun K hK => bwp_region rfl ?_
      simp -implicitDefEqProofs only [go_sem, ↓reduceIte, Nat.reduceEqDiff, Nat.reduceAdd, Nat.reduceLeDiff, Nat.reduceMul, Nat.reduceSub, Int.reduceLE, Int.reduceLT, Int.reduceEq, Int.reduceToNat, Int.reducePow, Int.reduceNeg]
      refine hK _ ?_; clear hK
      refine bwp_ret ?_
      simp only [go_sem]
      refine aend_ret _ rfl rfl ⟨?_, rfl⟩
      simp [fget, eqL_all eqInit l l' hl fun j h h' => hp j h h' (by omega)]
  · have hl1 : ¬ ((l.length : Int) = (l'.length : Int)) := by omega
    refine bwp_seq fun K hK => bwp_region rfl ?_
    simp -implicitDefEqProofs only [go_sem, ↓reduceIte, Nat.reduceEqDiff, Nat.reduceAdd, Nat.reduceLeDiff, Nat.reduceMul, Nat.reduceSub, Int.reduceLE, Int.reduceLT, Int.reduceEq, Int.reduceToNat, Int.reducePow, Int.reduceNeg, hlen, hlen', hl1]
    refine hK _ ?_; clear hK
    refine bwp_cond true (by simp [ev, fget, hl1]) (fun _ => ?_) (fun h => nomatch h)
    refine bwp_seq fun K hK => bwp_region rfl ?_
    simp -implicitDefEqProofs only [go_sem, ↓reduceIte, Nat.reduceEqDiff, Nat.reduceAdd, Nat.reduceLeDiff, Nat.reduceMul, Nat.reduceSub, Int.reduceLE, Int.reduceLT, Int.reduceEq, Int.reduceToNat, Int.reducePow, Int.reduceNeg]
    refine hK _ ?_; clear hK
    refine bwp_ret ?_
    simp only [go_sem]
    refine aend_ret _ rfl rfl ⟨?_, rfl⟩
    simp [fget, eqL_len eqInit l l' hl]

set_option maxHeartbeats 2000000 in
theorem equalIns_pure {l l' : List Ins} {D D' : DV} (hD : IsSl Ins.cells l D) (hD' : IsSl Ins.cells l' D') : Pure Tryd.prog 44 [.d D, .d D'] (.d (.bool (eqL eqIns l l'))) := by
  have hb := hD.1
  have hlen := hD.len
  have hlen' := hD'.len
  refine acalls_of Tryd.func44 ac44_ok Tryd.ntmps44 Tryd.results44 rfl ?_
  unfold ac44
  refine bwp_seq fun K hK => bwp_region rfl ?_
  simp -implicitDefEqProofs only [go_sem, ↓reduceIte, Nat.reduceEqDiff, Nat.reduceAdd, Nat.reduceLeDiff, Nat.reduceMul, Nat.reduceSub, Int.reduceLE, Int.reduceLT, Int.reduceEq, Int.reduceToNat, Int.reducePow, Int.reduceNeg]
  refine hK _ ?_; clear hK
  refine bwp_seq fun K1 hK1 => ?_
  by_cases hl : l.length = l'.length
  · have hl1 : ((l.length : Int) = (l'.length : Int)) := by omega
    refine bwp_seq fun K hK => bwp_region rfl ?_
    simp -implicitDefEqProofs only [go_sem, ↓reduceIte, Nat.reduceEqDiff, Nat.reduceAdd, Nat.reduceLeDiff, Nat.reduceMul, Nat.reduceSub, Int.reduceLE, Int.reduceLT, Int.reduceEq, Int.reduceToNat, Int.reducePow, Int.reduceNeg, hlen, hlen', hl1]
    refine hK _ ?_; clear hK
    refine bwp_cond false (by simp [ev, fget, hl1]) (fun h => nomatch h) (fun _ => ?_)
    refine bwp_skip ?_
    refine hK1 _ ?_; clear hK1
    refine bwp_seq fun K2 hK2 => ?_
    refine bwp_seq fun K hK => bwp_region rfl ?_
    simp -implicitDefEqProofs only [go_sem, ↓reduceIte, Nat.reduceEqDiff, Nat.reduceAdd, Nat.reduceLeDiff, Nat.reduceMul, Nat.reduceSub, Int.reduceLE, Int.reduceLT, Int.reduceEq, Int.reduceToNat, Int.reducePow, Int.reduceNeg, hlen]
    refine hK _ ?_; clear hK
    refine bwp_block ?_
    refine bwp_leads (S' := ⟨[(0, .d D), (1, .d D'), (12, .d (.int .i64 l.length)), (13, .d (.int .i64 (0 : Nat)))], [], 0⟩) (Leads.ent [] ⟨by simp [entT, fget, AV.ren, renL, pget], by simp [entM, pinv, mget, mset, renL, AV.ren, pget, renL_append, -List.map_map], rfl, rfl⟩) ?_
    refine bwp_countI (fun i => ⟨[(0, .d D), (1, .d D'), (12, .d (.int .i64 l.length)), (13, .d (.int .i64 i))], [], 0⟩) (fun i => ∀ j (h : j < l.length) (h' : j < l'.length), j < i → eqIns l[j] l'[j] = true) l.length (fun j _ _ h => absurd h (Nat.not_lt_zero _)) ?_
    intro i hi hp
    unfold ac44L0
    by_cases hlt : i < l.length
    · have hlt' : (i : Int) < l.length := by omega
      have hlt2 : (i : Int) < l'.length := by omega
      obtain ⟨cs, rest, hDe, hdrop, hcs⟩ := hD.at ins_len (by omega) i hlt
      obtain ⟨cs', rest', hDe', hdrop', hcs'⟩ := hD'.at ins_len (by omega) i (by omega)
      have hw : IntKind.i64.wrap ((i : Int) + 1) = ((i + 1 : Nat) : Int) := by rw [wrap_i64 (by omega) (by omega)]; rfl
      have hno := eqL_at eqIns l l' i hlt (by omega)
      have hnext : eqIns l[i] (l'[i]'(by omega)) = true → ∀ j (h : j < l.length) (h' : j < l'.length), j < i + 1 → eqIns l[j] l'[j] = true := fun he j h h' hj => by
        rcases Nat.lt_succ_iff_lt_or_eq.1 hj with h1 | h1
        · exact hp j h h' h1
        · subst h1; exact he
      generalize l[i] = x at hdrop hno hnext
      generalize l'[i]'(by omega) = y at hdrop' hno hnext
      refine bwp_seq fun K hK => bwp_region rfl ?_
      simp -implicitDefEqProofs only [go_sem, ↓reduceIte, Nat.reduceEqDiff, Nat.reduceAdd, Nat.reduceLeDiff, Nat.reduceMul, Nat.reduceSub, Int.reduceLE, Int.reduceLT, Int.reduceEq, Int.reduceToNat, Int.reducePow, Int.reduceNeg, hlt']
      refine hK _ ?_; clear hK
      refine bwp_seq fun K3 hK3 => ?_
      refine bwp_cond true (by simp [ev, fget, hlt']) (fun _ => ?_) (fun h => nomatch h)
      refine bwp_skip ?_
      refine hK3 _ ?_; clear hK3
      refine bwp_seq fun K3 hK3 => ?_
      refine bwp_block ?_
      refine bwp_seq fun K hK => bwp_region rfl ?_
      simp -implicitDefEqProofs only [go_sem, ↓reduceIte, Nat.reduceEqDiff, Nat.reduceAdd, Nat.reduceLeDiff, Nat.reduceMul, Nat.reduceSub, Int.reduceLE, Int.reduceLT, Int.reduceEq, Int.reduceToNat, Int.reducePow, Int.reduceNeg]
      refine hK _ ?_; clear hK
      refine bwp_seq fun K hK => bwp_region_draw rfl rfl ?_
      simp -implicitDefEqProofs only [go_sem, ↓reduceIte, Nat.reduceEqDiff, Nat.reduceAdd, Nat.reduceLeDiff, Nat.reduceMul, Nat.reduceSub, Int.reduceLE, Int.reduceLT, Int.reduceEq, Int.reduceToNat, Int.reducePow, Int.reduceNeg, hDe, hDe', hlt', hlt2, Int.natCast_nonneg, Int.toNat_natCast, hcs, hcs', hdrop, hdrop', Ins.cells]
      refine ⟨rfl, hK _ ?_⟩; clear hK
      cases he : eqIns x y with
      | false =>
        have he' : ¬ (x.kind = y.kind ∧ x.reg = y.reg ∧ x.loc = y.loc ∧ x.a.reg = y.a.reg ∧ x.a.value = y.a.value ∧ x.op = y.op ∧ x.b.reg = y.b.reg ∧ x.b.value = y.b.value ∧ x.n = y.n) := fun h => by
          have : eqIns x y = true := by simp [eqIns, h]
          rw [this] at he
          cases he
        refine bwp_cond true (by simp [ev, fget]; omega) (fun _ => ?_) (fun h => nomatch h)
        refine bwp_seq fun K hK => bwp_region rfl ?_
        simp -implicitDefEqProofs only [go_sem, ↓reduceIte, Nat.reduceEqDiff, Nat.reduceAdd, Nat.reduceLeDiff, Nat.reduceMul, Nat.reduceSub, Int.reduceLE, Int.reduceLT, Int.reduceEq, Int.reduceToNat, Int.reducePow, Int.reduceNeg]
        refine hK _ ?_; clear hK
        refine bwp_ret ?_
        simp -implicitDefEqProofs only [go_sem, ↓reduceIte, Nat.reduceEqDiff, Nat.reduceAdd, Nat.reduceLeDiff, Nat.reduceMul, Nat.reduceSub, Int.reduceLE, Int.reduceLT, Int.reduceEq, Int.reduceToNat, Int.reducePow, Int.reduceNeg]
        refine aend_ret _ rfl rfl ⟨?_, rfl⟩
        simp [fget, hno he]
      | true =>
        have he' : x.kind = y.kind ∧ x.reg = y.reg ∧ x.loc = y.loc ∧ x.a.reg = y.a.reg ∧ x.a.value = y.a.value ∧ x.op = y.op ∧ x.b.reg = y.b.reg ∧ x.b.value = y.b.value ∧ x.n = y.n := by simpa [eqIns, and_assoc] using he
        refine bwp_cond false (by simp [ev, fget]; omega) (fun h => nomatch h) (fun _ => ?_)
        refine bwp_skip ?_
        simp -implicitDefEqProofs only [go_sem, ↓reduceIte, Nat.reduceEqDiff, Nat.reduceAdd, Nat.reduceLeDiff, Nat.reduceMul, Nat.reduceSub, Int.reduceLE, Int.reduceLT, Int.reduceEq, Int.reduceToNat, Int.reducePow, Int.reduceNeg]
        refine hK3 _ ?_; clear hK3
        refine bwp_region rfl ?_
        simp -implicitDefEqProofs only [go_sem, ↓reduceIte, Nat.reduceEqDiff, Nat.reduceAdd, Nat.reduceLeDiff, Nat.reduceMul, Nat.reduceSub, Int.reduceLE, Int.reduceLT, Int.reduceEq, Int.reduceToNat, Int.reducePow, Int.reduceNeg, hw]
        refine ⟨hlt, hnext he, Leads.ent [] ⟨by simp [entT, fget, AV.ren, renL, pget, hDe, hDe'], by simp [entM], rfl, rfl⟩⟩
    · have hlt' : ¬ (i : Int) < l.length := by omega
      refine bwp_seq fun K hK => bwp_region rfl ?_
      simp -implicitDefEqProofs only [go_sem, ↓reduceIte, Nat.reduceEqDiff, Nat.reduceAdd, Nat.reduceLeDiff, Nat.reduceMul, Nat.reduceSub, Int.reduceLE, Int.reduceLT, Int.reduceEq, Int.reduceToNat, Int.reducePow, Int.reduceNeg, hlt']
      refine hK _ ?_; clear hK
      refine bwp_seq fun K3 hK3 => ?_
      refine bwp_cond false (by simp [ev, fget, hlt']) (fun h => nomatch h) (fun _ => ?_)
      simp -implicitDefEqProofs only [go_sem, ↓reduceIte, Nat.reduceEqDiff, Nat.reduceAdd, Nat.reduceLeDiff, Nat.reduceMul, Nat.reduceSub, Int.reduceLE, Int.reduceLT, Int.reduceEq, Int.reduceToNat, Int.reducePow, Int.reduceNeg]
      refine bwp_exit ?_
      simp -implicitDefEqProofs only [go_sem, ↓reduceIte, Nat.reduceEqDiff, Nat.reduceAdd, Nat.reduceLeDiff, Nat.reduceMul, Nat.reduceSub, Int.reduceLE, Int.reduceLT, Int.reduceEq, Int.reduceToNat, Int.reducePow, Int.reduceNeg]
      refine hK2 _ ?_; clear hK2
      refine bwp_seq fun K hK => bwp_region rfl ?_
      simp -implicitDefEqProofs only [go_sem, ↓reduceIte, Nat.reduceEqDiff, Nat.reduceAdd, Nat.reduceLeDiff, Nat.reduceMul, Nat.reduceSub, Int.reduceLE, Int.reduceLT, Int.reduceEq, Int.reduceToNat, Int.reducePow, Int.reduceNeg]
      refine hK _ ?_; clear hK
      refine bwp_ret ?_
      simp only [go_sem]
      refine aend_ret _ rfl rfl ⟨?_, rfl⟩
      simp [fget, eqL_all eqIns l l' hl fun j h h' => hp j h h' (by omega)]
  · have hl1 : ¬ ((l.length : Int) = (l'.length : Int)) := by omega
    refine bwp_seq fun K hK => bwp_region rfl ?_
    simp -implicitDefEqProofs only [go_sem, ↓reduceIte, Nat.reduceEqDiff, Nat.reduceAdd, Nat.reduceLeDiff, Nat.reduceMul, Nat.reduceSub, Int.reduceLE, Int.reduceLT, Int.reduceEq, Int.reduceToNat, Int.reducePow, Int.reduceNeg, hlen, hlen', hl1]
    refine hK _ ?_; clear hK
    refine bwp_cond true (by simp [ev, fget, hl1]) (fun _ => ?_) (fun h => nomatch h)
    refine bwp_seq fun K hK => bwp_region rfl ?_
    simp -implicitDefEqProofs only [go_sem, ↓reduceIte, Nat.reduceEqDiff, Nat.reduceAdd, Nat.reduceLeDiff, Nat.reduceMul, Nat.reduceSub, Int.reduceLE, Int.reduceLT, Int.reduceEq, Int.reduceToNat, Int.reducePow, Int.reduceNeg]
    refine hK _ ?_; clear hK
    refine bwp_ret ?_
    simp only [go_sem]
    refine aend_ret _ rfl rfl ⟨?_, rfl⟩
    simp [fget, eqL_len eqIns l l' hl]

set_option maxHeartbeats 2000000 in
theorem equalAtom_pure {l l' : List Atom} {D D' : DV} (hD : IsSl Atom.cells l D) (hD' : IsSl Atom.cells l' D') : Pure Tryd.prog 46 [.d D, .d D'] (.d (.bool (eqL eqAtom l l'))) := by
  have hb := hD.1
  have hlen := hD.len
  have hlen' := hD'.len
  refine acalls_of Tryd.func46 ac46_ok Tryd.ntmps46 Tryd.results46 rfl ?_
  unfold ac46
  refine bwp_seq fun K hK => bwp_region rfl ?_
  simp -implicitDefEqProofs only [go_sem, ↓reduceIte, Nat.reduceEqDiff, Nat.reduceAdd, Nat.reduceLeDiff, Nat.reduceMul, Nat.reduceSub, Int.reduceLE, Int.reduceLT, Int.reduceEq, Int.reduceToNat, Int.reducePow, Int.reduceNeg]
  refine hK _ ?_; clear hK
  refine bwp_seq fun K1 hK1 => ?_
  by_cases hl : l.length = l'.length
  · have hl1 : ((l.length : Int) = (l'.length : Int)) := by omega
    refine bwp_seq fun K hK => bwp_region rfl ?_
    simp -implicitDefEqProofs only [go_sem, ↓reduceIte, Nat.reduceEqDiff, Nat.reduceAdd, Nat.reduceLeDiff, Nat.reduceMul, Nat.reduceSub, Int.reduceLE, Int.reduceLT, Int.reduceEq, Int.reduceToNat, Int.reducePow, Int.reduceNeg, hlen, hlen', hl1]
    refine hK _ ?_; clear hK
    refine bwp_cond false (by simp [ev, fget, hl1]) (fun h => nomatch h) (fun _ => ?_)
    refine bwp_skip ?_
    refine hK1 _ ?_; clear hK1
    refine bwp_seq fun K2 hK2 => ?_
    refine bwp_seq fun K hK => bwp_region rfl ?_
    simp -implicitDefEqProofs only [go_sem, ↓reduceIte, Nat.reduceEqDiff, Nat.reduceAdd, Nat.reduceLeDiff, Nat.reduceMul, Nat.reduceSub, Int.reduceLE, Int.reduceLT, Int.reduceEq, Int.reduceToNat, Int.reducePow, Int.reduceNeg, hlen]
    refine hK _ ?_; clear hK
    refine bwp_block ?_
    refine bwp_leads (S' := ⟨[(0, .d D), (1, .d D'), (12, .d (.int .i64 l.length)), (13, .d (.int .i64 (0 : Nat)))], [], 0⟩) (Leads.ent [] ⟨by simp [entT, fget, AV.ren, renL, pget], by simp [entM, pinv, mget, mset, renL, AV.ren, pget, renL_append, -List.map_map], rfl, rfl⟩) ?_
    refine bwp_countI (fun i => ⟨[(0, .d D), (1, .d D'), (12, .d (.int .i64 l.length)), (13, .d (.int .i64 i))], [], 0⟩) (fun i => ∀ j (h : j < l.length) (h' : j < l'.length), j < i → eqAtom l[j] l'[j] = true) l.length (fun j _ _ h => absurd h (Nat.not_lt_zero _)) ?_
    intro i hi hp
    unfold ac46L0
    by_cases hlt : i < l.length
    · have hlt' : (i : Int) < l.length := by omega
      have hlt2 : (i : Int) < l'.length := by omega
      obtain ⟨cs, rest, hDe, hdrop, hcs⟩ := hD.at atom_len (by omega) i hlt
      obtain ⟨cs', rest', hDe', hdrop', hcs'⟩ := hD'.at atom_len (by omega) i (by omega)
      have hw : IntKind.i64.wrap ((i : Int) + 1) = ((i + 1 : Nat) : Int) := by rw [wrap_i64 (by omega) (by omega)]; rfl
      have hno := eqL_at eqAtom l l' i hlt (by omega)
      have hnext : eqAtom l[i] (l'[i]'(by omega)) = true → ∀ j (h : j < l.length) (h' : j < l'.length), j < i + 1 → eqAtom l[j] l'[j] = true := fun he j h h' hj => by
        rcases Nat.lt_succ_iff_lt_or_eq.1 hj with h1 | h1
        · exact hp j h h' h1
        · subst h1; exact he
      generalize l[i] = x at hdrop hno hnext
      generalize l'[i]'(by omega) = y at hdrop' hno hnext
      refine bwp_seq fun K hK => bwp_region rfl ?_
      simp -implicitDefEqProofs only [go_sem, ↓reduceIte, Nat.reduceEqDiff, Nat.reduceAdd, Nat.reduceLeDiff, Nat.reduceMul, Nat.reduceSub, Int.reduceLE, Int.reduceLT, Int.reduceEq, Int.reduceToNat, Int.reducePow, Int.reduceNeg, hlt']
      refine hK _ ?_; clear hK
      refine bwp_seq fun K3 hK3 => ?_
      refine bwp_cond true (by simp [ev, fget, hlt']) (fun _ => ?_) (fun h => nomatch h)
      refine bwp_skip ?_
      refine hK3 _ ?_; clear hK3
      refine bwp_seq fun K3 hK3 => ?_
      refine bwp_block ?_
      refine bwp_seq fun K hK => bwp_region rfl ?_
      simp -implicitDefEqProofs only [go_sem, ↓reduceIte, Nat.reduceEqDiff, Nat.reduceAdd, Nat.reduceLeDiff, Nat.reduceMul, Nat.reduceSub, Int.reduceLE, Int.reduceLT, Int.reduceEq, Int.reduceToNat, Int.reducePow, Int.reduceNeg]
      refine hK _ ?_; clear hK
      refine bwp_seq fun K hK => bwp_region_draw rfl rfl ?_
      simp -implicitDefEqProofs only [go_sem, ↓reduceIte, Nat.reduceEqDiff, Nat.reduceAdd, Nat.reduceLeDiff, Nat.reduceMul, Nat.reduceSub, Int.reduceLE, Int.reduceLT, Int.reduceEq, Int.reduceToNat, Int.reducePow, Int.reduceNeg, hDe, hDe', hlt', hlt2, Int.natCast_nonneg, Int.toNat_natCast, hcs, hcs', hdrop, hdrop', Atom.cells]
      refine ⟨rfl, hK _ ?_⟩; clear hK
      cases he : eqAtom x y with
      | false =>
        have he' : ¬ (x.thread = y.thread ∧ x.reg = y.reg ∧ x.loc = y.loc ∧ x.value = y.value) := fun h => by
          have : eqAtom x y = true := by simp [eqAtom, h]
          rw [this] at he
          cases he
        refine bwp_cond true (by simp [ev, fget]; omega) (fun _ => ?_) (fun h => nomatch h)
        refine bwp_seq fun K hK => bwp_region rfl ?_
        simp -implicitDefEqProofs only [go_sem, ↓reduceIte, Nat.reduceEqDiff, Nat.reduceAdd, Nat.reduceLeDiff, Nat.reduceMul, Nat.reduceSub, Int.reduceLE, Int.reduceLT, Int.reduceEq, Int.reduceToNat, Int.reducePow, Int.reduceNeg]
        refine hK _ ?_; clear hK
        refine bwp_ret ?_
        simp -implicitDefEqProofs only [go_sem, ↓reduceIte, Nat.reduceEqDiff, Nat.reduceAdd, Nat.reduceLeDiff, Nat.reduceMul, Nat.reduceSub, Int.reduceLE, Int.reduceLT, Int.reduceEq, Int.reduceToNat, Int.reducePow, Int.reduceNeg]
        refine aend_ret _ rfl rfl ⟨?_, rfl⟩
        simp [fget, hno he]
      | true =>
        have he' : x.thread = y.thread ∧ x.reg = y.reg ∧ x.loc = y.loc ∧ x.value = y.value := by simpa [eqAtom, and_assoc] using he
        refine bwp_cond false (by simp [ev, fget]; omega) (fun h => nomatch h) (fun _ => ?_)
        refine bwp_skip ?_
        simp -implicitDefEqProofs only [go_sem, ↓reduceIte, Nat.reduceEqDiff, Nat.reduceAdd, Nat.reduceLeDiff, Nat.reduceMul, Nat.reduceSub, Int.reduceLE, Int.reduceLT, Int.reduceEq, Int.reduceToNat, Int.reducePow, Int.reduceNeg]
        refine hK3 _ ?_; clear hK3
        refine bwp_region rfl ?_
        simp -implicitDefEqProofs only [go_sem, ↓reduceIte, Nat.reduceEqDiff, Nat.reduceAdd, Nat.reduceLeDiff, Nat.reduceMul, Nat.reduceSub, Int.reduceLE, Int.reduceLT, Int.reduceEq, Int.reduceToNat, Int.reducePow, Int.reduceNeg, hw]
        refine ⟨hlt, hnext he, Leads.ent [] ⟨by simp [entT, fget, AV.ren, renL, pget, hDe, hDe'], by simp [entM], rfl, rfl⟩⟩
    · have hlt' : ¬ (i : Int) < l.length := by omega
      refine bwp_seq fun K hK => bwp_region rfl ?_
      simp -implicitDefEqProofs only [go_sem, ↓reduceIte, Nat.reduceEqDiff, Nat.reduceAdd, Nat.reduceLeDiff, Nat.reduceMul, Nat.reduceSub, Int.reduceLE, Int.reduceLT, Int.reduceEq, Int.reduceToNat, Int.reducePow, Int.reduceNeg, hlt']
      refine hK _ ?_; clear hK
      refine bwp_seq fun K3 hK3 => ?_
      refine bwp_cond false (by simp [ev, fget, hlt']) (fun h => nomatch h) (fun _ => ?_)
      simp -implicitDefEqProofs only [go_sem, ↓reduceIte, Nat.reduceEqDiff, Nat.reduceAdd, Nat.reduceLeDiff, Nat.reduceMul, Nat.reduceSub, Int.reduceLE, Int.reduceLT, Int.reduceEq, Int.reduceToNat, Int.reducePow, Int.reduceNeg]
      refine bwp_exit ?_
      simp -implicitDefEqProofs only [go_sem, ↓reduceIte, Nat.reduceEqDiff, Nat.reduceAdd, Nat.reduceLeDiff, Nat.reduceMul, Nat.reduceSub, Int.reduceLE, Int.reduceLT, Int.reduceEq, Int.reduceToNat, Int.reducePow, Int.reduceNeg]
      refine hK2 _ ?_; clear hK2
      refine bwp_seq fun K hK => bwp_region rfl ?_
      simp -implicitDefEqProofs only [go_sem, ↓reduceIte, Nat.reduceEqDiff, Nat.reduceAdd, Nat.reduceLeDiff, Nat.reduceMul, Nat.reduceSub, Int.reduceLE, Int.reduceLT, Int.reduceEq, Int.reduceToNat, Int.reducePow, Int.reduceNeg]
      refine hK _ ?_; clear hK
      refine bwp_ret ?_
      simp only [go_sem]
      refine aend_ret _ rfl rfl ⟨?_, rfl⟩
      simp [fget, eqL_all eqAtom l l' hl fun j h h' => hp j h h' (by omega)]
  · have hl1 : ¬ ((l.length : Int) = (l'.length : Int)) := by omega
    refine bwp_seq fun K hK => bwp_region rfl ?_
    simp -implicitDefEqProofs only [go_sem, ↓reduceIte, Nat.reduceEqDiff, Nat.reduceAdd, Nat.reduceLeDiff, Nat.reduceMul, Nat.reduceSub, Int.reduceLE, Int.reduceLT, Int.reduceEq, Int.reduceToNat, Int.reducePow, Int.reduceNeg, hlen, hlen', hl1]
    refine hK _ ?_; clear hK
    refine bwp_cond true (by simp [ev, fget, hl1]) (fun _ => ?_) (fun h => nomatch h)
    refine bwp_seq fun K hK => bwp_region rfl ?_
    simp -implicitDefEqProofs only [go_sem, ↓reduceIte, Nat.reduceEqDiff, Nat.reduceAdd, Nat.reduceLeDiff, Nat.reduceMul, Nat.reduceSub, Int.reduceLE, Int.reduceLT, Int.reduceEq, Int.reduceToNat, Int.reducePow, Int.reduceNeg]
    refine hK _ ?_; clear hK
    refine bwp_ret ?_
    simp only [go_sem]
    refine aend_ret _ rfl rfl ⟨?_, rfl⟩
    simp [fget, eqL_len eqAtom l l' hl]

set_option maxHeartbeats 2000000 in
theorem equalFuncIns_pure {ls ls' : List (List Ins)} {D D' : DV} (hD : IsSl2 Ins.cells ls D) (hD' : IsSl2 Ins.cells ls' D') : Pure Tryd.prog 43 [.d D, .d D', .fn 44 []] (.d (.bool (eqL (eqL eqIns) ls ls'))) := by
  have hb := hD.big
  have hlen := hD.len
  have hlen' := hD'.len
  refine acalls_of Tryd.func43 ac43_ok Tryd.ntmps43 Tryd.results43 rfl ?_
  unfold ac43
  refine bwp_seq fun K hK => bwp_region rfl ?_
  simp -implicitDefEqProofs only [go_sem, ↓reduceIte, Nat.reduceEqDiff, Nat.reduceAdd, Nat.reduceLeDiff, Nat.reduceMul, Nat.reduceSub, Int.reduceLE, Int.reduceLT, Int.reduceEq, Int.reduceToNat, Int.reducePow, Int.reduceNeg]
  refine hK _ ?_; clear hK
  refine bwp_seq fun K1 hK1 => ?_
  by_cases hl : ls.length = ls'.length
  · have hl1 : ((ls.length : Int) = (ls'.length : Int)) := by omega
    refine bwp_seq fun K hK => bwp_region rfl ?_
    simp -implicitDefEqProofs only [go_sem, ↓reduceIte, Nat.reduceEqDiff, Nat.reduceAdd, Nat.reduceLeDiff, Nat.reduceMul, Nat.reduceSub, Int.reduceLE, Int.reduceLT, Int.reduceEq, Int.reduceToNat, Int.reducePow, Int.reduceNeg, hlen, hlen', hl1]
    refine hK _ ?_; clear hK
    refine bwp_cond false (by simp [ev, fget, hl1]) (fun h => nomatch h) (fun _ => ?_)
    refine bwp_skip ?_
    refine hK1 _ ?_; clear hK1
    refine bwp_seq fun K2 hK2 => ?_
    refine bwp_seq fun K hK => bwp_region rfl ?_
    simp -implicitDefEqProofs only [go_sem, ↓reduceIte, Nat.reduceEqDiff, Nat.reduceAdd, Nat.reduceLeDiff, Nat.reduceMul, Nat.reduceSub, Int.reduceLE, Int.reduceLT, Int.reduceEq, Int.reduceToNat, Int.reducePow, Int.reduceNeg, hlen]
    refine hK _ ?_; clear hK
    refine bwp_block ?_
    refine bwp_leads (S' := ⟨[(15, .d D), (1, .d D'), (2, .fn 44 []), (16, .d (.int .i64 ls.length)), (17, .d (.int .i64 (0 : Nat)))], [], 0⟩) (Leads.ent [] ⟨by simp [entT, fget, AV.ren, renL, pget], by simp [entM, pinv, mget, mset, renL, AV.ren, pget, renL_append, -List.map_map], rfl, rfl⟩) ?_
    refine bwp_countI (fun i => ⟨[(15, .d D), (1, .d D'), (2, .fn 44 []), (16, .d (.int .i64 ls.length)), (17, .d (.int .i64 i))], [], 0⟩) (fun i => ∀ j (h : j < ls.length) (h' : j < ls'.length), j < i → eqL eqIns ls[j] ls'[j] = true) ls.length (fun j _ _ h => absurd h (Nat.not_lt_zero _)) ?_
    intro i hi hp
    unfold ac43L0
    by_cases hlt : i < ls.length
    · have hlt' : (i : Int) < ls.length := by omega
      have hlt2 : (i : Int) < ls'.length := by omega
      obtain ⟨cs, d, rest, hDe, hdrop, hcs, hd⟩ := hD.at i hlt
      obtain ⟨cs', d', rest', hDe', hdrop', hcs', hd'⟩ := hD'.at i (by omega)
      have hw : IntKind.i64.wrap ((i : Int) + 1) = ((i + 1 : Nat) : Int) := by rw [wrap_i64 (by omega) (by omega)]; rfl
      have hno := eqL_at (eqL eqIns) ls ls' i hlt (by omega)
      have hnext : eqL eqIns ls[i] (ls'[i]'(by omega)) = true → ∀ j (h : j < ls.length) (h' : j < ls'.length), j < i + 1 → eqL eqIns ls[j] ls'[j] = true := fun he j h h' hj => by
        rcases Nat.lt_succ_iff_lt_or_eq.1 hj with h1 | h1
        · exact hp j h h' h1
        · subst h1; exact he
      generalize ls[i] = x at hd hno hnext
      generalize ls'[i]'(by omega) = y at hd' hno hnext
      refine bwp_seq fun K hK => bwp_region rfl ?_
      simp -implicitDefEqProofs only [go_sem, ↓reduceIte, Nat.reduceEqDiff, Nat.reduceAdd, Nat.reduceLeDiff, Nat.reduceMul, Nat.reduceSub, Int.reduceLE, Int.reduceLT, Int.reduceEq, Int.reduceToNat, Int.reducePow, Int.reduceNeg, hlt']
      refine hK _ ?_; clear hK
      refine bwp_seq fun K3 hK3 => ?_
      refine bwp_cond true (by simp [ev, fget, hlt']) (fun _ => ?_) (fun h => nomatch h)
      refine bwp_skip ?_
      refine hK3 _ ?_; clear hK3
      refine bwp_seq fun K3 hK3 => ?_
      refine bwp_block ?_
      refine bwp_seq fun K hK => bwp_region rfl ?_
      simp -implicitDefEqProofs only [go_sem, ↓reduceIte, Nat.reduceEqDiff, Nat.reduceAdd, Nat.reduceLeDiff, Nat.reduceMul, Nat.reduceSub, Int.reduceLE, Int.reduceLT, Int.reduceEq, Int.reduceToNat, Int.reducePow, Int.reduceNeg, hDe, hlt', Int.natCast_nonneg, Int.toNat_natCast, hcs, hdrop]
      refine hK _ ?_; clear hK
      refine bwp_seq fun K hK => bwp_region rfl ?_
      simp -implicitDefEqProofs only [go_sem, ↓reduceIte, Nat.reduceEqDiff, Nat.reduceAdd, Nat.reduceLeDiff, Nat.reduceMul, Nat.reduceSub, Int.reduceLE, Int.reduceLT, Int.reduceEq, Int.reduceToNat, Int.reducePow, Int.reduceNeg, hDe', hlt2, Int.natCast_nonneg, Int.toNat_natCast, hcs', hdrop']
      refine hK _ ?_; clear hK
      refine bwp_seq fun K hK => bwp_region rfl ?_
      simp -implicitDefEqProofs only [go_sem, ↓reduceIte, Nat.reduceEqDiff, Nat.reduceAdd, Nat.reduceLeDiff, Nat.reduceMul, Nat.reduceSub, Int.reduceLE, Int.reduceLT, Int.reduceEq, Int.reduceToNat, Int.reducePow, Int.reduceNeg]
      refine ⟨rfl, ?_⟩
      refine callK_pure (equalIns_pure hd hd') rfl rfl ?_
      simp -implicitDefEqProofs only [go_sem, ↓reduceIte, Nat.reduceEqDiff, Nat.reduceAdd, Nat.reduceLeDiff, Nat.reduceMul, Nat.reduceSub, Int.reduceLE, Int.reduceLT, Int.reduceEq, Int.reduceToNat, Int.reducePow, Int.reduceNeg]
      refine hK _ ?_; clear hK
      cases he : eqL eqIns x y with
      | false =>
        refine bwp_cond true (by simp [ev, fget, he]) (fun _ => ?_) (fun h => nomatch h)
        refine bwp_seq fun K hK => bwp_region rfl ?_
        simp -implicitDefEqProofs only [go_sem, ↓reduceIte, Nat.reduceEqDiff, Nat.reduceAdd, Nat.reduceLeDiff, Nat.reduceMul, Nat.reduceSub, Int.reduceLE, Int.reduceLT, Int.reduceEq, Int.reduceToNat, Int.reducePow, Int.reduceNeg]
        refine hK _ ?_; clear hK
        refine bwp_ret ?_
        simp -implicitDefEqProofs only [go_sem, ↓reduceIte, Nat.reduceEqDiff, Nat.reduceAdd, Nat.reduceLeDiff, Nat.reduceMul, Nat.reduceSub, Int.reduceLE, Int.reduceLT, Int.reduceEq, Int.reduceToNat, Int.reducePow, Int.reduceNeg]
        refine aend_ret _ rfl rfl ⟨?_, rfl⟩
        simp [fget, hno he]
      | true =>
        refine bwp_cond false (by simp [ev, fget, he]) (fun h => nomatch h) (fun _ => ?_)
        refine bwp_skip ?_
        simp -implicitDefEqProofs only [go_sem, ↓reduceIte, Nat.reduceEqDiff, Nat.reduceAdd, Nat.reduceLeDiff, Nat.reduceMul, Nat.reduceSub, Int.reduceLE, Int.reduceLT, Int.reduceEq, Int.reduceToNat, Int.reducePow, Int.reduceNeg]
        refine hK3 _ ?_; clear hK3
        refine bwp_region rfl ?_
        simp -implicitDefEqProofs only [go_sem, ↓reduceIte, Nat.reduceEqDiff, Nat.reduceAdd, Nat.reduceLeDiff, Nat.reduceMul, Nat.reduceSub, Int.reduceLE, Int.reduceLT, Int.reduceEq, Int.reduceToNat, Int.reducePow, Int.reduceNeg, hw]
        refine ⟨hlt, hnext he, Leads.ent [] ⟨by simp [entT, fget, AV.ren, renL, pget, hDe, hDe'], by simp [entM], rfl, rfl⟩⟩
    · have hlt' : ¬ (i : Int) < ls.length := by omega
      refine bwp_seq fun K hK => bwp_region rfl ?_
      simp -implicitDefEqProofs only [go_sem, ↓reduceIte, Nat.reduceEqDiff, Nat.reduceAdd, Nat.reduceLeDiff, Nat.reduceMul, Nat.reduceSub, Int.reduceLE, Int.reduceLT, Int.reduceEq, Int.reduceToNat, Int.reducePow, Int.reduceNeg, hlt']
      refine hK _ ?_; clear hK
      refine bwp_seq fun K3 hK3 => ?_
      refine bwp_cond false (by simp [ev, fget, hlt']) (fun h => nomatch h) (fun _ => ?_)
      simp -implicitDefEqProofs only [go_sem, ↓reduceIte, Nat.reduceEqDiff, Nat.reduceAdd, Nat.reduceLeDiff, Nat.reduceMul, Nat.reduceSub, Int.reduceLE, Int.reduceLT, Int.reduceEq, Int.reduceToNat, Int.reducePow, Int.reduceNeg]
      refine bwp_exit ?_
      simp -implicitDefEqProofs only [go_sem, ↓reduceIte, Nat.reduceEqDiff, Nat.reduceAdd, Nat.reduceLeDiff, Nat.reduceMul, Nat.reduceSub, Int.reduceLE, Int.reduceLT, Int.reduceEq, Int.reduceToNat, Int.reducePow, Int.reduceNeg]
      refine hK2 _ ?_; clear hK2
      refine bwp_seq fun K hK => bwp_region rfl ?_
      simp -implicitDefEqProofs only [go_sem, ↓reduceIte, Nat.reduceEqDiff, Nat.reduceAdd, Nat.reduceLeDiff, Nat.reduceMul, Nat.reduceSub, Int.reduceLE, Int.reduceLT, Int.reduceEq, Int.reduceToNat, Int.reducePow, Int.reduceNeg]
      refine hK _ ?_; clear hK
      refine bwp_ret ?_
      simp only [go_sem]
      refine aend_ret _ rfl rfl ⟨?_, rfl⟩
      simp [fget, eqL_all (eqL eqIns) ls ls' hl fun j h h' => hp j h h' (by omega)]
  · have hl1 : ¬ ((ls.length : Int) = (ls'.length : Int)) := by omega
    refine bwp_seq fun K hK => bwp_region rfl ?_
    simp -implicitDefEqProofs only [go_sem, ↓reduceIte, Nat.reduceEqDiff, Nat.reduceAdd, Nat.reduceLeDiff, Nat.reduceMul, Nat.reduceSub, Int.reduceLE, Int.reduceLT, Int.reduceEq, Int.reduceToNat, Int.reducePow, Int.reduceNeg, hlen, hlen', hl1]
    refine hK _ ?_; clear hK
    refine bwp_cond true (by simp [ev, fget, hl1]) (fun _ => ?_) (fun h => nomatch h)
    refine bwp_seq fun K hK => bwp_region rfl ?_
    simp -implicitDefEqProofs only [go_sem, ↓reduceIte, Nat.reduceEqDiff, Nat.reduceAdd, Nat.reduceLeDiff, Nat.reduceMul, Nat.reduceSub, Int.reduceLE, Int.reduceLT, Int.reduceEq, Int.reduceToNat, Int.reducePow, Int.reduceNeg]
    refine hK _ ?_; clear hK
    refine bwp_ret ?_
    simp only [go_sem]
    refine aend_ret _ rfl rfl ⟨?_, rfl⟩
    simp [fget, eqL_len (eqL eqIns) ls ls' hl]

set_option maxHeartbeats 2000000 in
theorem equalFuncAtom_pure {ls ls' : List (List Atom)} {D D' : DV} (hD : IsSl2 Atom.cells ls D) (hD' : IsSl2 Atom.cells ls' D') : Pure Tryd.prog 45 [.d D, .d D', .fn 46 []] (.d (.bool (eqL (eqL eqAtom) ls ls'))) := by
  have hb := hD.big
  have hlen := hD.len
  have hlen' := hD'.len
  refine acalls_of Tryd.func45 ac45_ok Tryd.ntmps45 Tryd.results45 rfl ?_
  unfold ac45
  refine bwp_seq fun K hK => bwp_region rfl ?_
  simp -implicitDefEqProofs only [go_sem, ↓reduceIte, Nat.reduceEqDiff, Nat.reduceAdd, Nat.reduceLeDiff, Nat.reduceMul, Nat.reduceSub, Int.reduceLE, Int.reduceLT, Int.reduceEq, Int.reduceToNat, Int.reducePow, Int.reduceNeg]
  refine hK _ ?_; clear hK
  refine bwp_seq fun K1 hK1 => ?_
  by_cases hl : ls.length = ls'.length
  · have hl1 : ((ls.length : Int) = (ls'.length : Int)) := by omega
    refine bwp_seq fun K hK => bwp_region rfl ?_
    simp -implicitDefEqProofs only [go_sem, ↓reduceIte, Nat.reduceEqDiff, Nat.reduceAdd, Nat.reduceLeDiff, Nat.reduceMul, Nat.reduceSub, Int.reduceLE, Int.reduceLT, Int.reduceEq, Int.reduceToNat, Int.reducePow, Int.reduceNeg, hlen, hlen', hl1]
    refine hK _ ?_; clear hK
    refine bwp_cond false (by simp [ev, fget, hl1]) (fun h => nomatch h) (fun _ => ?_)
    refine bwp_skip ?_
    refine hK1 _ ?_; clear hK1
    refine bwp_seq fun K2 hK2 => ?_
    refine bwp_seq fun K hK => bwp_region rfl ?_
    simp -implicitDefEqProofs only [go_sem, ↓reduceIte, Nat.reduceEqDiff, Nat.reduceAdd, Nat.reduceLeDiff, Nat.reduceMul, Nat.reduceSub, Int.reduceLE, Int.reduceLT, Int.reduceEq, Int.reduceToNat, Int.reducePow, Int.reduceNeg, hlen]
    refine hK _ ?_; clear hK
    refine bwp_block ?_
    refine bwp_leads (S' := ⟨[(15, .d D), (1, .d D'), (2, .fn 46 []), (16, .d (.int .i64 ls.length)), (17, .d (.int .i64 (0 : Nat)))], [], 0⟩) (Leads.ent [] ⟨by simp [entT, fget, AV.ren, renL, pget], by simp [entM, pinv, mget, mset, renL, AV.ren, pget, renL_append, -List.map_map], rfl, rfl⟩) ?_
    refine bwp_countI (fun i => ⟨[(15, .d D), (1, .d D'), (2, .fn 46 []), (16, .d (.int .i64 ls.length)), (17, .d (.int .i64 i))], [], 0⟩) (fun i => ∀ j (h : j < ls.length) (h' : j < ls'.length), j < i → eqL eqAtom ls[j] ls'[j] = true) ls.length (fun j _ _ h => absurd h (Nat.not_lt_zero _)) ?_
    intro i hi hp
    unfold ac45L0
    by_cases hlt : i < ls.length
    · have hlt' : (i : Int) < ls.length := by omega
      have hlt2 : (i : Int) < ls'.length := by omega
      obtain ⟨cs, d, rest, hDe, hdrop, hcs, hd⟩ := hD.at i hlt
      obtain ⟨cs', d', rest', hDe', hdrop', hcs', hd'⟩ := hD'.at i (by omega)
      have hw : IntKind.i64.wrap ((i : Int) + 1) = ((i + 1 : Nat) : Int) := by rw [wrap_i64 (by omega) (by omega)]; rfl
      have hno := eqL_at (eqL eqAtom) ls ls' i hlt (by omega)
      have hnext : eqL eqAtom ls[i] (ls'[i]'(by omega)) = true → ∀ j (h : j < ls.length) (h' : j < ls'.length), j < i + 1 → eqL eqAtom ls[j] ls'[j] = true := fun he j h h' hj => by
        rcases Nat.lt_succ_iff_lt_or_eq.1 hj with h1 | h1
        · exact hp j h h' h1
        · subst h1; exact he
      generalize ls[i] = x at hd hno hnext
      generalize ls'[i]'(by omega) = y at hd' hno hnext
      refine bwp_seq fun K hK => bwp_region rfl ?_
      simp -implicitDefEqProofs only [go_sem, ↓reduceIte, Nat.reduceEqDiff, Nat.reduceAdd, Nat.reduceLeDiff, Nat.reduceMul, Nat.reduceSub, Int.reduceLE, Int.reduceLT, Int.reduceEq, Int.reduceToNat, Int.reducePow, Int.reduceNeg, hlt']
      refine hK _ ?_; clear hK
      refine bwp_seq fun K3 hK3 => ?_
      refine bwp_cond true (by simp [ev, fget, hlt']) (fun _ => ?_) (fun h => nomatch h)
      refine bwp_skip ?_
      refine hK3 _ ?_; clear hK3
      refine bwp_seq fun K3 hK3 => ?_
      refine bwp_block ?_
      refine bwp_seq fun K hK => bwp_region rfl ?_
      simp -implicitDefEqProofs only [go_sem, ↓reduceIte, Nat.reduceEqDiff, Nat.reduceAdd, Nat.reduceLeDiff, Nat.reduceMul, Nat.reduceSub, Int.reduceLE, Int.reduceLT, Int.reduceEq, Int.reduceToNat, Int.reducePow, Int.reduceNeg, hDe, hlt', Int.natCast_nonneg, Int.toNat_natCast, hcs, hdrop]
      refine hK _ ?_; clear hK
      refine bwp_seq fun K hK => bwp_region rfl ?_
      simp -implicitDefEqProofs only [go_sem, ↓reduceIte, Nat.reduceEqDiff, Nat.reduceAdd, Nat.reduceLeDiff, Nat.reduceMul, Nat.reduceSub, Int.reduceLE, Int.reduceLT, Int.reduceEq, Int.reduceToNat, Int.reducePow, Int.reduceNeg, hDe', hlt2, Int.natCast_nonneg, Int.toNat_natCast, hcs', hdrop']
      refine hK _ ?_; clear hK
      refine bwp_seq fun K hK => bwp_region rfl ?_
      simp -implicitDefEqProofs only [go_sem, ↓reduceIte, Nat.reduceEqDiff, Nat.reduceAdd, Nat.reduceLeDiff, Nat.reduceMul, Nat.reduceSub, Int.reduceLE, Int.reduceLT, Int.reduceEq, Int.reduceToNat, Int.reducePow, Int.reduceNeg]
      refine ⟨rfl, ?_⟩
      refine callK_pure (equalAtom_pure hd hd') rfl rfl ?_
      simp -implicitDefEqProofs only [go_sem, ↓reduceIte, Nat.reduceEqDiff, Nat.reduceAdd, Nat.reduceLeDiff, Nat.reduceMul, Nat.reduceSub, Int.reduceLE, Int.reduceLT, Int.reduceEq, Int.reduceToNat, Int.reducePow, Int.reduceNeg]
      refine hK _ ?_; clear hK
      cases he : eqL eqAtom x y with
      | false =>
        refine bwp_cond true (by simp [ev, fget, he]) (fun _ => ?_) (fun h => nomatch h)
        refine bwp_seq fun K hK => bwp_region rfl ?_
        simp -implicitDefEqProofs only [go_sem, ↓reduceIte, Nat.reduceEqDiff, Nat.reduceAdd, Nat.reduceLeDiff, Nat.reduceMul, Nat.reduceSub, Int.reduceLE, Int.reduceLT, Int.reduceEq, Int.reduceToNat, Int.reducePow, Int.reduceNeg]
        refine hK _ ?_; clear hK
        refine bwp_ret ?_
        simp -implicitDefEqProofs only [go_sem, ↓reduceIte, Nat.reduceEqDiff, Nat.reduceAdd, Nat.reduceLeDiff, Nat.reduceMul, Nat.reduceSub, Int.reduceLE, Int.reduceLT, Int.reduceEq, Int.reduceToNat, Int.reducePow, Int.reduceNeg]
        refine aend_ret _ rfl rfl ⟨?_, rfl⟩
        simp [fget, hno he]
      | true =>
        refine bwp_cond false (by simp [ev, fget, he]) (fun h => nomatch h) (fun _ => ?_)
        refine bwp_skip ?_
        simp -implicitDefEqProofs only [go_sem, ↓reduceIte, Nat.reduceEqDiff, Nat.reduceAdd, Nat.reduceLeDiff, Nat.reduceMul, Nat.reduceSub, Int.reduceLE, Int.reduceLT, Int.reduceEq, Int.reduceToNat, Int.reducePow, Int.reduceNeg]
        refine hK3 _ ?_; clear hK3
        refine bwp_region rfl ?_
        simp -implicitDefEqProofs only [go_sem, ↓reduceIte, Nat.reduceEqDiff, Nat.reduceAdd, Nat.reduceLeDiff, Nat.reduceMul, Nat.reduceSub, Int.reduceLE, Int.reduceLT, Int.reduceEq, Int.reduceToNat, Int.reducePow, Int.reduceNeg, hw]
        refine ⟨hlt, hnext he, Leads.ent [] ⟨by simp [entT, fget, AV.ren, renL, pget, hDe, hDe'], by simp [entM], rfl, rfl⟩⟩
    · have hlt' : ¬ (i : Int) < ls.length := by omega
      refine bwp_seq fun K hK => bwp_region rfl ?_
      simp -implicitDefEqProofs only [go_sem, ↓reduceIte, Nat.reduceEqDiff, Nat.reduceAdd, Nat.reduceLeDiff, Nat.reduceMul, Nat.reduceSub, Int.reduceLE, Int.reduceLT, Int.reduceEq, Int.reduceToNat, Int.reducePow, Int.reduceNeg, hlt']
      refine hK _ ?_; clear hK
      refine bwp_seq fun K3 hK3 => ?_
      refine bwp_cond false (by simp [ev, fget, hlt']) (fun h => nomatch h) (fun _ => ?_)
      simp -implicitDefEqProofs only [go_sem, ↓reduceIte, Nat.reduceEqDiff, Nat.reduceAdd, Nat.reduceLeDiff, Nat.reduceMul, Nat.reduceSub, Int.reduceLE, Int.reduceLT, Int.reduceEq, Int.reduceToNat, Int.reducePow, Int.reduceNeg]
      refine bwp_exit ?_
      simp -implicitDefEqProofs only [go_sem, ↓reduceIte, Nat.reduceEqDiff, Nat.reduceAdd, Nat.reduceLeDiff, Nat.reduceMul, Nat.reduceSub, Int.reduceLE, Int.reduceLT, Int.reduceEq, Int.reduceToNat, Int.reducePow, Int.reduceNeg]
      refine hK2 _ ?_; clear hK2
      refine bwp_seq fun K hK => bwp_region rfl ?_
      simp -implicitDefEqProofs only [go_sem, ↓reduceIte, Nat.reduceEqDiff, Nat.reduceAdd, Nat.reduceLeDiff, Nat.reduceMul, Nat.reduceSub, Int.reduceLE, Int.reduceLT, Int.reduceEq, Int.reduceToNat, Int.reducePow, Int.reduceNeg]
      refine hK _ ?_; clear hK
      refine bwp_ret ?_
      simp only [go_sem]
      refine aend_ret _ rfl rfl ⟨?_, rfl⟩
      simp [fget, eqL_all (eqL eqAtom) ls ls' hl fun j h h' => hp j h h' (by omega)]
  · have hl1 : ¬ ((ls.length : Int) = (ls'.length : Int)) := by omega
    refine bwp_seq fun K hK => bwp_region rfl ?_
    simp -implicitDefEqProofs only [go_sem, ↓reduceIte, Nat.reduceEqDiff, Nat.reduceAdd, Nat.reduceLeDiff, Nat.reduceMul, Nat.reduceSub, Int.reduceLE, Int.reduceLT, Int.reduceEq, Int.reduceToNat, Int.reducePow, Int.reduceNeg, hlen, hlen', hl1]
    refine hK _ ?_; clear hK
    refine bwp_cond true (by simp [ev, fget, hl1]) (fun _ => ?_) (fun h => nomatch h)
    refine bwp_seq fun K hK => bwp_region rfl ?_
    simp -implicitDefEqProofs only [go_sem, ↓reduceIte, Nat.reduceEqDiff, Nat.reduceAdd, Nat.reduceLeDiff, Nat.reduceMul, Nat.reduceSub, Int.reduceLE, Int.reduceLT, Int.reduceEq, Int.reduceToNat, Int.reducePow, Int.reduceNeg]
    refine hK _ ?_; clear hK
    refine bwp_ret ?_
    simp only [go_sem]
    refine aend_ret _ rfl rfl ⟨?_, rfl⟩
    simp [fget, eqL_len (eqL eqAtom) ls ls' hl]

end Go.Proofs.YtgfkgngpganllaaDoor
