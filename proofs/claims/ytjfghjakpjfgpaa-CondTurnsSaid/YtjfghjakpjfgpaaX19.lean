/- The abstract layer, part 19: regions that draw their order, gone through in the text's order, with a check that what is not ordered does not meddle. -/
import Derived.Test.YtjfghjakpjfgpaaX18
namespace Go.Jq
open Go

structure Foot where
  keys : List Nat
  F : List Nat

def indep2 (x y : Foot) : Bool := x.keys.all (fun i => !y.F.contains i && !y.keys.contains i) && y.keys.all (fun i => !x.F.contains i)

def chkF (f : Foot) (m : Nat) : Nat → List Foot → Bool
  | _, [] => true
  | i, g :: r => (m.testBit i || indep2 g f) && chkF f m (i + 1) r

def indepFrom (early : List Foot) : List Foot → List Nat → Bool
  | [], _ => true
  | f :: r, m :: ms => chkF f m 0 early && indepFrom (early ++ [f]) r ms
  | _ :: _, [] => false

theorem chkF_spec {f : Foot} {m : Nat} : ∀ {l : List Foot} {k : Nat}, chkF f m k l = true → ∀ i g, l[i]? = some g → m.testBit (k + i) = false → indep2 g f = true
  | [], _, _, i, g, hi, _ => by simp at hi
  | x :: l, k, h, i, g, hi, hb => by
    simp only [chkF, Bool.and_eq_true, Bool.or_eq_true] at h
    cases i with
    | zero => simp at hi; subst hi; rw [Nat.add_zero] at hb; rcases h.1 with h1 | h1
              · rw [hb] at h1; cases h1
              · exact h1
    | succ i => exact chkF_spec h.2 i g (by simpa using hi) (by rw [← hb]; congr 1; omega)

theorem indepFrom_spec : ∀ {l early : List Foot} {ms : List Nat}, indepFrom early l ms = true → ∀ i j fi fj, i < early.length + j → (early ++ l)[i]? = some fi → l[j]? = some fj →
    ∃ m, ms[j]? = some m ∧ (m.testBit i = false → indep2 fi fj = true)
  | [], _, _, _, i, j, fi, fj, _, _, hj => by simp at hj
  | f :: l, early, [], h, i, j, fi, fj, _, _, _ => by simp [indepFrom] at h
  | f :: l, early, m :: ms, h, i, j, fi, fj, hlt, hi, hj => by
    simp only [indepFrom, Bool.and_eq_true] at h
    cases j with
    | zero =>
      simp at hj
      subst hj
      refine ⟨m, rfl, fun hb => chkF_spec h.1 i fi ?_ (by simpa using hb)⟩
      rw [List.getElem?_append_left (by simpa using hlt)] at hi
      exact hi
    | succ j =>
      obtain ⟨m', h1, h2⟩ := indepFrom_spec h.2 i j fi fj (by simp; omega) (by simpa using hi) (by simpa using hj)
      exact ⟨m', by simpa using h1, h2⟩

/-! ### Where an operation looks -/

def idOf : AV → List Nat
  | .ptr id _ => [id]
  | .sl id _ _ _ => [id]
  | _ => []

def footF (t : Fr) : AOp → List Nat
  | .load _ x => idOf (ev t x)
  | .store _ a _ => idOf (ev t a)
  | .cvbs x => idOf (ev t x)
  | .cvll x => idOf (ev t x)
  | .app _ _ x y => idOf (ev t x) ++ idOf (ev t y)
  | _ => []

def keysOf (n : Nat) : Eff → List Nat
  | .nil => []
  | .new _ => [n]
  | .put id _ => [id]
  | .mov id _ => [id, n]

theorem ev_same {t t' : Fr} {x : Opd} (h : ∀ s ∈ x.slots, fget t' s = fget t s) : ev t' x = ev t x := by
  cases x with
  | t i => exact h i (by simp [Opd.slots])
  | c x => rfl

theorem evs_same {t t' : Fr} : ∀ {xs : List Opd}, (∀ s ∈ xs.flatMap Opd.slots, fget t' s = fget t s) → xs.map (ev t') = xs.map (ev t)
  | [], _ => rfl
  | x :: xs, h => by
    simp only [List.map_cons]
    rw [ev_same fun s hs => h s (by simp [List.flatMap_cons, hs]), evs_same fun s hs => h s (by rw [List.flatMap_cons]; exact List.mem_append_right _ hs)]

theorem evParts_same {t t' : Fr} : ∀ {ps : List (Nat × Nat × Opd)}, (∀ s ∈ ps.flatMap (fun p => p.2.2.slots), fget t' s = fget t s) → evParts t' ps = evParts t ps
  | [], _ => rfl
  | p :: ps, h => by
    have ih := evParts_same (t := t) (t' := t') (ps := ps) fun s hs => h s (by rw [List.flatMap_cons]; exact List.mem_append_right _ hs)
    simp only [evParts] at ih ⊢
    simp only [List.map_cons]
    rw [ev_same fun s hs => h s (by rw [List.flatMap_cons]; exact List.mem_append_left _ hs), ih]

theorem opt_same {t t' : Fr} {x : Option Opd} (h : ∀ s ∈ optSlots x, fget t' s = fget t s) : x.map (ev t') = x.map (ev t) := by
  cases x with
  | none => rfl
  | some x => simp only [Option.map_some]; rw [ev_same h]

theorem elemsOf_same {m m' : Mem} {esz : Nat} {y : AV} (h : ∀ id ∈ idOf y, mget m' id = mget m id) : elemsOf m' esz y = elemsOf m esz y := by
  cases y with
  | sl id e off len => simp only [elemsOf, h id (by simp [idOf])]
  | d x => cases x <;> rfl
  | _ => rfl

theorem aevN_local {o : AOp} {t t' : Fr} {m m' : Mem} {n : Nat} (ht : ∀ s ∈ o.slots, fget t' s = fget t s) (hm : ∀ id ∈ footF t o, mget m' id = mget m id) : aevN o t' m' n = aevN o t m n := by
  have one : ∀ {x : Opd}, (∀ s ∈ x.slots, s ∈ o.slots) → ev t' x = ev t x := fun h => ev_same fun s hs => ht s (h s hs)
  cases o with
  | alloc z => rfl
  | callf f as => rfl
  | callv x as => rfl
  | build z ps => simp only [aevN, evParts_same ht]
  | bslice a b z ps => simp only [aevN, evParts_same ht]
  | mkfn f cs => simp only [aevN, evs_same ht]
  | pick c a b => simp only [aevN]; rw [one (x := c) (by simp +contextual [AOp.slots]), one (x := a) (by simp +contextual [AOp.slots]), one (x := b) (by simp +contextual [AOp.slots])]
  | slcs x l h => simp only [aevN]; rw [one (x := x) (by simp +contextual [AOp.slots]), opt_same (x := l) fun s hs => ht s (by simp [AOp.slots, hs]), opt_same (x := h) fun s hs => ht s (by simp [AOp.slots, hs])]
  | slcl a x l h => simp only [aevN]; rw [one (x := x) (by simp +contextual [AOp.slots]), opt_same (x := l) fun s hs => ht s (by simp [AOp.slots, hs]), opt_same (x := h) fun s hs => ht s (by simp [AOp.slots, hs])]
  | load k x =>
    simp only [aevN]
    rw [one (x := x) (by simp [AOp.slots])]
    simp only [footF] at hm
    split
    · rename_i id off he
      rw [hm id (by rw [he]; simp [idOf])]
    all_goals rfl
  | store k a v =>
    simp only [aevN]
    rw [one (x := a) (by simp +contextual [AOp.slots]), one (x := v) (by simp +contextual [AOp.slots])]
    simp only [footF] at hm
    split
    · rename_i id off vs he hv
      rw [hm id (by rw [he]; simp [idOf])]
    · rfl
  | cvbs x =>
    simp only [aevN]
    rw [one (x := x) (by simp [AOp.slots])]
    simp only [footF] at hm
    generalize ev t x = y at hm ⊢
    split
    · rfl
    · rw [elemsOf_same hm]
  | cvll x =>
    simp only [aevN]
    rw [one (x := x) (by simp [AOp.slots])]
    simp only [footF] at hm
    split
    · rename_i id e off len he
      rw [hm id (by rw [he]; simp [idOf])]
    · rfl
  | app a b x y =>
    simp only [aevN]
    rw [one (x := x) (by simp +contextual [AOp.slots]), one (x := y) (by simp +contextual [AOp.slots])]
    simp only [footF] at hm
    rw [elemsOf_same fun id hid => hm id (List.mem_append_right _ hid)]
    split
    · split
      · rfl
      · rename_i id e off len he
        rw [hm id (by rw [he]; simp [idOf])]
      · rfl
    · rfl
  | _ =>
    simp only [aevN]
    first
      | rw [ev_same ht]
      | (rename_i x y; rw [one (x := x) (by simp +contextual [AOp.slots]), one (x := y) (by simp +contextual [AOp.slots])])

/-! ### What a plain operation comes to -/

def effU (n : Nat) : Eff → Nat → Option (Option (List AV))
  | .nil => fun _ => none
  | .new cs => fun j => if n = j then some (some cs) else none
  | .put id cs => fun j => if id = j then some (some cs) else none
  | .mov id cs => fun j => if n = j then some (some cs) else if id = j then some none else none

def plainOut (v : AV) (e : Eff) (n : Nat) (F : List Nat) : Out := ⟨v, fun m => e.mem m n, effU n e, keysOf n e, F, n, n + 1⟩

theorem plainOut_ok (v : AV) (e : Eff) (n : Nat) (F : List Nat) : (plainOut v e n F).ok := by
  refine ⟨fun m id => ?_, fun id h => ?_⟩
  · cases e with
    | nil => rfl
    | new cs => simp only [plainOut, Eff.mem, effU, mget_mset]; split <;> rfl
    | put i cs => simp only [plainOut, Eff.mem, effU, mget_mset]; split <;> rfl
    | mov i cs =>
      simp only [plainOut, Eff.mem, effU, mget_mset, mget_mdel]
      split
      · rfl
      · split <;> rfl
  · cases e with
    | nil => simp [plainOut, effU] at h
    | new cs => simp only [plainOut, effU] at h; split at h
                · simp [plainOut, keysOf, *]
                · cases h rfl
    | put i cs => simp only [plainOut, effU] at h; split at h
                  · simp [plainOut, keysOf, *]
                  · cases h rfl
    | mov i cs =>
      simp only [plainOut, effU] at h
      split at h
      · simp [plainOut, keysOf, *]
      · split at h
        · simp [plainOut, keysOf, *]
        · cases h rfl

def skipOut (n : Nat) : Out := ⟨.any, fun m => m, fun _ => none, [], [], n, n + 1⟩

theorem skipOut_ok (n : Nat) : (skipOut n).ok := ⟨fun _ _ => rfl, fun _ h => (h rfl).elim⟩

def callU (ρ : Ren) (m0 m1 : Mem) (n : Nat) (id : Nat) : Option (Option (List AV)) :=
  if n ≤ id ∧ (mget m0 (id - n)) = none ∧ (mget m1 (id - n)).isSome then some ((mget m1 (id - n)).map (renL (renOf ρ m0 m1 n))) else
    match pinv ρ id with
    | some j => some ((mget m1 j).map (renL (renOf ρ m0 m1 n)))
    | none => none

def callMem (ρ : Ren) (m0 m1 : Mem) (n : Nat) (m : Mem) : Mem := updNew m0 n (renOf ρ m0 m1 n) m1 (updOld m1 (renOf ρ m0 m1 n) ρ m)

def callKeys (ρ : Ren) (m1 : Mem) (n : Nat) : List Nat := ρ.map (·.2) ++ m1.map fun p => n + p.1

def callOut (ρ : Ren) (m0 m1 : Mem) (r0 : AV) (n : Nat) : Out :=
  ⟨r0.ren (renOf ρ m0 m1 n), callMem ρ m0 m1 n, callU ρ m0 m1 n, callKeys ρ m1 n, ρ.map (·.2), n, n + Nat.max (mbound m0) (mbound m1)⟩

theorem mget_mem : ∀ {m : Mem} {i : Nat}, (mget m i).isSome → ∃ p ∈ m, p.1 = i
  | [], i, h => by simp [mget] at h
  | (k, x) :: r, i, h => by
    simp only [mget] at h
    split at h
    · rename_i e; exact ⟨_, List.mem_cons_self, e⟩
    · obtain ⟨p, h1, h2⟩ := mget_mem h
      exact ⟨p, List.mem_cons_of_mem _ h1, h2⟩

theorem callOut_ok {ρ : Ren} {nb : Nat} (hok : okRen nb ρ = true) (m0 m1 : Mem) (r0 : AV) (n : Nat) : (callOut ρ m0 m1 r0 n).ok := by
  refine ⟨fun m id => ?_, fun id h => ?_⟩
  · simp only [callOut, callMem, callU]
    rw [mget_updNew, mget_updOld hok]
    split
    · rfl
    · split
      · rename_i j hj; simp only [hj]
      · rename_i hj; simp only [hj]
  · simp only [callOut, callU] at h
    simp only [callOut, callKeys]
    split at h
    · rename_i hc
      obtain ⟨p, h1, h2⟩ := mget_mem hc.2.2
      exact List.mem_append_right _ (List.mem_map.2 ⟨p, h1, by omega⟩)
    · split at h
      · rename_i j hj
        exact List.mem_append_left _ (List.mem_map.2 ⟨_, pinv_mem hj, rfl⟩)
      · exact (h rfl).elim

/-! ### Through the region -/

/-- A call in a region that draws its order: what it comes to is one value, one memory. -/
def CallD (P : Program) (f : Nat) (args : List AV) (m : Mem) (n : Nat) (K : AV → Mem → Nat → Foot → Prop) : Prop :=
  ∃ ρ m0 args0 r0 m1 nb, okRen nb ρ = true ∧ args = renL (pget ρ) args0 ∧ inL (pget ρ) args0 = true ∧ handed ρ m m0 ∧ (∀ j id, pget ρ j = some id → (mget m0 j).isSome) ∧
    ACalls P f args0 m0 (fun r m' => r = r0 ∧ m' = m1) ∧
    K (r0.ren (renOf ρ m0 m1 n)) (callMem ρ m0 m1 n m) (n + Nat.max (mbound m0) (mbound m1)) ⟨callKeys ρ m1 n, ρ.map (·.2)⟩

def dStep (P : Program) (dst : Option Nat) (op : AOp) (S : St) (K : St → Foot → Prop) : Prop :=
  match op with
  | .callf f args => CallD P f (args.map (ev S.t)) S.m S.n fun v m n F => K ⟨putF S.t dst v, m, n⟩ F
  | .callv x args => match ev S.t x with
    | .fn f caps => goesB P f = true ∧ CallD P f (args.map (ev S.t) ++ caps) S.m S.n fun v m n F => K ⟨putF S.t dst v, m, n⟩ F
    | _ => False
  | op => match aevN op S.t S.m S.n with
    | some (v, e) => K ⟨putF S.t dst v, e.mem S.m S.n, S.n + 1⟩ ⟨keysOf S.n e, footF S.t op⟩
    | none => False

def runDA (P : Program) : List AOper → List Foot → List Nat → St → (St → Prop) → Prop
  | [], acc, ms, S, K => indepFrom [] acc.reverse ms = true ∧ K S
  | o :: r, acc, ms, S, K => match o.guard with
    | none => dStep P o.dst o.op S fun S' f => runDA P r (f :: acc) ms S' K
    | some (g, want) => match fget S.t g with
      | .d (.bool b) => if b = want then dStep P o.dst o.op S (fun S' f => runDA P r (f :: acc) ms S' K) else runDA P r (⟨[], []⟩ :: acc) ms ⟨putF S.t o.dst .any, S.m, S.n + 1⟩ K
      | _ => False

end Go.Jq
