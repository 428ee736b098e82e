/- The abstract layer, part 15: regions; a call's contract at a call. -/
import Derived.Test.YtjfghjakpjfgpaaX14
namespace Go.Jq
open Go

section
variable {P : Program} {E : Env} {k : Nat}

theorem guard_wanted {ops : Array Oper} {o : Oper} {g : Nat} {want b : Bool} {t : Fr} {c : Ctx} {a : Act} {w : World} (hg : cGuard ops o.guard = some (some (g, want))) (hF : FR c w t a.tmps)
    (hb : fget t g = .d (.bool b)) : Region.wanted o (yielded ops a.tmps) = (b == want) := by
  unfold cGuard at hg
  cases ho : o.guard with
  | none => rw [ho] at hg; cases hg
  | some jw =>
    obtain ⟨j, wt⟩ := jw
    rw [ho] at hg
    simp only at hg
    split at hg
    · rename_i o' hj
      split at hg
      · rename_i d hd
        cases hg
        have hx := hF g
        rw [hb] at hx
        have hv := rel_d_bool hx
        have hy : yielded ops a.tmps j = some b := by
          unfold yielded
          simp only [hj, Option.bind_some, hd]
          rw [Array.getD_eq_getD_getElem?] at hv
          cases hq : a.tmps[g]? with
          | none => rw [hq] at hv; cases hv
          | some u => rw [hq] at hv; simp only [Option.getD_some] at hv; subst hv; rfl
        unfold Region.wanted
        rw [ho]
        simp only [hy]
        cases b <;> cases want <;> rfl
      · cases hg
    · cases hg

theorem guard_none {ops : Array Oper} {o : Oper} (hg : cGuard ops o.guard = some none) (y : Nat → Option Bool) : Region.wanted o y = true := by
  unfold cGuard at hg
  cases ho : o.guard with
  | none => unfold Region.wanted; rw [ho]
  | some jw =>
    obtain ⟨j, wt⟩ := jw
    rw [ho] at hg
    simp only at hg
    split at hg
    · split at hg
      · cases hg
      · cases hg
    · cases hg

theorem cOper_guard {ops : Array Oper} {o : Oper} {ao : AOper} (h : cOper P ops k o = some ao) : cGuard ops o.guard = some ao.guard ∧ ao.dst = o.dst ∧ (∀ d, o.dst = some d → d < k) := by
  unfold cOper at h
  split at h
  · rename_i aop g hop hg
    split at h
    · rename_i hd
      cases h
      exact ⟨hg, rfl, fun d he => by rw [he] at hd; simpa [dstOk] using hd⟩
    · cases h
  · cases h

theorem runOps_sound {ops : Array Oper} {Q : Exit → Act → World → Prop} {K : St → Prop} (hK : ∀ S' a' w', K S' → Conc E k S' a' w' → Q .normal a' w') :
    ∀ (l : List Oper) (al : List AOper) (i : Nat) (S : St) (a : Act) (w : World), (∀ j, l[j]? = ops[i + j]?) → cOpers P ops k l = some al → E.n ≤ S.n → Conc E k S a w → runOps P al S K →
      wpOps P ops Q (List.range' i l.length) a w
  | [], al, i, S, a, w, _, hc, _, hcc, h => by
    simp only [cOpers, Option.some.injEq] at hc
    subst hc
    exact hK S a w h hcc
  | o :: l, al, i, S, a, w, hl, hc, hn, hcc, h => by
    simp only [cOpers] at hc
    split at hc
    · rename_i ao r' h1 h2
      cases hc
      have h0 : ops[i]? = some o := by simpa using (hl 0).symm
      have hl' : ∀ j, l[j]? = ops[i + 1 + j]? := fun j => by have := hl (j + 1); simpa [Nat.add_assoc, Nat.add_comm 1 j] using this
      obtain ⟨hg, hd, hdk⟩ := cOper_guard h1
      simp only [List.length_cons, List.range'_succ, wpOps, h0]
      simp only [runOps] at h
      split at h
      · rename_i hgn
        rw [hgn] at hg
        rw [if_pos (guard_none hg _)]
        exact .inl (wp_step h1 hn (fun S' a' w' hs hc' hle => runOps_sound hK l r' (i + 1) S' a' w' hl' h2 (Nat.le_trans hn hle) hc' hs) hcc h)
      · rename_i g want hgs
        rw [hgs] at hg
        split at h
        · rename_i b hb
          obtain ⟨c, hcr, hp⟩ := hcc
          have hw := guard_wanted hg hcr.fr hb
          split at h
          · rename_i hbw
            rw [hw, if_pos (by simpa using hbw)]
            exact .inl (wp_step h1 hn (fun S' a' w' hs hc' hle => runOps_sound hK l r' (i + 1) S' a' w' hl' h2 (Nat.le_trans hn hle) hc' hs) ⟨c, hcr, hp⟩ h)
          · rename_i hbw
            rw [hw, if_neg (by simpa using hbw)]
            refine runOps_sound hK l r' (i + 1) ⟨putF S.t ao.dst .any, S.m, S.n⟩ _ _ hl' h2 hn ?_ h
            rw [hd]
            exact conc_put hcr hp hn hdk (.inr rfl) hcr.mr (Step.refl _ _ _) (fun _ h => .inl h) (fun _ _ => rfl) (fun _ _ h => h) hcr.free rfl
        · exact h.elim
    · cases hc

theorem awp_region {n0 : Nat} {S : St} {Q : Exit → St → Prop} {id : Nat} {ops : Array Oper} {al : List AOper} (hc : cOpers P ops k ops.toList = some al) (hn : n0 ≤ S.n)
    (h : runOps P al S (fun S' => Q .normal S')) : AWP P n0 k (.region id ops false) S Q := by
  intro E hE a w hcc
  refine wp_region ?_
  have := runOps_sound (P := P) (E := E) (k := k) (ops := ops) (Q := fun e a' w' => ∃ S', Q e S' ∧ Conc E k S' a' w') (K := fun S' => Q .normal S') (fun S' a' w' h1 h2 => ⟨S', h1, h2⟩) ops.toList al 0 S a w
    (fun j => by rw [Nat.zero_add, Array.getElem?_toList]) hc (hE ▸ hn) hcc h
  rw [List.range_eq_range']
  simpa using this

end

/-! ### A contract at a call -/

/-- What the caller's memory becomes: the callee's blocks that it was handed (ρ: callee's number, caller's number), then the new ones, from N on. -/
def renOf (ρ : Ren) (m0 m' : Mem) (N : Nat) : Nat → Option Nat := fun j => if (mget m0 j).isSome && (mget m' j).isSome then pget ρ j else some (N + j)

def updOld (m' : Mem) (π : Nat → Option Nat) : Ren → Mem → Mem
  | [], m => m
  | (j, id) :: r, m => match mget m' j with
    | some cs => updOld m' π r (mset m id (renL π cs))
    | none => updOld m' π r (mdel m id)

def updNew (m0 : Mem) (N : Nat) (π : Nat → Option Nat) : Mem → Mem → Mem
  | [], m => m
  | (j, cs) :: r, m => if (mget m0 j).isSome then updNew m0 N π r m else mset (updNew m0 N π r m) (N + j) (renL π cs)

/-- The blocks that are handed over stand in the caller's memory under the names that ρ gives. -/
def handed (ρ : Ren) (m : Mem) : Mem → Prop
  | [] => True
  | (j, cs) :: r => (match pget ρ j with
    | some id => mget m id = some (renL (pget ρ) cs) ∧ inL (pget ρ) cs = true
    | none => False) ∧ handed ρ m r

theorem handed_get {ρ : Ren} {m : Mem} : ∀ {m0 : Mem}, handed ρ m m0 → ∀ j cs, mget m0 j = some cs → ∃ id, pget ρ j = some id ∧ mget m id = some (renL (pget ρ) cs) ∧ inL (pget ρ) cs = true
  | [], _, j, cs, h => by simp [mget] at h
  | (k, x) :: r, h, j, cs, hj => by
    simp only [handed] at h
    simp only [mget] at hj
    split at hj
    · rename_i e
      subst e
      cases hj
      obtain ⟨h, _⟩ := h
      split at h
      · rename_i id hid
        exact ⟨id, hid, h⟩
      · exact h.elim
    · exact handed_get h.2 j cs hj

theorem mget_updOld {m' : Mem} {π : Nat → Option Nat} {n : Nat} : ∀ {ρ : Ren} {m : Mem} (_ : okRen n ρ = true) (id : Nat),
    mget (updOld m' π ρ m) id = match pinv ρ id with
      | some j => (mget m' j).map (renL π)
      | none => mget m id
  | [], m, _, id => rfl
  | (j, i) :: r, m, hok, id => by
    have hok' := hok
    simp only [okRen, Bool.and_eq_true, decide_eq_true_eq, List.all_eq_true] at hok
    obtain ⟨⟨_, h2⟩, h3⟩ := hok
    have hno : pinv r i = none := by
      cases hp : pinv r i with
      | none => rfl
      | some j' =>
        have := h2 _ (pinv_mem hp)
        simp at this
    simp only [updOld, pinv]
    by_cases e : i = id
    · subst e
      rw [if_pos rfl]
      cases hm : mget m' j with
      | none => simp only [mget_updOld h3, hno, mget_mdel, if_true, hm, Option.map_none]
      | some cs => simp only [mget_updOld h3, hno, mget_mset, if_true, hm, Option.map_some]
    · rw [if_neg e]
      cases hm : mget m' j with
      | none => simp only [mget_updOld h3, mget_mdel, if_neg e]
      | some cs => simp only [mget_updOld h3, mget_mset, if_neg e]

theorem mget_updNew {m0 : Mem} {N : Nat} {π : Nat → Option Nat} : ∀ {m' m : Mem} (id : Nat),
    mget (updNew m0 N π m' m) id = if N ≤ id ∧ (mget m0 (id - N)) = none ∧ (mget m' (id - N)).isSome then (mget m' (id - N)).map (renL π) else mget m id
  | [], m, id => by simp [updNew, mget]
  | (j, cs) :: r, m, id => by
    have hcons : mget ((j, cs) :: r) (id - N) = if j = id - N then some cs else mget r (id - N) := rfl
    simp only [updNew]
    by_cases h0 : (mget m0 j).isSome
    · rw [if_pos h0, mget_updNew]
      by_cases e : j = id - N
      · subst e
        have : mget m0 (id - N) ≠ none := by intro h; rw [h] at h0; cases h0
        rw [if_neg (fun h => this h.2.1), if_neg (fun h => this h.2.1)]
      · rw [if_neg e] at hcons
        simp only [hcons]
    · rw [if_neg h0, mget_mset]
      by_cases e : N + j = id
      · subst e
        have h1 : N + j - N = j := by omega
        have h2 : mget m0 j = none := by simpa using h0
        rw [h1] at hcons ⊢
        rw [if_pos rfl] at hcons
        simp [hcons, h2]
      · rw [if_neg e, mget_updNew]
        by_cases hN : N ≤ id
        · have : ¬ j = id - N := by omega
          rw [if_neg this] at hcons
          simp only [hcons]
        · simp [hN]

theorem callR_gen {P : Program} {f : Nat} {args0 : List AV} {m0 : Mem} {Q : AV → Mem → Prop} {m : Mem} {n : Nat} (h : ACalls P f args0 m0 Q) (ρ : Ren) {nb : Nat} (hok : okRen nb ρ = true)
    (hin : inL (pget ρ) args0 = true) (hh : handed ρ m m0) (hdom : ∀ j id, pget ρ j = some id → (mget m0 j).isSome)
    {F : Nat → Prop} (hF : ∀ r m', Q r m' → ∀ id, n ≤ id → id < n + Nat.max (mbound m0) (mbound m') → F id) :
    CallR P f (renL (pget ρ) args0) m n F fun r m1 n1 => ∃ r0 m', Q r0 m' ∧ r = r0.ren (renOf ρ m0 m' n) ∧ m1 = updNew m0 n (renOf ρ m0 m' n) m' (updOld m' (renOf ρ m0 m' n) ρ m) ∧
      n1 = n + Nat.max (mbound m0) (mbound m') := by
  intro c w vs hr hM hfree
  have hspec := okRen_spec hok
  let c0 : Ctx := { φ := fun j => match pget ρ j with | some id => c.φ id | none => .free, imm := c.imm }
  have hφ0 : ∀ j id, pget ρ j = some id → c0.φ j = c.φ id := fun j id h => by simp only [c0, h]
  have hr0 : RelL c0 w args0 vs := relL_unren (c := c0) (c' := c) (fun _ h => h) hφ0 _ _ hin hr
  have hM0 : MR c0 m0 w := by
    refine ⟨fun j cs hj => ?_, fun j j' b hj hj' hb hb' => ?_, hM.imm⟩
    · obtain ⟨id, hid, hmid, hincs⟩ := handed_get hh j cs hj
      rcases hM.own id _ hmid with ⟨h0, hcs⟩ | ⟨b, arr, T, fz, hb, hni, hw, hf, us, rest, ha, hrel⟩
      · refine .inl ⟨(hφ0 j id hid).trans h0, ?_⟩
        have := renL_length (pget ρ) cs
        rw [hcs] at this
        exact List.eq_nil_of_length_eq_zero this.symm
      · exact .inr ⟨b, arr, T, fz, (hφ0 j id hid).trans hb, hni, hw, hf, us, rest, ha, relL_unren (c := c0) (c' := c) (fun _ h => h) hφ0 _ _ hincs hrel⟩
    · obtain ⟨cs, hcs⟩ := Option.isSome_iff_exists.1 hj
      obtain ⟨cs', hcs'⟩ := Option.isSome_iff_exists.1 hj'
      obtain ⟨id, hid, hmid, _⟩ := handed_get hh j cs hcs
      obtain ⟨id', hid', hmid', _⟩ := handed_get hh j' cs' hcs'
      rw [hφ0 j id hid] at hb
      rw [hφ0 j' id' hid'] at hb'
      have := hM.inj id id' b (by rw [hmid]; rfl) (by rw [hmid']; rfl) hb hb'
      subst this
      have h1 := (hspec j id (pget_mem hid)).2.1
      have h2 := (hspec j' id (pget_mem hid')).2.1
      rw [h1] at h2
      exact Option.some.inj h2
  have hfree0 : ∀ j, mbound m0 ≤ j → c0.φ j = .free := by
    intro j hj
    simp only [c0]
    split
    · rename_i id hid
      have := mget_bound (hdom j id hid)
      omega
    · rfl
  have hown0 : ∀ b, Own c0 m0 b → ∃ j id, pget ρ j = some id ∧ (mget m id).isSome ∧ c.φ id = .blk b := by
    rintro b ⟨j, hj, hb⟩
    obtain ⟨cs, hcs⟩ := Option.isSome_iff_exists.1 hj
    obtain ⟨id, hid, hmid, _⟩ := handed_get hh j cs hcs
    exact ⟨j, id, hid, by rw [hmid]; rfl, (hφ0 j id hid) ▸ hb⟩
  have hownc : ∀ b, Own c0 m0 b → Own c m b := fun b hb => by
    obtain ⟨j, id, _, h1, h2⟩ := hown0 b hb
    exact ⟨id, h1, h2⟩
  refine (h c0 w vs hr0 hM0 hfree0).mono ?_
  rintro e w' ⟨v, r0, m', c', rfl, hQ, hrel, hM', hs, ho, hpers, hfr⟩
  have hle : n ≤ n + Nat.max (mbound m0) (mbound m') := Nat.le_add_right _ _
  have hlt : ∀ id, (mget m id).isSome → ¬ (n ≤ id ∧ id < n + Nat.max (mbound m0) (mbound m')) := fun id hid hr => hM.not_free hid (hfree id (hF r0 m' hQ id hr.1 hr.2))
  have hρl : ∀ j id, pget ρ j = some id → ¬ (n ≤ id ∧ id < n + Nat.max (mbound m0) (mbound m')) := fun j id hj => by
    obtain ⟨cs0, hcs0⟩ := Option.isSome_iff_exists.1 (hdom j id hj)
    obtain ⟨id', hid', hmid', _⟩ := handed_get hh j cs0 hcs0
    rw [hj] at hid'
    cases hid'
    exact hlt id (by rw [hmid']; rfl)
  let c1 : Ctx := { φ := fun id => if n ≤ id ∧ id < n + Nat.max (mbound m0) (mbound m') then c'.φ (id - n) else c.φ id, imm := c'.imm }
  have hc1o : ∀ id, ¬ (n ≤ id ∧ id < n + Nat.max (mbound m0) (mbound m')) → c1.φ id = c.φ id := fun id hid => by simp only [c1, if_neg hid]
  have hc1n : ∀ j, j < Nat.max (mbound m0) (mbound m') → c1.φ (n + j) = c'.φ j := fun j hj => by simp only [c1]; rw [if_pos ⟨by omega, by omega⟩]; congr 1; omega
  have hjlt : ∀ j, (mget m' j).isSome → j < Nat.max (mbound m0) (mbound m') := fun j hj => Nat.lt_of_lt_of_le (mget_bound hj) (Nat.le_max_right _ _)
  have hπ : ∀ j i, renOf ρ m0 m' n j = some i → c'.φ j ≠ .free → c1.φ i = c'.φ j := by
    intro j i hji hnf
    simp only [renOf] at hji
    split at hji
    · rename_i hb
      simp only [Bool.and_eq_true] at hb
      rw [hc1o i (hρl j i hji), ← hφ0 j i hji]
      exact ((hpers j (mget_bound hb.1) hb.2).2).symm
    · cases hji
      refine hc1n j ?_
      rcases Nat.lt_or_ge j (Nat.max (mbound m0) (mbound m')) with h1 | h1
      · exact h1
      · exact absurd (hfr j h1) hnf
  have hlater : Later c c1 w w' := by
    refine ⟨hs.imm, fun b hb => hs.keep b (hM.imm b hb) (fun h => hM.sep hb (hownc b h)), fun id hid => hc1o id ?_, hs.rows⟩
    exact fun hr => hid (hfree id (hF r0 m' hQ id hr.1 hr.2))
  have hm1 : ∀ id, mget (updNew m0 n (renOf ρ m0 m' n) m' (updOld m' (renOf ρ m0 m' n) ρ m)) id =
      if n ≤ id ∧ (mget m0 (id - n)) = none ∧ (mget m' (id - n)).isSome then (mget m' (id - n)).map (renL (renOf ρ m0 m' n)) else
        match pinv ρ id with
        | some j => (mget m' j).map (renL (renOf ρ m0 m' n))
        | none => mget m id := fun id => by rw [mget_updNew, mget_updOld hok]
  -- the three kinds of a number in the memory behind the call
  have kinds : ∀ id cells, mget (updNew m0 n (renOf ρ m0 m' n) m' (updOld m' (renOf ρ m0 m' n) ρ m)) id = some cells →
      (∃ j cs, id = n + j ∧ mget m0 j = none ∧ mget m' j = some cs ∧ cells = renL (renOf ρ m0 m' n) cs) ∨
      (∃ j cs, pget ρ j = some id ∧ ¬ (n ≤ id ∧ id < n + Nat.max (mbound m0) (mbound m')) ∧ (mget m0 j).isSome ∧ mget m' j = some cs ∧ cells = renL (renOf ρ m0 m' n) cs ∧ (mget m id).isSome) ∨
      (pinv ρ id = none ∧ mget m id = some cells) := by
    intro id cells hid
    rw [hm1] at hid
    split at hid
    · rename_i hcond
      rw [Option.map_eq_some_iff] at hid
      obtain ⟨cs, hcs, rfl⟩ := hid
      exact .inl ⟨id - n, cs, by omega, hcond.2.1, hcs, rfl⟩
    · split at hid
      · rename_i j hj
        rw [Option.map_eq_some_iff] at hid
        obtain ⟨cs, hcs, rfl⟩ := hid
        have h1 := hspec j id (pinv_mem hj)
        obtain ⟨cs0, hcs0⟩ := Option.isSome_iff_exists.1 (hdom j id h1.1)
        obtain ⟨id', hid', hmid', _⟩ := handed_get hh j cs0 hcs0
        rw [h1.1] at hid'
        cases hid'
        exact .inr (.inl ⟨j, cs, h1.1, hρl j id h1.1, hdom j id h1.1, hcs, rfl, by rw [hmid']; rfl⟩)
      · rename_i hj
        exact .inr (.inr ⟨hj, hid⟩)
  have notOwn0 : ∀ id b, pinv ρ id = none → (mget m id).isSome → c.φ id = .blk b → ¬ Own c0 m0 b := by
    intro id b hp hm hb ho
    obtain ⟨j, id', hj, hm', hb'⟩ := hown0 b ho
    have := hM.inj id id' b hm hm' hb hb'
    subst this
    have := (hspec j id (pget_mem hj)).2.1
    rw [hp] at this
    cases this
  refine ⟨v, _, _, _, c1, rfl, ⟨r0, m', hQ, rfl, rfl, rfl⟩, ?_, ?_, ?_, ?_, hc1o, ?_, hle⟩
  · exact rel_ren (c := c') (c' := c1) (fun _ h => h) hπ _ _ hrel
  · refine ⟨fun id cells hid => ?_, fun id id' b hid hid' hb hb' => ?_, hM'.imm⟩
    · rcases kinds id cells hid with ⟨j, cs, rfl, _, hcs, rfl⟩ | ⟨j, cs, hj, hlt', hm0, hcs, rfl, _⟩ | ⟨hp, hm⟩
      · rcases hM'.own j cs hcs with ⟨h0, rfl⟩ | ⟨b, arr, T, fz, hb, hni, hw, hf, us, rest, ha, hrl⟩
        · exact .inl ⟨(hc1n j (hjlt j (by rw [hcs]; rfl))).trans h0, rfl⟩
        · exact .inr ⟨b, arr, T, fz, (hc1n j (hjlt j (by rw [hcs]; rfl))).trans hb, hni, hw, hf, us, rest, ha, relL_ren (c := c') (c' := c1) (fun _ h => h) hπ _ _ hrl⟩
      · have hφ : c1.φ id = c'.φ j := by rw [hc1o id hlt', ← hφ0 j id hj]; exact ((hpers j (mget_bound hm0) (by rw [hcs]; rfl)).2).symm
        rcases hM'.own j cs hcs with ⟨h0, rfl⟩ | ⟨b, arr, T, fz, hb, hni, hw, hf, us, rest, ha, hrl⟩
        · exact .inl ⟨hφ.trans h0, rfl⟩
        · exact .inr ⟨b, arr, T, fz, hφ.trans hb, hni, hw, hf, us, rest, ha, relL_ren (c := c') (c' := c1) (fun _ h => h) hπ _ _ hrl⟩
      · have hmS : (mget m id).isSome := by rw [hm]; rfl
        refine (hM.own id cells hm).later hlater fun b hb => ?_
        have hno := notOwn0 id b hp hmS hb
        have hblt := hM.blk_lt ⟨id, hmS, hb⟩
        refine ⟨hs.keep b hblt hno, fun hi => ?_⟩
        rcases hs.imm' b hi with h1 | h1 | h1
        · exact hM.sep h1 ⟨id, hmS, hb⟩
        · exact hno h1
        · omega
    · obtain ⟨cells, hcells⟩ := Option.isSome_iff_exists.1 hid
      obtain ⟨cells', hcells'⟩ := Option.isSome_iff_exists.1 hid'
      have own' : ∀ j, (mget m' j).isSome → c'.φ j = .blk b → Own c0 m0 b ∨ w.heap.size ≤ b := fun j h1 h2 => ho b ⟨j, h1, h2⟩
      have hB : ∀ j i, pget ρ j = some i → ¬ (n ≤ i ∧ i < n + Nat.max (mbound m0) (mbound m')) → (mget m0 j).isSome → (mget m' j).isSome → c1.φ i = c'.φ j := fun j i hj hi h0 h1 => by
        rw [hc1o i hi, ← hφ0 j i hj]; exact ((hpers j (mget_bound h0) h1).2).symm
      rcases kinds id cells hcells with ⟨j, cs, rfl, hj0, hcs, _⟩ | ⟨j, cs, hj, hlt', hm0, hcs, _, hmS⟩ | ⟨hp, hm⟩
      · rw [hc1n j (hjlt j (by rw [hcs]; rfl))] at hb
        rcases kinds id' cells' hcells' with ⟨j', cs', rfl, hj0', hcs', _⟩ | ⟨j', cs', hj', hlt'', hm0', hcs', _, hmS'⟩ | ⟨hp', hm'⟩
        · rw [hc1n j' (hjlt j' (by rw [hcs']; rfl))] at hb'
          rw [hM'.inj j j' b (by rw [hcs]; rfl) (by rw [hcs']; rfl) hb hb']
        · exfalso
          rw [hB j' id' hj' hlt'' hm0' (by rw [hcs']; rfl)] at hb'
          have := hM'.inj j j' b (by rw [hcs]; rfl) (by rw [hcs']; rfl) hb hb'
          subst this
          rw [hj0] at hm0'
          cases hm0'
        · exfalso
          have hmS' : (mget m id').isSome := by rw [hm']; rfl
          rw [hc1o id' (hlt id' hmS')] at hb'
          rcases own' j (by rw [hcs]; rfl) hb with h1 | h1
          · exact notOwn0 id' b hp' hmS' hb' h1
          · have := hM.blk_lt ⟨id', hmS', hb'⟩; omega
      · have hb2 := hb
        rw [hB j id hj hlt' hm0 (by rw [hcs]; rfl)] at hb
        rw [hc1o id hlt'] at hb2
        rcases kinds id' cells' hcells' with ⟨j', cs', rfl, hj0', hcs', _⟩ | ⟨j', cs', hj', hlt'', hm0', hcs', _, hmS'⟩ | ⟨hp', hm'⟩
        · exfalso
          rw [hc1n j' (hjlt j' (by rw [hcs']; rfl))] at hb'
          have := hM'.inj j j' b (by rw [hcs]; rfl) (by rw [hcs']; rfl) hb hb'
          subst this
          rw [hj0'] at hm0
          cases hm0
        · rw [hc1o id' hlt''] at hb'
          exact hM.inj id id' b hmS hmS' hb2 hb'
        · have hmS' : (mget m id').isSome := by rw [hm']; rfl
          rw [hc1o id' (hlt id' hmS')] at hb'
          exact hM.inj id id' b hmS hmS' hb2 hb'
      · have hmS : (mget m id).isSome := by rw [hm]; rfl
        rw [hc1o id (hlt id hmS)] at hb
        rcases kinds id' cells' hcells' with ⟨j', cs', rfl, hj0', hcs', _⟩ | ⟨j', cs', hj', hlt'', hm0', hcs', _, hmS'⟩ | ⟨hp', hm'⟩
        · exfalso
          rw [hc1n j' (hjlt j' (by rw [hcs']; rfl))] at hb'
          rcases own' j' (by rw [hcs']; rfl) hb' with h1 | h1
          · exact notOwn0 id b hp hmS hb h1
          · have := hM.blk_lt ⟨id, hmS, hb⟩; omega
        · rw [hc1o id' hlt''] at hb'
          exact hM.inj id id' b hmS hmS' hb hb'
        · have hmS' : (mget m id').isSome := by rw [hm']; rfl
          rw [hc1o id' (hlt id' hmS')] at hb'
          exact hM.inj id id' b hmS hmS' hb hb'
  · have := hs.weaken hownc
    exact ⟨this.os, this.tape, this.output, this.size, this.keep, this.rows, this.imm, this.imm'⟩
  · rintro b ⟨id, hid, hb⟩
    obtain ⟨cells, hcells⟩ := Option.isSome_iff_exists.1 hid
    rcases kinds id cells hcells with ⟨j, cs, rfl, hj0, hcs, _⟩ | ⟨j, cs, hj, hlt', hm0, hcs, _, hmS⟩ | ⟨hp, hm⟩
    · rw [hc1n j (hjlt j (by rw [hcs]; rfl))] at hb
      rcases ho b ⟨j, by rw [hcs]; rfl, hb⟩ with h1 | h1
      · exact .inl (hownc b h1)
      · exact .inr h1
    · rw [hc1o id hlt'] at hb
      exact .inl ⟨id, hmS, hb⟩
    · have hmS : (mget m id).isSome := by rw [hm]; rfl
      rw [hc1o id (hlt id hmS)] at hb
      exact .inl ⟨id, hmS, hb⟩
  · intro id hid hm
    obtain ⟨cells, hcells⟩ := Option.isSome_iff_exists.1 hm
    rcases kinds id cells hcells with ⟨j, cs, rfl, _, hcs, _⟩ | ⟨j, cs, hj, hlt', hm0, hcs, _, hmS⟩ | ⟨hp, hm⟩
    · exact absurd ⟨Nat.le_add_right _ _, Nat.add_lt_add_left (hjlt j (by rw [hcs]; rfl)) n⟩ hid
    · exact hmS
    · rw [hm]; rfl

end Go.Jq
