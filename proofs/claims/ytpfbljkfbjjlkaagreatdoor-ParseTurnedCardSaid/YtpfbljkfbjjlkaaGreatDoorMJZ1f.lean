/- What the statement's proof leans on, part 6: the layer, the walks, the plain laws. -/
import Derived.Test.YtpfbljkfbjjlkaaGreatDoorMJZ1c
import Derived.Test.YtpfbljkfbjjlkaaGreatDoorMJZ1e
import Derived.Test.YtpfbljkfbjjlkaaGreatDoorMJZ1d
set_option linter.unusedSimpArgs false
set_option linter.unusedVariables false

/- The abstract layer: a region that draws its order, gone through in every order. -/
namespace Go.Jq
open Go
def stepG (P : Program) (o : AOper) (S : St) (K : St → Prop) : Prop :=
  match o.guard with
  | none => stepOp P o S K
  | some (g, want) => match fget S.t g with
    | .d (.bool b) => if b = want then stepOp P o S K else K ⟨putF S.t o.dst (.tup []), S.m, S.n⟩
    | .tup _ => K ⟨putF S.t o.dst (.tup []), S.m, S.n⟩
    | _ => False
def readyM (ms : List Nat) (L : Nat) : List Nat := (List.range ms.length).filter fun i => !L.testBit i && (ms.getD i 0 &&& L == ms.getD i 0)
def runAny (P : Program) (al : List AOper) (ms : List Nat) (K : St → Prop) : Nat → Nat → St → Prop
  | 0, L, S => readyM ms L = [] ∧ K S
  | f + 1, L, S => (readyM ms L = [] → K S) ∧ ∀ i ∈ readyM ms L, match al[i]? with
    | some ao => stepG P ao S (runAny P al ms K f (L ||| 2 ^ i))
    | none => False
theorem mask_bit (i : Nat) : ∀ (l : List Edge) (s : Nat), (s.testBit i = true ∨ ∃ e ∈ l, Region.binds .any e = true ∧ e.on = i) → (l.foldl (fun s e => if Region.binds .any e then s ||| 2 ^ e.on else s) s).testBit i = true
  | [], s, h => by
    rcases h with h | ⟨e, he, _⟩
    · exact h
    · cases he
  | e :: l, s, h => by
    simp only [List.foldl_cons]
    refine mask_bit i l _ ?_
    rcases h with h | ⟨e', he', h1, h2⟩
    · left
      split
      · rw [Nat.testBit_or, h]; rfl
      · exact h
    · rcases List.mem_cons.1 he' with rfl | he'
      · left
        rw [if_pos h1, Nat.testBit_or, h2, Nat.testBit_two_pow_self, Bool.or_true]
      · exact .inr ⟨e', he', h1, h2⟩
theorem and_eq_iff (m L : Nat) : (m &&& L == m) = true ↔ ∀ b, m.testBit b = true → L.testBit b = true := by
  rw [beq_iff_eq]
  constructor
  · intro h b hb
    rw [← h, Nat.testBit_and, Bool.and_eq_true] at hb
    exact hb.2
  · intro h
    apply Nat.eq_of_testBit_eq
    intro b
    rw [Nat.testBit_and]
    cases hb : m.testBit b with
    | false => rfl
    | true => rw [h b hb]; rfl
section
variable {P : Program} {k : Nat} {ops : Array Oper}
theorem ready_iff {listed : Array Bool} {L : Nat} (hsz : listed.size = ops.size) (hL : ∀ i, L.testBit i = listed.getD i false) (i : Nat) : i ∈ readyM (masksOf ops) L ↔ i ∈ Region.ready .any ops listed := by
  rw [mem_ready]
  unfold readyM
  rw [List.mem_filter, List.mem_range, Bool.and_eq_true, Bool.not_eq_true', and_eq_iff]
  have hlen : (masksOf ops).length = ops.size := by simp [masksOf]
  rw [hlen]
  constructor
  · rintro ⟨h1, h2, h3⟩
    have hi : i < listed.size := by omega
    refine ⟨?_, ops[i], by simp [h1], fun e he hb => ?_⟩
    · have := hL i
      rw [h2] at this
      simp [hi] at this ⊢
      exact this
    · rw [← hL]
      refine h3 _ ?_
      have : (masksOf ops).getD i 0 = (ops[i]).after.toList.foldl (fun s e => if Region.binds .any e then s ||| 2 ^ e.on else s) 0 := by
        simp [masksOf, h1]
      rw [this]
      exact mask_bit _ _ _ (.inr ⟨e, by simpa using he, hb, rfl⟩)
  · rintro ⟨h1, o, ho, h3⟩
    have hi : i < ops.size := (Array.getElem?_eq_some_iff.1 ho).1
    have hi' : i < listed.size := by omega
    refine ⟨hi, ?_, fun b hb => ?_⟩
    · rw [hL]
      simp [hi'] at h1 ⊢
      exact h1
    · have : (masksOf ops).getD i 0 = o.after.toList.foldl (fun s e => if Region.binds .any e then s ||| 2 ^ e.on else s) 0 := by
        have e : ops[i] = o := (Array.getElem?_eq_some_iff.1 ho).2
        simp [masksOf, hi, e]
      rw [this] at hb
      rcases mask_spec b _ _ hb with h | ⟨e, he, h4, h5⟩
      · simp at h
      · rw [hL, ← h5]
        exact h3 e (by simpa using he) h4
theorem ready_nil {listed : Array Bool} {L : Nat} (hsz : listed.size = ops.size) (hL : ∀ i, L.testBit i = listed.getD i false) : Region.ready .any ops listed = [] → readyM (masksOf ops) L = [] := by
  intro h
  rw [List.eq_nil_iff_forall_not_mem]
  intro i hi
  rw [ready_iff hsz hL, h] at hi
  cases hi
theorem runAny_sound {E : Env} {al : List AOper} {Q : Exit → Act → World → Prop} {K : St → Prop} (hc : cOpers P ops k ops.toList = some al) (hK : ∀ S' a' w', K S' → Conc E k S' a' w' → Q .normal a' w') :
    ∀ (fuel L : Nat) (listed : Array Bool) (S : St) (a : Act) (w : World), listed.size = ops.size → (∀ i, L.testBit i = listed.getD i false) → E.n ≤ S.n → Conc E k S a w → runAny P al (masksOf ops) K fuel L S →
      wpAny P .any ops Q fuel listed a w
  | 0, L, listed, S, a, w, hsz, hL, _, hcc, h => ⟨by
      rw [List.eq_nil_iff_forall_not_mem]
      intro i hi
      rw [← ready_iff hsz hL, h.1] at hi
      exact absurd hi (List.not_mem_nil), hK _ _ _ h.2 hcc⟩
  | fuel + 1, L, listed, S, a, w, hsz, hL, hn, hcc, h => by
    refine ⟨fun h0 => hK _ _ _ (h.1 (ready_nil hsz hL h0)) hcc, fun i hi => ?_⟩
    have h1 := h.2 i ((ready_iff hsz hL i).2 hi)
    obtain ⟨_, o, ho, _⟩ := mem_ready.1 hi
    have hco : ∃ ao, al[i]? = some ao ∧ cOper P ops k o = some ao := by
      have key : ∀ (l : List Oper) (al : List AOper), cOpers P ops k l = some al → ∀ (i : Nat) (o : Oper), l[i]? = some o → ∃ ao, al[i]? = some ao ∧ cOper P ops k o = some ao := by
        intro l
        induction l with
        | nil => intro al _ i o ho; simp at ho
        | cons x l ih =>
          intro al hc i o ho
          simp only [cOpers] at hc
          split at hc
          · rename_i ao r' e1 e2
            cases hc
            cases i with
            | zero => simp at ho; subst ho; exact ⟨ao, rfl, e1⟩
            | succ i => exact ih r' e2 i o (by simpa using ho)
          · cases hc
      exact key _ _ hc i o (by rw [Array.getElem?_toList]; exact ho)
    obtain ⟨ao, hao, hco⟩ := hco
    rw [hao] at h1
    simp only at h1
    have hsz' : (listed.setIfInBounds i true).size = ops.size := by simp [hsz]
    have hi' : i < listed.size := by rw [hsz]; exact (Array.getElem?_eq_some_iff.1 ho).1
    have hL' : ∀ j, (L ||| 2 ^ i).testBit j = (listed.setIfInBounds i true).getD j false := by
      intro j
      rw [Nat.testBit_or, Nat.testBit_two_pow]
      by_cases hij : i = j
      · subst hij
        simp [hi']
      · rw [getD_set_ne false hij, ← hL j]
        simp [hij]
    have next : ∀ S' a' w', runAny P al (masksOf ops) K fuel (L ||| 2 ^ i) S' → Conc E k S' a' w' → S.n ≤ S'.n → wpAny P .any ops Q fuel (listed.setIfInBounds i true) a' w' :=
      fun S' a' w' hs hc' hle => runAny_sound hc hK fuel _ _ S' a' w' hsz' hL' (Nat.le_trans hn hle) hc' hs
    obtain ⟨hg, hd, hdk⟩ := cOper_guard hco
    unfold wpOp
    simp only [ho]
    unfold stepG at h1
    split at h1
    · rename_i hgn
      rw [hgn] at hg
      rw [if_pos (guard_none hg _)]
      exact .inl (wp_step hco hn next hcc h1)
    · rename_i g want hgs
      rw [hgs] at hg
      split at h1
      · rename_i b hb
        obtain ⟨c, hcr, hp⟩ := id hcc
        have hw := guard_wanted hg hcr.fr hb
        split at h1
        · rename_i hbw
          rw [hw, if_pos (by simpa using hbw)]
          exact .inl (wp_step hco hn next hcc h1)
        · rename_i hbw
          rw [hw, if_neg (by simpa using hbw)]
          refine next ⟨putF S.t ao.dst (.tup []), S.m, S.n⟩ _ _ h1 ?_ (Nat.le_refl _)
          rw [hd]
          exact conc_put hcr hp hn hdk (.inl (rel_undef _ _)) hcr.mr (Step.refl _ _ _) (fun _ h => .inl h) (fun _ _ => rfl) (fun _ _ h => h) hcr.free rfl
      · rename_i cs hb
        obtain ⟨c, hcr, hp⟩ := hcc
        have hw := guard_tup hg hcr.fr hb
        rw [hw, if_neg (by simp)]
        refine next ⟨putF S.t ao.dst (.tup []), S.m, S.n⟩ _ _ h1 ?_ (Nat.le_refl _)
        rw [hd]
        exact conc_put hcr hp hn hdk (.inl (rel_undef _ _)) hcr.mr (Step.refl _ _ _) (fun _ h => .inl h) (fun _ _ => rfl) (fun _ _ h => h) hcr.free rfl
      · exact h1.elim
theorem awp_region_any {n0 : Nat} {S : St} {Q : Exit → St → Prop} {id : Nat} {al : List AOper} (hm : P.follows .mixedOrders = true) (hc : cOpers P ops k ops.toList = some al) (hn : n0 ≤ S.n)
    (h : runAny P al (masksOf ops) (fun S' => Q .normal S') (masksOf ops).length 0 S) : AWP P n0 k (.region id ops true) S Q := by
  intro E hE a w hcc
  refine wp_region_any hm ?_
  have hconc : Conc E k S a { w with drawn := w.drawn + 1 } := conc_drew hcc rfl rfl rfl rfl
  have hlen : (masksOf ops).length = ops.size := by simp [masksOf]
  rw [hlen] at h
  refine runAny_sound hc (K := fun S' => Q .normal S') (fun S' a' w' h1 h2 => ⟨S', h1, h2⟩) ops.size 0 _ S a _ (by simp) (fun i => ?_) (hE ▸ hn) hconc h
  rw [Nat.zero_testBit, Array.getD_eq_getD_getElem?]
  by_cases hi : i < ops.size
  · simp [hi]
  · rw [Array.getElem?_eq_none (by simpa using Nat.le_of_not_lt hi)]
    rfl
theorem bwp_region_any {n0 : Nat} {S : St} {Q : Exit → St → Prop} {al : List AOper} {ms : List Nat} (hm : P.follows .mixedOrders = true) (hn : decide (n0 ≤ S.n) = true) (h : runAny P al ms (fun S' => Q .normal S') ms.length 0 S) :
    BWP P n0 k (.region true al ms) S Q := by
  intro code hc
  cases code with
  | region id ops draw =>
    simp only [cCode] at hc
    split at hc
    · rename_i al' hal
      split at hc
      · rename_i hd
        split at hc
        · cases hc
          subst hd
          exact awp_region_any hm hal (of_decide_eq_true hn) h
        · cases hc
      · cases hc
    · cases hc
  | cond c a b => simp only [cCode] at hc; repeat' split at hc
                  all_goals cases hc
  | seq a b => simp only [cCode] at hc; repeat' split at hc
               all_goals cases hc
  | _ => simp [cCode] at hc
theorem runAny_step {al : List AOper} {ms : List Nat} {K : St → Prop} {f L : Nat} {S : St} (l : List Nat) (hl : readyM ms L = l) (hne : l ≠ []) (h : ∀ i ∈ l, match al[i]? with
    | some ao => stepG P ao S (runAny P al ms K f (L ||| 2 ^ i))
    | none => False) : runAny P al ms K (f + 1) L S := by
  subst hl
  exact ⟨fun h0 => absurd h0 hne, h⟩
theorem runAny_done {al : List AOper} {ms : List Nat} {K : St → Prop} {f L : Nat} {S : St} (hl : readyM ms L = []) (h : K S) : runAny P al ms K f L S := by
  cases f with
  | zero => exact ⟨hl, h⟩
  | succ f => exact ⟨fun _ => h, fun i hi => by rw [hl] at hi; cases hi⟩
theorem stepG_run {o : AOper} {S : St} {K : St → Prop} (h : runOps P [o] S K) : stepG P o S K := by
  unfold stepG
  simp only [runOps] at h
  exact h
theorem runAny_one {al : List AOper} {ms : List Nat} {K : St → Prop} {f L i : Nat} {S : St} {ao : AOper} (hl : readyM ms L = [i]) (ha : al[i]? = some ao) (h : runOps P [ao] S (runAny P al ms K f (L ||| 2 ^ i))) : runAny P al ms K (f + 1) L S := by
  refine runAny_step [i] hl (by simp) ?_
  intro j hj
  simp only [List.mem_cons, List.not_mem_nil, or_false] at hj
  subst hj
  rw [ha]
  exact stepG_run h
theorem runAny_two {al : List AOper} {ms : List Nat} {K : St → Prop} {f L i j : Nat} {S : St} {ao bo : AOper} (hl : readyM ms L = [i, j]) (ha : al[i]? = some ao) (hb : al[j]? = some bo)
    (h : runOps P [ao] S (runAny P al ms K f (L ||| 2 ^ i))) (h' : runOps P [bo] S (runAny P al ms K f (L ||| 2 ^ j))) : runAny P al ms K (f + 1) L S := by
  refine runAny_step [i, j] hl (by simp) ?_
  intro k hk
  simp only [List.mem_cons, List.not_mem_nil, or_false] at hk
  rcases hk with rfl | rfl
  · rw [ha]; exact stepG_run h
  · rw [hb]; exact stepG_run h'
end
end Go.Jq

/- The document's reader: look, is, go1, fail, eat. -/
namespace Go.Proofs.YtpfbljkfbjjlkaaGreatDoor
open Go Go.Jq
set_option maxRecDepth 100000
set_option linter.unusedSimpArgs false
theorem lkT_ok {r : RSt} (h : r.code = 0) : (lkT r).cells.map AV.d = [.d (.int .i64 r.tok.kd), .d (.str r.tok.tx), .d (.int .i64 r.tok.pl)] := by
  unfold lkT; rw [if_pos h]; rfl
theorem lkT_no {r : RSt} (h : r.code ≠ 0) : (lkT r).cells.map AV.d = [.d (.int .i64 4), .d (.str []), .d (.int .i64 0)] := by
  unfold lkT; rw [if_neg h]; rfl
set_option maxHeartbeats 4000000 in
theorem look_calls {s : List UInt8} (hs : s.length ≤ 140737488351232) {σ : PR Nat} {r : RSt} (h : RS s σ r) :
    ACalls Tryz.prog 46 [.ptr 0 0] [(0, rdC s r)] fun v m' => ∃ r', m' = [(0, rdC s r')] ∧ (v = .agg ((lkT r').cells.map .d) ∧ RL s σ r') := by
  have h34 : ldk Tryz.prog 67 = some (some 3) := by kernel_rfl
  rcases h with ⟨hc, hp, hσ⟩ | ⟨e, rfl, he⟩
  · have k1 := refNext_pure hs hp
    obtain ⟨pos, tok, to, code, eat⟩ := r
    simp only at hc hp hσ k1
    subst hc
    refine acalls_of Tryz.func46 ac46_ok Tryz.ntmps46 Tryz.results46 rfl ?_
    unfold ac46
    refine bwp_seq fun K hK => bwp_region rfl ?_
    simp -implicitDefEqProofs only [go_sem, ↓reduceIte]
    refine hK _ ?_; clear hK
    refine bwp_seq fun K1 hK1 => ?_
    refine bwp_seq fun K hK => bwp_region rfl ?_
    simp -implicitDefEqProofs only [go_sem, ↓reduceIte, rdC]
    refine hK _ ?_; clear hK
    refine bwp_cond false (by simp [ev, fget]) (fun h => nomatch h) (fun _ => ?_)
    refine bwp_skip ?_
    refine hK1 _ ?_; clear hK1
    by_cases h0 : (nextW s pos).2.2 = 0
    · have he : nextW s pos = ((nextW s pos).1, (nextW s pos).2.1, 0) := by rw [← h0]
      rw [nxV_ok he] at k1
      refine bwp_seq fun K hK => bwp_region_draw rfl rfl ?_
      simp -implicitDefEqProofs only [go_sem, ↓reduceIte]
      repeat' (first
        | (refine gateK_split (fun hb => ?_) (fun hb => ?_) <;> simp -implicitDefEqProofs only [go_sem, ↓reduceIte, hb])
        | (refine dGateK_split (fun hb => ?_) (fun hb => ?_) <;> simp -implicitDefEqProofs only [go_sem, ↓reduceIte, hb])
        | (refine callK_pure (k1) rfl rfl ?_; simp -implicitDefEqProofs only [go_sem, ↓reduceIte])
        | (refine dCallK_pure (k1) rfl rfl ?_; simp -implicitDefEqProofs only [go_sem, ↓reduceIte])
        | (rw [if_pos (by (try simp only [List.length_append, List.length_cons, List.length_nil, List.length_map]); omega)]; simp -implicitDefEqProofs only [go_sem, ↓reduceIte]))
      refine ⟨rfl, hK _ ?_⟩; clear hK
      refine bwp_seq fun K hK => bwp_region rfl ?_
      simp -implicitDefEqProofs only [go_sem, ↓reduceIte]
      refine hK _ ?_; clear hK
      refine bwp_seq fun K1 hK1 => ?_
      refine bwp_seq fun K hK => bwp_region rfl ?_
      simp -implicitDefEqProofs only [go_sem, ↓reduceIte]
      refine hK _ ?_; clear hK
      refine bwp_cond false (by simp [ev, fget]) (fun h => nomatch h) (fun _ => ?_)
      refine bwp_skip ?_
      refine hK1 _ ?_; clear hK1
      refine bwp_seq fun K hK => bwp_region rfl ?_
      simp -implicitDefEqProofs only [go_sem, ↓reduceIte]
      refine hK _ ?_; clear hK
      refine bwp_ret ?_
      simp only [go_sem]
      refine aend_mem (.agg ((lkT ⟨pos, (nextW s pos).1, (nextW s pos).2.1, 0, eat⟩).cells.map .d)) [(0, 0)] [(0, rdC s ⟨pos, (nextW s pos).1, (nextW s pos).2.1, 0, eat⟩)] ?_ rfl rfl ?_ ⟨⟨pos, (nextW s pos).1, (nextW s pos).2.1, 0, eat⟩, rfl, rfl, ?_⟩
      · rw [lkT_ok rfl]
        simp [resA, resVs, resV, fget, mget, mset, loadA, h34]
      · simp [entM, pinv, mget, mset, renL, AV.ren, rdC, pget]
      · rw [hσ]
        unfold goW
        rw [if_pos h0]
        exact ⟨rfl, rfl, hp, h0, rfl, rfl⟩
    · have hbad := curT_noTok h0
      have hne : ¬ (nextW s pos).2.2 = (0 : Int) := h0
      rw [nxV_bad h0 hbad] at k1
      refine bwp_seq fun K hK => bwp_region_draw rfl rfl ?_
      simp -implicitDefEqProofs only [go_sem, ↓reduceIte]
      repeat' (first
        | (refine gateK_split (fun hb => ?_) (fun hb => ?_) <;> simp -implicitDefEqProofs only [go_sem, ↓reduceIte, hb])
        | (refine dGateK_split (fun hb => ?_) (fun hb => ?_) <;> simp -implicitDefEqProofs only [go_sem, ↓reduceIte, hb])
        | (refine callK_pure (k1) rfl rfl ?_; simp -implicitDefEqProofs only [go_sem, ↓reduceIte])
        | (refine dCallK_pure (k1) rfl rfl ?_; simp -implicitDefEqProofs only [go_sem, ↓reduceIte])
        | (rw [if_pos (by (try simp only [List.length_append, List.length_cons, List.length_nil, List.length_map]); omega)]; simp -implicitDefEqProofs only [go_sem, ↓reduceIte]))
      refine ⟨rfl, hK _ ?_⟩; clear hK
      refine bwp_seq fun K hK => bwp_region rfl ?_
      simp -implicitDefEqProofs only [go_sem, ↓reduceIte]
      refine hK _ ?_; clear hK
      refine bwp_seq fun K1 hK1 => ?_
      refine bwp_seq fun K hK => bwp_region rfl ?_
      simp -implicitDefEqProofs only [go_sem, ↓reduceIte, eq_false hne]
      refine hK _ ?_; clear hK
      refine bwp_cond true (by simp [ev, fget]) (fun _ => ?_) (fun h => nomatch h)
      refine bwp_seq fun K hK => bwp_region rfl ?_
      simp -implicitDefEqProofs only [go_sem, ↓reduceIte]
      refine hK _ ?_; clear hK
      refine bwp_seq fun K hK => bwp_region rfl ?_
      simp -implicitDefEqProofs only [go_sem, ↓reduceIte]
      refine hK _ ?_; clear hK
      refine bwp_ret ?_
      simp only [go_sem]
      refine aend_mem (.agg ((lkT ⟨pos, noTok, (nextW s pos).2.1, (nextW s pos).2.2, skipA s pos⟩).cells.map .d)) [(0, 0)] [(0, rdC s ⟨pos, noTok, (nextW s pos).2.1, (nextW s pos).2.2, skipA s pos⟩)] ?_ rfl rfl ?_ ⟨⟨pos, noTok, (nextW s pos).2.1, (nextW s pos).2.2, skipA s pos⟩, rfl, rfl, ?_⟩
      · rw [lkT_no h0]
        simp [resA, resVs, resV, fget, mget, mset, loadA, h34]
      · simp [entM, pinv, mget, mset, renL, AV.ren, rdC, pget, noTok]
      · rw [hσ]
        unfold goW
        rw [if_neg h0]
        exact ⟨rfl, h0, rfl⟩
  · have hc : ¬ r.code = 0 := by rw [he.1]; exact he.2.1
    refine acalls_of Tryz.func46 ac46_ok Tryz.ntmps46 Tryz.results46 rfl ?_
    unfold ac46
    refine bwp_seq fun K hK => bwp_region rfl ?_
    simp -implicitDefEqProofs only [go_sem, ↓reduceIte]
    refine hK _ ?_; clear hK
    refine bwp_seq fun K1 hK1 => ?_
    refine bwp_seq fun K hK => bwp_region rfl ?_
    simp -implicitDefEqProofs only [go_sem, ↓reduceIte, rdC, eq_false hc]
    refine hK _ ?_; clear hK
    refine bwp_cond true (by simp [ev, fget]) (fun _ => ?_) (fun h => nomatch h)
    refine bwp_seq fun K hK => bwp_region rfl ?_
    simp -implicitDefEqProofs only [go_sem, ↓reduceIte]
    refine hK _ ?_; clear hK
    refine bwp_ret ?_
    simp only [go_sem]
    refine aend_mem (.agg ((lkT r).cells.map .d)) [(0, 0)] [(0, rdC s r)] ?_ rfl rfl ?_ ⟨r, rfl, rfl, he⟩
    · rw [lkT_no hc]
      simp [resA, resVs, resV, fget, mget, mset, loadA, h34]
    · simp [entM, pinv, mget, mset, renL, AV.ren, rdC, pget]
theorem look_callK {s : List UInt8} (hs : s.length ≤ 140737488351232) {σ : PR Nat} {r : RSt} (h : RS s σ r) {j : Nat} {dst : Option Nat} {ops : List AOper} {K : St → Prop} {t : Fr} {m : Mem} {n : Nat} (hm : mget m j = some (rdC s r))
    (hk : ∀ r', RL s σ r' → runOps Tryz.prog ops ⟨putF t dst (.agg ((lkT r').cells.map .d)), mset m j (rdC s r'), n + 1⟩ K) : callK Tryz.prog 46 [.ptr j 0] dst ops K t m n := by
  refine rd_callK (rest := []) (Q := fun v r' => v = .agg ((lkT r').cells.map .d) ∧ RL s σ r') (look_calls hs h) rfl ?_ hm ?_
  · rintro _ _ ⟨rfl, _⟩; rfl
  · rintro _ r' ⟨rfl, h⟩; exact hk r' h
set_option maxHeartbeats 4000000 in
theorem is2_calls {s : List UInt8} (hs : s.length ≤ 140737488351232) {σ : PR Nat} {r : RSt} (h : RS s σ r) (x : List UInt8) :
    ACalls Tryz.prog 40 [.ptr 0 0, .d (.str x)] [(0, rdC s r)] fun v m' => ∃ r', m' = [(0, rdC s r')] ∧ (v = .d (.bool (ikB r' x)) ∧ RL s σ r') := by
  refine acalls_of Tryz.func40 ac40_ok Tryz.ntmps40 Tryz.results40 rfl ?_
  unfold ac40
  refine bwp_seq fun K hK => bwp_region rfl ?_
  simp -implicitDefEqProofs only [go_sem, ↓reduceIte]
  refine hK _ ?_; clear hK
  refine bwp_seq fun K hK => bwp_region rfl ?_
  simp -implicitDefEqProofs only [go_sem, ↓reduceIte]
  refine look_callK hs h rfl ?_
  intro q hq
  by_cases h0 : q.code = 0
  · rw [lkT_ok h0]
    simp -implicitDefEqProofs only [go_sem, ↓reduceIte, mset]
    refine hK _ ?_; clear hK
    by_cases h3 : q.tok.kd = 3
    · have h1 : ¬ q.tok.kd = 1 := by omega
      refine bwp_seq fun K hK => bwp_region rfl ?_
      simp -implicitDefEqProofs only [go_sem, ↓reduceIte, eq_true h0, eq_true h3, eq_false h1, rdC, decide_true, decide_false]
      refine hK _ ?_; clear hK
      refine bwp_ret ?_
      simp only [go_sem]
      refine aend_mem (.d (.bool (ikB q x))) [(0, 0)] [(0, rdC s q)] ?_ rfl rfl ?_ ⟨q, rfl, rfl, hq⟩
      · simp [resA, resVs, resV, fget, ikB, isK, h0, h3]
      · simp [entM, pinv, mget, mset, renL, AV.ren, rdC, pget]
    · by_cases h1 : q.tok.kd = 1
      · refine bwp_seq fun K hK => bwp_region rfl ?_
        simp -implicitDefEqProofs only [go_sem, ↓reduceIte, eq_true h0, eq_true h1, eq_false h3, rdC, decide_true]
        refine hK _ ?_; clear hK
        refine bwp_ret ?_
        simp only [go_sem]
        refine aend_mem (.d (.bool (ikB q x))) [(0, 0)] [(0, rdC s q)] ?_ rfl rfl ?_ ⟨q, rfl, rfl, hq⟩
        · simp [resA, resVs, resV, fget, ikB, isK, h0, h1]
        · simp [entM, pinv, mget, mset, renL, AV.ren, rdC, pget]
      · refine bwp_seq fun K hK => bwp_region rfl ?_
        simp -implicitDefEqProofs only [go_sem, ↓reduceIte, eq_true h0, eq_false h1, eq_false h3, rdC, decide_true, decide_false]
        refine hK _ ?_; clear hK
        refine bwp_ret ?_
        simp only [go_sem]
        refine aend_mem (.d (.bool (ikB q x))) [(0, 0)] [(0, rdC s q)] ?_ rfl rfl ?_ ⟨q, rfl, rfl, hq⟩
        · simp [resA, resVs, resV, fget, ikB, isK, h0, h1, h3]
        · simp [entM, pinv, mget, mset, renL, AV.ren, rdC, pget]
  · rw [lkT_no h0]
    simp -implicitDefEqProofs only [go_sem, ↓reduceIte, mset]
    refine hK _ ?_; clear hK
    refine bwp_seq fun K hK => bwp_region rfl ?_
    simp -implicitDefEqProofs only [go_sem, ↓reduceIte, eq_false h0, rdC, decide_false]
    refine hK _ ?_; clear hK
    refine bwp_ret ?_
    simp only [go_sem]
    refine aend_mem (.d (.bool (ikB q x))) [(0, 0)] [(0, rdC s q)] ?_ rfl rfl ?_ ⟨q, rfl, rfl, hq⟩
    · simp [resA, resVs, resV, fget, ikB, h0]
    · simp [entM, pinv, mget, mset, renL, AV.ren, rdC, pget]
theorem is2_callK {s : List UInt8} (hs : s.length ≤ 140737488351232) {σ : PR Nat} {r : RSt} (h : RS s σ r) (x : List UInt8) {j : Nat} {dst : Option Nat} {ops : List AOper} {K : St → Prop} {t : Fr} {m : Mem} {n : Nat} (hm : mget m j = some (rdC s r))
    (hk : ∀ r', RL s σ r' → runOps Tryz.prog ops ⟨putF t dst (.d (.bool (ikB r' x))), mset m j (rdC s r'), n + 1⟩ K) : callK Tryz.prog 40 [.ptr j 0, .d (.str x)] dst ops K t m n := by
  refine rd_callK (rest := [.d (.str x)]) (Q := fun v r' => v = .d (.bool (ikB r' x)) ∧ RL s σ r') (is2_calls hs h x) rfl ?_ hm ?_
  · rintro _ _ ⟨rfl, _⟩; rfl
  · rintro _ r' ⟨rfl, h⟩; exact hk r' h
theorem go_calls (s : List UInt8) (r : RSt) : ACalls Tryz.prog 41 [.ptr 0 0] [(0, rdC s r)] fun v m' => ∃ r', m' = [(0, rdC s r')] ∧ (v = .tup [] ∧ r' = goR r) := by
  refine acalls_of Tryz.func41 ac41_ok Tryz.ntmps41 Tryz.results41 rfl ?_
  unfold ac41
  refine bwp_region rfl ?_
  simp -implicitDefEqProofs only [go_sem, ↓reduceIte, rdC]
  refine ⟨.tup [], rfl, [(0, 0)], [(0, rdC s (goR r))], rfl, rfl, ?_, ⟨_, rfl, rfl, rfl⟩⟩
  simp [entM, pinv, mget, mset, renL, AV.ren, rdC, pget, goR]
theorem go_callK (s : List UInt8) (r : RSt) {j : Nat} {dst : Option Nat} {ops : List AOper} {K : St → Prop} {t : Fr} {m : Mem} {n : Nat} (hm : mget m j = some (rdC s r))
    (hk : runOps Tryz.prog ops ⟨putF t dst (.tup []), mset m j (rdC s (goR r)), n + 1⟩ K) : callK Tryz.prog 41 [.ptr j 0] dst ops K t m n := by
  refine rd_callK (rest := []) (Q := fun v r' => v = .tup [] ∧ r' = goR r) (go_calls s r) rfl ?_ hm ?_
  · rintro _ _ ⟨rfl, _⟩; rfl
  · rintro _ r' ⟨rfl, rfl⟩; exact hk
theorem fail2_calls (s : List UInt8) (q : RSt) (c : Int) : ACalls Tryz.prog 47 [.ptr 0 0, .d (.int .i64 c)] [(0, rdC s q)] fun r m' => ∃ q', m' = [(0, rdC s q')] ∧ (r = .tup [] ∧ q' = failR q c) := by
  by_cases h : q.code = 0
  · have hf : failR q c = { q with code := c, eat := q.tok.pl } := by unfold failR; rw [if_pos h]
    rw [hf]
    refine acalls_of Tryz.func47 ac47_ok Tryz.ntmps47 Tryz.results47 rfl ?_
    unfold ac47
    refine bwp_seq fun K hK => bwp_region rfl ?_
    simp -implicitDefEqProofs only [go_sem, ↓reduceIte, rdC, h]
    refine hK _ ?_; clear hK
    refine bwp_cond true (by simp [ev, fget]) (fun _ => ?_) (fun h => nomatch h)
    refine bwp_region rfl ?_
    simp -implicitDefEqProofs only [go_sem, ↓reduceIte]
    refine ⟨.tup [], rfl, [(0, 0)], [(0, rdC s { q with code := c, eat := q.tok.pl })], rfl, rfl, ?_, ⟨_, rfl, rfl, rfl⟩⟩
    simp [entM, pinv, mget, mset, renL, AV.ren, rdC, pget]
  · have hf : failR q c = q := by unfold failR; rw [if_neg h]
    rw [hf]
    refine acalls_of Tryz.func47 ac47_ok Tryz.ntmps47 Tryz.results47 rfl ?_
    unfold ac47
    refine bwp_seq fun K hK => bwp_region rfl ?_
    simp -implicitDefEqProofs only [go_sem, ↓reduceIte, rdC, h]
    refine hK _ ?_; clear hK
    refine bwp_cond false (by simp [ev, fget]) (fun h => nomatch h) (fun _ => ?_)
    refine bwp_skip ?_
    refine ⟨.tup [], rfl, [(0, 0)], [(0, rdC s q)], rfl, rfl, ?_, ⟨_, rfl, rfl, rfl⟩⟩
    simp [entM, pinv, mget, mset, renL, AV.ren, rdC, pget]
theorem fail2_callK (s : List UInt8) (q : RSt) (c : Int) {j : Nat} {dst : Option Nat} {ops : List AOper} {K : St → Prop} {t : Fr} {m : Mem} {n : Nat} (hm : mget m j = some (rdC s q))
    (hk : runOps Tryz.prog ops ⟨putF t dst (.tup []), mset m j (rdC s (failR q c)), n + 1⟩ K) : callK Tryz.prog 47 [.ptr j 0, .d (.int .i64 c)] dst ops K t m n := by
  refine rd_callK (rest := [.d (.int .i64 c)]) (Q := fun r q' => r = .tup [] ∧ q' = failR q c) (fail2_calls s q c) rfl ?_ hm ?_
  · rintro _ _ ⟨rfl, _⟩; rfl
  · rintro _ q' ⟨rfl, rfl⟩; exact hk
theorem eat2_calls {s : List UInt8} (hs : s.length ≤ 140737488351232) {σ : PR Nat} {r : RSt} (h : RS s σ r) (x : List UInt8) :
    ACalls Tryz.prog 38 [.ptr 0 0, .d (.str x)] [(0, rdC s r)] fun v m' => ∃ r', m' = [(0, rdC s r')] ∧ (v = .tup [] ∧ RQ s (thn σ ((tMust x).run s)) () r') := by
  refine acalls_of Tryz.func38 ac38_ok Tryz.ntmps38 Tryz.results38 rfl ?_
  unfold ac38
  refine bwp_seq fun K1 hK1 => ?_
  refine bwp_seq fun K hK => bwp_region rfl ?_
  simp -implicitDefEqProofs only [go_sem, ↓reduceIte]
  refine is2_callK hs h x rfl ?_
  intro q hq
  simp -implicitDefEqProofs only [go_sem, ↓reduceIte, mset]
  refine hK _ ?_; clear hK
  cases hb : ikB q x with
  | true =>
    refine bwp_cond true (by simp [ev, fget]) (fun _ => ?_) (fun h => nomatch h)
    refine bwp_seq fun K hK => bwp_region rfl ?_
    simp -implicitDefEqProofs only [go_sem, ↓reduceIte]
    refine go_callK s q rfl ?_
    simp -implicitDefEqProofs only [go_sem, ↓reduceIte, mset]
    refine hK _ ?_; clear hK
    refine bwp_ret ?_
    simp -implicitDefEqProofs only [go_sem, ↓reduceIte]
    refine ⟨.tup [], rfl, [(0, 0)], [(0, rdC s (goR q))], rfl, rfl, ?_, ⟨_, rfl, rfl, ?_⟩⟩
    · simp [entM, pinv, mget, mset, renL, AV.ren, rdC, pget]
    · obtain ⟨a, rfl, h4, hc⟩ := ikB_ok hq hb
      exact RQ.take_yes (x := x) (no := .bad 6) hq hb (RQ.ret hq.go)
  | false =>
    refine bwp_cond false (by simp [ev, fget]) (fun h => nomatch h) (fun _ => ?_)
    refine bwp_skip ?_
    refine hK1 _ ?_; clear hK1
    refine bwp_region rfl ?_
    simp -implicitDefEqProofs only [go_sem, ↓reduceIte]
    refine fail2_callK s q 6 rfl ?_
    simp -implicitDefEqProofs only [go_sem, ↓reduceIte, mset]
    refine ⟨.tup [], rfl, [(0, 0)], [(0, rdC s (failR q 6))], rfl, rfl, ?_, ⟨_, rfl, rfl, ?_⟩⟩
    · simp [entM, pinv, mget, mset, renL, AV.ren, rdC, pget]
    · exact RQ.take_no (x := x) (yes := .ret ()) hq hb (RQ.bad hq (by decide) ())
theorem eat2_callK {s : List UInt8} (hs : s.length ≤ 140737488351232) {σ : PR Nat} {r : RSt} (h : RS s σ r) (x : List UInt8) {j : Nat} {dst : Option Nat} {ops : List AOper} {K : St → Prop} {t : Fr} {m : Mem} {n : Nat} (hm : mget m j = some (rdC s r))
    (hk : ∀ r', RQ s (thn σ ((tMust x).run s)) () r' → runOps Tryz.prog ops ⟨putF t dst (.tup []), mset m j (rdC s r'), n + 1⟩ K) : callK Tryz.prog 38 [.ptr j 0, .d (.str x)] dst ops K t m n := by
  refine rd_callK (rest := [.d (.str x)]) (Q := fun v r' => v = .tup [] ∧ RQ s (thn σ ((tMust x).run s)) () r') (eat2_calls hs h x) rfl ?_ hm ?_
  · rintro _ _ ⟨rfl, _⟩; rfl
  · rintro _ r' ⟨rfl, h⟩; exact hk r' h
end Go.Proofs.YtpfbljkfbjjlkaaGreatDoor

/- The document's reader: words, numbers, names, operands. -/
namespace Go.Proofs.YtpfbljkfbjjlkaaGreatDoor
open Go Go.Jq
set_option maxRecDepth 100000
set_option linter.unusedSimpArgs false
theorem RL.pos {s : List UInt8} {σ : PR Nat} {r : RSt} (h : RL s σ r) (hc : r.code = 0) : (r.tok.kd = 1 → r.tok.tx ≠ []) ∧ r.tok.tx.length ≤ s.length ∧ (r.tok.kd = 2 → (refW r.tok.tx).1 = (parseW r.tok.tx).1) := by
  cases σ with
  | error e => exact absurd hc h.codeE
  | ok a =>
    obtain ⟨h1, h2, h3, h4, h5, h6⟩ := h
    have hp := curT_pos h3 h4
    rw [h5]
    refine ⟨hp.1, hp.2, fun hk => ?_⟩
    have hok : (parseW (curT s a).tx).2 = true := by
      have h0 : (nextW s a).2.2 = 0 := h4
      unfold curT nextW at *
      generalize s.drop (skipA s a) = l at *
      cases l with
      | nil => simp [tokAt] at hk
      | cons c r =>
        rw [tokAt] at hk h0 ⊢
        split
        · rename_i hc'
          rw [if_pos hc'] at hk
          simp at hk
        · rename_i hc'
          rw [if_neg hc'] at hk h0
          split
          · rename_i hd
            rw [if_pos hd] at hk h0
            split
            · rename_i hpw; exact hpw
            · rename_i hpw
              rw [if_neg hpw] at h0
              simp at h0
          · rename_i hd
            rw [if_neg hd] at hk h0
            split
            · rename_i hs
              rw [if_pos hs] at h0
              simp at h0
            · rename_i hs
              rw [if_neg hs] at hk
              simp at hk
    have := numW_eq (curT s a).tx
    unfold numW at this
    cases hr : (refW (curT s a).tx).2 with
    | true => rw [if_pos hr] at this; rw [this]
    | false =>
      rw [if_neg (by rw [hr]; decide)] at this
      rw [← this] at hok
      cases hok
set_option maxHeartbeats 4000000 in
theorem word2_calls {s : List UInt8} (hs : s.length ≤ 140737488351232) {σ : PR Nat} {r : RSt} (h : RS s σ r) :
    ACalls Tryz.prog 39 [.ptr 0 0] [(0, rdC s r)] fun v m' => ∃ r', m' = [(0, rdC s r')] ∧ ∃ x, v = .d (.str x) ∧ RQ s (thn σ (tWord.run s)) x r' := by
  refine acalls_of Tryz.func39 ac39_ok Tryz.ntmps39 Tryz.results39 rfl ?_
  unfold ac39
  refine bwp_seq fun K hK => bwp_region rfl ?_
  simp -implicitDefEqProofs only [go_sem, ↓reduceIte]
  refine hK _ ?_; clear hK
  refine bwp_seq fun K hK => bwp_region rfl ?_
  simp -implicitDefEqProofs only [go_sem, ↓reduceIte]
  refine look_callK hs h rfl ?_
  intro q hq
  have bad : ∀ {y : List UInt8}, (q.code = 0 → q.tok.kd ≠ 1) → RQ s (thn σ (tWord.run s)) y (failR q 6) := by
    intro y hn
    cases σ with
    | error e => exact (hq.fail (by decide) (α := Unit)).rs
    | ok a =>
      refine RQ.cur hq ?_
      rw [if_neg (hn hq.code)]
      exact RQ.bad hq (by decide) _
  by_cases h0 : q.code = 0
  · rw [lkT_ok h0]
    simp -implicitDefEqProofs only [go_sem, ↓reduceIte, mset]
    refine hK _ ?_; clear hK
    refine bwp_seq fun K1 hK1 => ?_
    by_cases h1 : q.tok.kd = 1
    · refine bwp_seq fun K hK => bwp_region rfl ?_
      simp -implicitDefEqProofs only [go_sem, ↓reduceIte, eq_true h0, eq_true h1, rdC, decide_true]
      refine hK _ ?_; clear hK
      refine bwp_cond false (by simp [ev, fget]) (fun h => nomatch h) (fun _ => ?_)
      refine bwp_skip ?_
      refine hK1 _ ?_; clear hK1
      refine bwp_seq fun K hK => bwp_region rfl ?_
      simp -implicitDefEqProofs only [go_sem, ↓reduceIte]
      refine go_callK s q rfl ?_
      simp -implicitDefEqProofs only [go_sem, ↓reduceIte, mset]
      refine hK _ ?_; clear hK
      refine bwp_seq fun K hK => bwp_region rfl ?_
      simp -implicitDefEqProofs only [go_sem, ↓reduceIte]
      refine hK _ ?_; clear hK
      refine bwp_ret ?_
      simp only [go_sem]
      refine aend_mem (.d (.str q.tok.tx)) [(0, 0)] [(0, rdC s (goR q))] ?_ rfl rfl ?_ ⟨_, rfl, q.tok.tx, rfl, ?_⟩
      · simp [resA, resVs, resV, fget]
      · simp [entM, pinv, mget, mset, renL, AV.ren, rdC, pget]
      · refine RQ.cur hq ?_
        rw [if_pos h1]
        exact RQ.eat (RQ.ret (hq.goT h0))
    · refine bwp_seq fun K hK => bwp_region rfl ?_
      simp -implicitDefEqProofs only [go_sem, ↓reduceIte, eq_true h0, eq_false h1, rdC, decide_true, decide_false]
      refine hK _ ?_; clear hK
      refine bwp_cond true (by simp [ev, fget]) (fun _ => ?_) (fun h => nomatch h)
      refine bwp_seq fun K hK => bwp_region rfl ?_
      simp -implicitDefEqProofs only [go_sem, ↓reduceIte]
      refine fail2_callK s q 6 rfl ?_
      simp -implicitDefEqProofs only [go_sem, ↓reduceIte, mset]
      refine hK _ ?_; clear hK
      refine bwp_seq fun K hK => bwp_region rfl ?_
      simp -implicitDefEqProofs only [go_sem, ↓reduceIte]
      refine hK _ ?_; clear hK
      refine bwp_ret ?_
      simp only [go_sem]
      refine aend_mem (.d (.str [])) [(0, 0)] [(0, rdC s (failR q 6))] ?_ rfl rfl ?_ ⟨_, rfl, [], rfl, bad fun _ => h1⟩
      · simp [resA, resVs, resV, fget]
      · simp [entM, pinv, mget, mset, renL, AV.ren, rdC, pget]
  · rw [lkT_no h0]
    simp -implicitDefEqProofs only [go_sem, ↓reduceIte, mset]
    refine hK _ ?_; clear hK
    refine bwp_seq fun K1 hK1 => ?_
    refine bwp_seq fun K hK => bwp_region rfl ?_
    simp -implicitDefEqProofs only [go_sem, ↓reduceIte, eq_false h0, rdC, decide_false]
    refine hK _ ?_; clear hK
    refine bwp_cond true (by simp [ev, fget]) (fun _ => ?_) (fun h => nomatch h)
    refine bwp_seq fun K hK => bwp_region rfl ?_
    simp -implicitDefEqProofs only [go_sem, ↓reduceIte]
    refine fail2_callK s q 6 rfl ?_
    simp -implicitDefEqProofs only [go_sem, ↓reduceIte, mset]
    refine hK _ ?_; clear hK
    refine bwp_seq fun K hK => bwp_region rfl ?_
    simp -implicitDefEqProofs only [go_sem, ↓reduceIte]
    refine hK _ ?_; clear hK
    refine bwp_ret ?_
    simp only [go_sem]
    refine aend_mem (.d (.str [])) [(0, 0)] [(0, rdC s (failR q 6))] ?_ rfl rfl ?_ ⟨_, rfl, [], rfl, bad fun h => absurd h h0⟩
    · simp [resA, resVs, resV, fget]
    · simp [entM, pinv, mget, mset, renL, AV.ren, rdC, pget]
theorem word2_callK {s : List UInt8} (hs : s.length ≤ 140737488351232) {σ : PR Nat} {r : RSt} (h : RS s σ r) {j : Nat} {dst : Option Nat} {ops : List AOper} {K : St → Prop} {t : Fr} {m : Mem} {n : Nat} (hm : mget m j = some (rdC s r))
    (hk : ∀ x r', RQ s (thn σ (tWord.run s)) x r' → runOps Tryz.prog ops ⟨putF t dst (.d (.str x)), mset m j (rdC s r'), n + 1⟩ K) : callK Tryz.prog 39 [.ptr j 0] dst ops K t m n := by
  refine rd_callK (rest := []) (Q := fun v r' => ∃ x, v = .d (.str x) ∧ RQ s (thn σ (tWord.run s)) x r') (word2_calls hs h) rfl ?_ hm ?_
  · rintro _ _ ⟨_, rfl, _⟩; rfl
  · rintro _ r' ⟨x, rfl, h⟩; exact hk x r' h
def NumF (s : List UInt8) (σ : PR Nat) (x : Int) (r : RSt) : Prop :=
  (r.code = 0 ∧ ∃ a, σ = .ok a ∧ (curT s a).kd = 2 ∧ x = (parseW (curT s a).tx).1 ∧ r.tok.pl = (curT s a).pl ∧ RS s (eatW s a) r) ∨ (r.code ≠ 0 ∧ ∀ a, σ = .ok a → (curT s a).kd ≠ 2)
theorem u8_sub48 (c : UInt8) (h : (48 : Int) ≤ c.toNat) (h2 : (c.toNat : Int) ≤ 51) : IntKind.u8.wrap ((c.toNat : Int) - 48) = ((c.toNat - 48 : Nat) : Int) := by
  rw [IntKind.wrap]; simp [IntKind.bits]; omega
set_option maxHeartbeats 4000000 in
theorem num2_calls {s : List UInt8} (hs : s.length ≤ 4000) {σ : PR Nat} {r : RSt} (h : RS s σ r) :
    ACalls Tryz.prog 43 [.ptr 0 0] [(0, rdC s r)] fun v m' => ∃ r', m' = [(0, rdC s r')] ∧ ∃ x, v = .d (.int .i64 x) ∧ RQ s (thn σ (tNum.run s)) x r' ∧ NumF s σ x r' := by
  have hs' : s.length ≤ 140737488351232 := by omega
  refine acalls_of Tryz.func43 ac43_ok Tryz.ntmps43 Tryz.results43 rfl ?_
  unfold ac43
  refine bwp_seq fun K hK => bwp_region rfl ?_
  simp -implicitDefEqProofs only [go_sem, ↓reduceIte]
  refine hK _ ?_; clear hK
  refine bwp_seq fun K hK => bwp_region rfl ?_
  simp -implicitDefEqProofs only [go_sem, ↓reduceIte]
  refine look_callK hs' h rfl ?_
  intro q hq
  have bad : ∀ {y : Int}, (q.code = 0 → q.tok.kd ≠ 2) → RQ s (thn σ (tNum.run s)) y (failR q 6) := by
    intro y hn
    cases σ with
    | error e => exact (hq.fail (by decide) (α := Unit)).rs
    | ok a =>
      refine RQ.cur hq ?_
      rw [if_neg (hn hq.code)]
      exact RQ.bad hq (by decide) _
  by_cases h0 : q.code = 0
  · rw [lkT_ok h0]
    have hp := hq.pos h0
    have kp := refParse_pure (s := q.tok.tx) (Nat.le_trans hp.2.1 (Nat.le_trans hs (by decide)))
    simp -implicitDefEqProofs only [go_sem, ↓reduceIte, mset]
    refine hK _ ?_; clear hK
    refine bwp_seq fun K1 hK1 => ?_
    by_cases h1 : q.tok.kd = 2
    · rw [hp.2.2 h1] at kp
      refine bwp_seq fun K hK => bwp_region rfl ?_
      simp -implicitDefEqProofs only [go_sem, ↓reduceIte, eq_true h0, eq_true h1, rdC, decide_true]
      refine hK _ ?_; clear hK
      refine bwp_cond false (by simp [ev, fget]) (fun h => nomatch h) (fun _ => ?_)
      refine bwp_skip ?_
      refine hK1 _ ?_; clear hK1
      refine bwp_seq fun K hK => bwp_region rfl ?_
      simp -implicitDefEqProofs only [go_sem, ↓reduceIte]
      refine go_callK s q rfl ?_
      simp -implicitDefEqProofs only [go_sem, ↓reduceIte, mset]
      refine hK _ ?_; clear hK
      refine bwp_seq fun K hK => bwp_region rfl ?_
      simp -implicitDefEqProofs only [go_sem, ↓reduceIte]
      repeat' (first
        | (refine gateK_split (fun hb => ?_) (fun hb => ?_) <;> simp -implicitDefEqProofs only [go_sem, ↓reduceIte, hb])
        | (refine dGateK_split (fun hb => ?_) (fun hb => ?_) <;> simp -implicitDefEqProofs only [go_sem, ↓reduceIte, hb])
        | (refine callK_pure (kp) rfl rfl ?_; simp -implicitDefEqProofs only [go_sem, ↓reduceIte])
        | (refine dCallK_pure (kp) rfl rfl ?_; simp -implicitDefEqProofs only [go_sem, ↓reduceIte])
        | (rw [if_pos (by (try simp only [List.length_append, List.length_cons, List.length_nil, List.length_map]); omega)]; simp -implicitDefEqProofs only [go_sem, ↓reduceIte]))
      refine hK _ ?_; clear hK
      refine bwp_seq fun K hK => bwp_region rfl ?_
      simp -implicitDefEqProofs only [go_sem, ↓reduceIte]
      refine hK _ ?_; clear hK
      refine bwp_ret ?_
      simp only [go_sem]
      refine aend_mem (.d (.int .i64 (parseW q.tok.tx).1)) [(0, 0)] [(0, rdC s (goR q))] ?_ rfl rfl ?_ ⟨_, rfl, _, rfl, ?_, ?_⟩
      · simp [resA, resVs, resV, fget]
      · simp [entM, pinv, mget, mset, renL, AV.ren, rdC, pget]
      · refine RQ.cur hq ?_
        rw [if_pos h1]
        exact RQ.eat (RQ.ret (hq.goT h0))
      · cases σ with
        | error e => exact absurd h0 hq.codeE
        | ok a =>
          have ht := hq.2.2.2.2.1
          exact .inl ⟨h0, a, rfl, by rw [← ht]; exact h1, by rw [← ht], by rw [← ht]; rfl, hq.go⟩
    · refine bwp_seq fun K hK => bwp_region rfl ?_
      simp -implicitDefEqProofs only [go_sem, ↓reduceIte, eq_true h0, eq_false h1, rdC, decide_true, decide_false]
      refine hK _ ?_; clear hK
      refine bwp_cond true (by simp [ev, fget]) (fun _ => ?_) (fun h => nomatch h)
      refine bwp_seq fun K hK => bwp_region rfl ?_
      simp -implicitDefEqProofs only [go_sem, ↓reduceIte]
      refine fail2_callK s q 6 rfl ?_
      simp -implicitDefEqProofs only [go_sem, ↓reduceIte, mset]
      refine hK _ ?_; clear hK
      refine bwp_seq fun K hK => bwp_region rfl ?_
      simp -implicitDefEqProofs only [go_sem, ↓reduceIte]
      refine hK _ ?_; clear hK
      refine bwp_ret ?_
      simp only [go_sem]
      refine aend_mem (.d (.int .i64 0)) [(0, 0)] [(0, rdC s (failR q 6))] ?_ rfl rfl ?_ ⟨_, rfl, 0, rfl, bad fun _ => h1, .inr ⟨failR_code (by decide), fun a ha => by subst ha; rw [← hq.2.2.2.2.1]; exact h1⟩⟩
      · simp [resA, resVs, resV, fget]
      · simp [entM, pinv, mget, mset, renL, AV.ren, rdC, pget]
  · rw [lkT_no h0]
    simp -implicitDefEqProofs only [go_sem, ↓reduceIte, mset]
    refine hK _ ?_; clear hK
    refine bwp_seq fun K1 hK1 => ?_
    refine bwp_seq fun K hK => bwp_region rfl ?_
    simp -implicitDefEqProofs only [go_sem, ↓reduceIte, eq_false h0, rdC, decide_false]
    refine hK _ ?_; clear hK
    refine bwp_cond true (by simp [ev, fget]) (fun _ => ?_) (fun h => nomatch h)
    refine bwp_seq fun K hK => bwp_region rfl ?_
    simp -implicitDefEqProofs only [go_sem, ↓reduceIte]
    refine fail2_callK s q 6 rfl ?_
    simp -implicitDefEqProofs only [go_sem, ↓reduceIte, mset]
    refine hK _ ?_; clear hK
    refine bwp_seq fun K hK => bwp_region rfl ?_
    simp -implicitDefEqProofs only [go_sem, ↓reduceIte]
    refine hK _ ?_; clear hK
    refine bwp_ret ?_
    simp only [go_sem]
    refine aend_mem (.d (.int .i64 0)) [(0, 0)] [(0, rdC s (failR q 6))] ?_ rfl rfl ?_ ⟨_, rfl, 0, rfl, bad fun h => absurd h h0, .inr ⟨failR_code (by decide), fun a ha => by subst ha; exact absurd hq.code h0⟩⟩
    · simp [resA, resVs, resV, fget]
    · simp [entM, pinv, mget, mset, renL, AV.ren, rdC, pget]
theorem num2_callK {s : List UInt8} (hs : s.length ≤ 4000) {σ : PR Nat} {r : RSt} (h : RS s σ r) {j : Nat} {dst : Option Nat} {ops : List AOper} {K : St → Prop} {t : Fr} {m : Mem} {n : Nat} (hm : mget m j = some (rdC s r))
    (hk : ∀ x r', RQ s (thn σ (tNum.run s)) x r' → NumF s σ x r' → runOps Tryz.prog ops ⟨putF t dst (.d (.int .i64 x)), mset m j (rdC s r'), n + 1⟩ K) : callK Tryz.prog 43 [.ptr j 0] dst ops K t m n := by
  refine rd_callK (rest := []) (Q := fun v r' => ∃ x, v = .d (.int .i64 x) ∧ RQ s (thn σ (tNum.run s)) x r' ∧ NumF s σ x r') (num2_calls hs h) rfl ?_ hm ?_
  · rintro _ _ ⟨_, rfl, _⟩; rfl
  · rintro _ r' ⟨x, rfl, h, h'⟩; exact hk x r' h h'
set_option maxHeartbeats 4000000 in
theorem loc2_calls {s : List UInt8} (hs : s.length ≤ 140737488351232) {σ : PR Nat} {r : RSt} (h : RS s σ r) :
    ACalls Tryz.prog 42 [.ptr 0 0] [(0, rdC s r)] fun v m' => ∃ r', m' = [(0, rdC s r')] ∧ ∃ x, v = .d (.int .i64 x) ∧ RQ s (thn σ ((tNamed locN).run s)) x r' := by
  refine acalls_of Tryz.func42 ac42_ok Tryz.ntmps42 Tryz.results42 rfl ?_
  unfold ac42
  refine bwp_seq fun K hK => bwp_region rfl ?_
  simp -implicitDefEqProofs only [go_sem, ↓reduceIte]
  refine hK _ ?_; clear hK
  refine bwp_seq fun K hK => bwp_region rfl ?_
  simp -implicitDefEqProofs only [go_sem, ↓reduceIte]
  refine look_callK hs h rfl ?_
  intro q hq
  by_cases h0 : q.code = 0
  · rw [lkT_ok h0]
    have hp := hq.pos h0
    simp -implicitDefEqProofs only [go_sem, ↓reduceIte, mset]
    refine hK _ ?_; clear hK
    refine bwp_seq fun K1 hK1 => ?_
    refine bwp_block ?_
    refine bwp_seq fun K hK => bwp_region rfl ?_
    simp -implicitDefEqProofs only [go_sem, ↓reduceIte, eq_true h0, rdC, decide_true, decide_false]
    refine hK _ ?_; clear hK
    refine bwp_cond false (by simp [ev, fget]) (fun h => nomatch h) (fun _ => ?_)
    by_cases h1 : q.tok.kd = 1
    · refine bwp_seq fun K hK => bwp_region rfl ?_
      simp -implicitDefEqProofs only [go_sem, ↓reduceIte, eq_true h1, decide_true, decide_false]
      refine hK _ ?_; clear hK
      refine bwp_cond false (by simp [ev, fget]) (fun h => nomatch h) (fun _ => ?_)
      by_cases hl : q.tok.tx.length = 1
      · have hl' : (q.tok.tx.length : Int) = 1 := by omega
        have hl0 : (0 : Int) < q.tok.tx.length := by omega
        have hb : ((q.tok.tx.getD 0 0).toNat : Int) < 256 := by have := (q.tok.tx.getD 0 0).toNat_lt; omega
        have hw : IntKind.i64.wrap ((q.tok.tx.getD 0 0).toNat : Int) = ((q.tok.tx.getD 0 0).toNat : Int) := wrap_i64 (by omega) (by omega)
        refine bwp_seq fun K hK => bwp_region rfl ?_
        simp -implicitDefEqProofs only [go_sem, ↓reduceIte, eq_true hl', decide_true, decide_false]
        refine hK _ ?_; clear hK
        refine bwp_cond false (by simp [ev, fget]) (fun h => nomatch h) (fun _ => ?_)
        refine bwp_skip ?_
        refine hK1 _ ?_; clear hK1
        refine bwp_seq fun K hK => bwp_region rfl ?_
        simp -implicitDefEqProofs only [go_sem, ↓reduceIte]
        refine go_callK s q rfl ?_
        simp -implicitDefEqProofs only [go_sem, ↓reduceIte, mset]
        refine hK _ ?_; clear hK
        refine bwp_seq fun K hK => bwp_region rfl ?_
        simp -implicitDefEqProofs only [go_sem, ↓reduceIte, hl0, hw]
        refine hK _ ?_; clear hK
        refine bwp_ret ?_
        simp only [go_sem]
        refine aend_mem (.d (.int .i64 ((q.tok.tx.getD 0 0).toNat : Int))) [(0, 0)] [(0, rdC s (goR q))] ?_ rfl rfl ?_ ⟨_, rfl, _, rfl, ?_⟩
        · simp [resA, resVs, resV, fget]
        · simp [entM, pinv, mget, mset, renL, AV.ren, rdC, pget]
        · refine RQ.cur hq ?_
          have hl2 : locN q.tok.tx = some ((q.tok.tx.getD 0 0).toNat : Int) := by unfold locN; rw [if_pos hl]
          rw [if_pos h1, hl2]
          exact RQ.eat (RQ.ret (hq.goT h0))
      · have hl' : ¬ (q.tok.tx.length : Int) = 1 := by omega
        refine bwp_seq fun K hK => bwp_region rfl ?_
        simp -implicitDefEqProofs only [go_sem, ↓reduceIte, eq_false hl', decide_true, decide_false]
        refine hK _ ?_; clear hK
        refine bwp_cond true (by simp [ev, fget]) (fun _ => ?_) (fun h => nomatch h)
        refine bwp_seq fun K hK => bwp_region rfl ?_
        simp -implicitDefEqProofs only [go_sem, ↓reduceIte]
        refine fail2_callK s q 7 rfl ?_
        simp -implicitDefEqProofs only [go_sem, ↓reduceIte, mset]
        refine hK _ ?_; clear hK
        refine bwp_seq fun K hK => bwp_region rfl ?_
        simp -implicitDefEqProofs only [go_sem, ↓reduceIte]
        refine hK _ ?_; clear hK
        refine bwp_ret ?_
        simp only [go_sem]
        refine aend_mem (.d (.int .i64 0)) [(0, 0)] [(0, rdC s (failR q 7))] ?_ rfl rfl ?_ ⟨_, rfl, 0, rfl, ?_⟩
        · simp [resA, resVs, resV, fget]
        · simp [entM, pinv, mget, mset, renL, AV.ren, rdC, pget]
        · refine RQ.cur hq ?_
          have hl2 : locN q.tok.tx = none := by unfold locN; rw [if_neg hl]
          rw [if_pos h1, hl2]
          exact RQ.bad hq (by decide) _
    · refine bwp_seq fun K hK => bwp_region rfl ?_
      simp -implicitDefEqProofs only [go_sem, ↓reduceIte, eq_false h1, decide_true, decide_false]
      refine hK _ ?_; clear hK
      refine bwp_cond true (by simp [ev, fget]) (fun _ => ?_) (fun h => nomatch h)
      refine bwp_seq fun K hK => bwp_region rfl ?_
      simp -implicitDefEqProofs only [go_sem, ↓reduceIte]
      refine fail2_callK s q 6 rfl ?_
      simp -implicitDefEqProofs only [go_sem, ↓reduceIte, mset]
      refine hK _ ?_; clear hK
      refine bwp_seq fun K hK => bwp_region rfl ?_
      simp -implicitDefEqProofs only [go_sem, ↓reduceIte]
      refine hK _ ?_; clear hK
      refine bwp_ret ?_
      simp only [go_sem]
      refine aend_mem (.d (.int .i64 0)) [(0, 0)] [(0, rdC s (failR q 6))] ?_ rfl rfl ?_ ⟨_, rfl, 0, rfl, ?_⟩
      · simp [resA, resVs, resV, fget]
      · simp [entM, pinv, mget, mset, renL, AV.ren, rdC, pget]
      · refine RQ.cur hq ?_
        rw [if_neg h1]
        exact RQ.bad hq (by decide) _
  · rw [lkT_no h0]
    simp -implicitDefEqProofs only [go_sem, ↓reduceIte, mset]
    refine hK _ ?_; clear hK
    refine bwp_seq fun K1 hK1 => ?_
    refine bwp_block ?_
    refine bwp_seq fun K hK => bwp_region rfl ?_
    simp -implicitDefEqProofs only [go_sem, ↓reduceIte, eq_false h0, rdC, decide_true, decide_false]
    refine hK _ ?_; clear hK
    refine bwp_cond true (by simp [ev, fget]) (fun _ => ?_) (fun h => nomatch h)
    refine bwp_seq fun K hK => bwp_region rfl ?_
    simp -implicitDefEqProofs only [go_sem, ↓reduceIte]
    refine hK _ ?_; clear hK
    refine bwp_ret ?_
    simp only [go_sem]
    refine aend_mem (.d (.int .i64 0)) [(0, 0)] [(0, rdC s q)] ?_ rfl rfl ?_ ⟨_, rfl, 0, rfl, ?_⟩
    · simp [resA, resVs, resV, fget]
    · simp [entM, pinv, mget, mset, renL, AV.ren, rdC, pget]
    · cases σ with
      | error e => exact hq.rs
      | ok a => exact absurd hq.code h0
theorem loc2_callK {s : List UInt8} (hs : s.length ≤ 140737488351232) {σ : PR Nat} {r : RSt} (h : RS s σ r) {j : Nat} {dst : Option Nat} {ops : List AOper} {K : St → Prop} {t : Fr} {m : Mem} {n : Nat} (hm : mget m j = some (rdC s r))
    (hk : ∀ x r', RQ s (thn σ ((tNamed locN).run s)) x r' → runOps Tryz.prog ops ⟨putF t dst (.d (.int .i64 x)), mset m j (rdC s r'), n + 1⟩ K) : callK Tryz.prog 42 [.ptr j 0] dst ops K t m n := by
  refine rd_callK (rest := []) (Q := fun v r' => ∃ x, v = .d (.int .i64 x) ∧ RQ s (thn σ ((tNamed locN).run s)) x r') (loc2_calls hs h) rfl ?_ hm ?_
  · rintro _ _ ⟨_, rfl, _⟩; rfl
  · rintro _ r' ⟨x, rfl, h⟩; exact hk x r' h
def regV (x : List UInt8) : Int := match regN x with
  | some n => n
  | none => -1
theorem regN_range {x : List UInt8} {n : Int} (h : regN x = some n) : 0 ≤ n ∧ n ≤ 3 := by
  unfold regN at h
  split at h
  · rename_i hh
    have := Option.some.inj h
    omega
  · cases h
set_option maxHeartbeats 4000000 in
theorem reg2_pure (x : List UInt8) : Pure Tryz.prog 129 [.d (.str x)] (.d (.int .i64 (regV x))) := by
  refine acalls_of Tryz.func129 ac129_ok Tryz.ntmps129 Tryz.results129 rfl ?_
  unfold ac129
  refine bwp_seq fun K hK => bwp_region rfl ?_
  simp -implicitDefEqProofs only [go_sem, ↓reduceIte]
  refine hK _ ?_; clear hK
  refine bwp_seq fun K1 hK1 => ?_
  have no : ∀ S, regN x = none → S.t = S.t → K1 S := by
    intro S hn _
    refine hK1 _ ?_; clear hK1
    refine bwp_seq fun K hK => bwp_region rfl ?_
    simp -implicitDefEqProofs only [go_sem, ↓reduceIte]
    refine hK _ ?_; clear hK
    refine bwp_ret ?_
    simp -implicitDefEqProofs only [go_sem, ↓reduceIte]
    refine aend_ret _ rfl rfl ⟨?_, rfl⟩
    simp [fget, regV, hn]
  by_cases h2 : x.length = 2
  · have h2' : (x.length : Int) = 2 := by omega
    have i0 : (0 : Int) < x.length := by omega
    have i1 : (1 : Int) < x.length := by omega
    by_cases hr : ((x.getD 0 0).toNat : Int) = 114
    · by_cases hlo : (48 : Int) ≤ (x.getD 1 0).toNat
      · by_cases hhi : ((x.getD 1 0).toNat : Int) ≤ 51
        · have hn : regN x = some (((x.getD 1 0).toNat - 48 : Nat) : Int) := by
            unfold regN
            rw [if_pos ⟨h2, u8eq (k := 114) hr, by omega, by omega⟩]
          have hw8 := u8_sub48 (x.getD 1 0) hlo hhi
          have hw : IntKind.i64.wrap (((x.getD 1 0).toNat - 48 : Nat) : Int) = (((x.getD 1 0).toNat - 48 : Nat) : Int) := wrap_i64 (by omega) (by omega)
          refine bwp_seq fun K hK => bwp_region rfl ?_
          simp -implicitDefEqProofs only [go_sem, ↓reduceIte, eq_true h2', i0, i1, eq_true hr, eq_true hlo, eq_true hhi, decide_true]
          refine hK _ ?_; clear hK
          refine bwp_cond true (by simp [ev, fget]) (fun _ => ?_) (fun h => nomatch h)
          refine bwp_seq fun K hK => bwp_region rfl ?_
          simp -implicitDefEqProofs only [go_sem, ↓reduceIte, i1, hw8, hw]
          refine hK _ ?_; clear hK
          refine bwp_ret ?_
          simp -implicitDefEqProofs only [go_sem, ↓reduceIte]
          refine aend_ret _ rfl rfl ⟨?_, rfl⟩
          simp [fget, regV, hn]
        · have hn : regN x = none := by unfold regN; rw [if_neg (by omega)]
          refine bwp_seq fun K hK => bwp_region rfl ?_
          simp -implicitDefEqProofs only [go_sem, ↓reduceIte, eq_true h2', i0, i1, eq_true hr, eq_true hlo, eq_false hhi, decide_true, decide_false]
          refine hK _ ?_; clear hK
          refine bwp_cond false (by simp [ev, fget]) (fun h => nomatch h) (fun _ => ?_)
          refine bwp_skip ?_
          exact no _ hn rfl
      · have hn : regN x = none := by unfold regN; rw [if_neg (by omega)]
        refine bwp_seq fun K hK => bwp_region rfl ?_
        simp -implicitDefEqProofs only [go_sem, ↓reduceIte, eq_true h2', i0, i1, eq_true hr, eq_false hlo, decide_true, decide_false]
        refine hK _ ?_; clear hK
        refine bwp_cond false (by simp [ev, fget]) (fun h => nomatch h) (fun _ => ?_)
        refine bwp_skip ?_
        exact no _ hn rfl
    · have hn : regN x = none := by unfold regN; rw [if_neg (fun h => hr (by rw [h.2.1]; rfl))]
      refine bwp_seq fun K hK => bwp_region rfl ?_
      simp -implicitDefEqProofs only [go_sem, ↓reduceIte, eq_true h2', i0, i1, eq_false hr, decide_true, decide_false]
      refine hK _ ?_; clear hK
      refine bwp_cond false (by simp [ev, fget]) (fun h => nomatch h) (fun _ => ?_)
      refine bwp_skip ?_
      exact no _ hn rfl
  · have h2' : ¬ (x.length : Int) = 2 := by omega
    have hn : regN x = none := by unfold regN; rw [if_neg (fun h => h2 h.1)]
    refine bwp_seq fun K hK => bwp_region rfl ?_
    simp -implicitDefEqProofs only [go_sem, ↓reduceIte, eq_false h2', decide_true, decide_false]
    refine hK _ ?_; clear hK
    refine bwp_cond false (by simp [ev, fget]) (fun h => nomatch h) (fun _ => ?_)
    refine bwp_skip ?_
    exact no _ hn rfl
set_option maxHeartbeats 4000000 in
theorem register2_calls {s : List UInt8} (hs : s.length ≤ 140737488351232) {σ : PR Nat} {r : RSt} (h : RS s σ r) :
    ACalls Tryz.prog 94 [.ptr 0 0] [(0, rdC s r)] fun v m' => ∃ r', m' = [(0, rdC s r')] ∧ ∃ x, v = .d (.int .i64 x) ∧ RQ s (thn σ ((tNamed regN).run s)) x r' := by
  refine acalls_of Tryz.func94 ac94_ok Tryz.ntmps94 Tryz.results94 rfl ?_
  unfold ac94
  refine bwp_seq fun K hK => bwp_region rfl ?_
  simp -implicitDefEqProofs only [go_sem, ↓reduceIte]
  refine hK _ ?_; clear hK
  refine bwp_seq fun K hK => bwp_region rfl ?_
  simp -implicitDefEqProofs only [go_sem, ↓reduceIte]
  refine look_callK hs h rfl ?_
  intro q hq
  by_cases h0 : q.code = 0
  · rw [lkT_ok h0]
    have kr := reg2_pure q.tok.tx
    simp -implicitDefEqProofs only [go_sem, ↓reduceIte, mset]
    refine hK _ ?_; clear hK
    refine bwp_seq fun K1 hK1 => ?_
    refine bwp_block ?_
    refine bwp_seq fun K hK => bwp_region rfl ?_
    simp -implicitDefEqProofs only [go_sem, ↓reduceIte, eq_true h0, rdC, decide_true, decide_false]
    refine hK _ ?_; clear hK
    refine bwp_cond false (by simp [ev, fget]) (fun h => nomatch h) (fun _ => ?_)
    by_cases h1 : q.tok.kd = 1
    · refine bwp_seq fun K hK => bwp_region rfl ?_
      simp -implicitDefEqProofs only [go_sem, ↓reduceIte, eq_true h1, decide_true, decide_false]
      refine hK _ ?_; clear hK
      refine bwp_cond false (by simp [ev, fget]) (fun h => nomatch h) (fun _ => ?_)
      cases hr : regN q.tok.tx with
      | some x =>
        have hx := regN_range hr
        have hv : regV q.tok.tx = x := by unfold regV; rw [hr]
        have hlt : ¬ x < 0 := by omega
        rw [hv] at kr
        refine bwp_seq fun K hK => bwp_region rfl ?_
        simp -implicitDefEqProofs only [go_sem, ↓reduceIte]
        repeat' (first
          | (refine gateK_split (fun hb => ?_) (fun hb => ?_) <;> simp -implicitDefEqProofs only [go_sem, ↓reduceIte, hb, eq_false hlt])
          | (refine dGateK_split (fun hb => ?_) (fun hb => ?_) <;> simp -implicitDefEqProofs only [go_sem, ↓reduceIte, hb, eq_false hlt])
          | (refine callK_pure (kr) rfl rfl ?_; simp -implicitDefEqProofs only [go_sem, ↓reduceIte, eq_false hlt])
          | (refine dCallK_pure (kr) rfl rfl ?_; simp -implicitDefEqProofs only [go_sem, ↓reduceIte, eq_false hlt])
          | (rw [if_pos (by (try simp only [List.length_append, List.length_cons, List.length_nil, List.length_map]); omega)]; simp -implicitDefEqProofs only [go_sem, ↓reduceIte, eq_false hlt]))
        refine hK _ ?_; clear hK
        refine bwp_cond false (by simp [ev, fget]) (fun h => nomatch h) (fun _ => ?_)
        refine bwp_skip ?_
        refine hK1 _ ?_; clear hK1
        refine bwp_seq fun K hK => bwp_region rfl ?_
        simp -implicitDefEqProofs only [go_sem, ↓reduceIte]
        refine go_callK s q rfl ?_
        simp -implicitDefEqProofs only [go_sem, ↓reduceIte, mset]
        refine hK _ ?_; clear hK
        refine bwp_seq fun K hK => bwp_region rfl ?_
        simp -implicitDefEqProofs only [go_sem, ↓reduceIte]
        repeat' (first
          | (refine gateK_split (fun hb => ?_) (fun hb => ?_) <;> simp -implicitDefEqProofs only [go_sem, ↓reduceIte, hb])
          | (refine dGateK_split (fun hb => ?_) (fun hb => ?_) <;> simp -implicitDefEqProofs only [go_sem, ↓reduceIte, hb])
          | (refine callK_pure (kr) rfl rfl ?_; simp -implicitDefEqProofs only [go_sem, ↓reduceIte])
          | (refine dCallK_pure (kr) rfl rfl ?_; simp -implicitDefEqProofs only [go_sem, ↓reduceIte])
          | (rw [if_pos (by (try simp only [List.length_append, List.length_cons, List.length_nil, List.length_map]); omega)]; simp -implicitDefEqProofs only [go_sem, ↓reduceIte]))
        refine hK _ ?_; clear hK
        refine bwp_ret ?_
        simp only [go_sem]
        refine aend_mem (.d (.int .i64 x)) [(0, 0)] [(0, rdC s (goR q))] ?_ rfl rfl ?_ ⟨_, rfl, _, rfl, ?_⟩
        · simp [resA, resVs, resV, fget]
        · simp [entM, pinv, mget, mset, renL, AV.ren, rdC, pget]
        · refine RQ.cur hq ?_
          rw [if_pos h1, hr]
          exact RQ.eat (RQ.ret (hq.goT h0))
      | none =>
        have hv : regV q.tok.tx = -1 := by unfold regV; rw [hr]
        rw [hv] at kr
        refine bwp_seq fun K hK => bwp_region rfl ?_
        simp -implicitDefEqProofs only [go_sem, ↓reduceIte]
        repeat' (first
          | (refine gateK_split (fun hb => ?_) (fun hb => ?_) <;> simp -implicitDefEqProofs only [go_sem, ↓reduceIte, hb])
          | (refine dGateK_split (fun hb => ?_) (fun hb => ?_) <;> simp -implicitDefEqProofs only [go_sem, ↓reduceIte, hb])
          | (refine callK_pure (kr) rfl rfl ?_; simp -implicitDefEqProofs only [go_sem, ↓reduceIte])
          | (refine dCallK_pure (kr) rfl rfl ?_; simp -implicitDefEqProofs only [go_sem, ↓reduceIte])
          | (rw [if_pos (by (try simp only [List.length_append, List.length_cons, List.length_nil, List.length_map]); omega)]; simp -implicitDefEqProofs only [go_sem, ↓reduceIte]))
        refine hK _ ?_; clear hK
        refine bwp_cond true (by simp [ev, fget]) (fun _ => ?_) (fun h => nomatch h)
        refine bwp_seq fun K hK => bwp_region rfl ?_
        simp -implicitDefEqProofs only [go_sem, ↓reduceIte]
        refine fail2_callK s q 7 rfl ?_
        simp -implicitDefEqProofs only [go_sem, ↓reduceIte, mset]
        refine hK _ ?_; clear hK
        refine bwp_seq fun K hK => bwp_region rfl ?_
        simp -implicitDefEqProofs only [go_sem, ↓reduceIte]
        refine hK _ ?_; clear hK
        refine bwp_ret ?_
        simp only [go_sem]
        refine aend_mem (.d (.int .i64 0)) [(0, 0)] [(0, rdC s (failR q 7))] ?_ rfl rfl ?_ ⟨_, rfl, 0, rfl, ?_⟩
        · simp [resA, resVs, resV, fget]
        · simp [entM, pinv, mget, mset, renL, AV.ren, rdC, pget]
        · refine RQ.cur hq ?_
          rw [if_pos h1, hr]
          exact RQ.bad hq (by decide) _
    · refine bwp_seq fun K hK => bwp_region rfl ?_
      simp -implicitDefEqProofs only [go_sem, ↓reduceIte, eq_false h1, decide_true, decide_false]
      refine hK _ ?_; clear hK
      refine bwp_cond true (by simp [ev, fget]) (fun _ => ?_) (fun h => nomatch h)
      refine bwp_seq fun K hK => bwp_region rfl ?_
      simp -implicitDefEqProofs only [go_sem, ↓reduceIte]
      refine fail2_callK s q 6 rfl ?_
      simp -implicitDefEqProofs only [go_sem, ↓reduceIte, mset]
      refine hK _ ?_; clear hK
      refine bwp_seq fun K hK => bwp_region rfl ?_
      simp -implicitDefEqProofs only [go_sem, ↓reduceIte]
      refine hK _ ?_; clear hK
      refine bwp_ret ?_
      simp only [go_sem]
      refine aend_mem (.d (.int .i64 0)) [(0, 0)] [(0, rdC s (failR q 6))] ?_ rfl rfl ?_ ⟨_, rfl, 0, rfl, ?_⟩
      · simp [resA, resVs, resV, fget]
      · simp [entM, pinv, mget, mset, renL, AV.ren, rdC, pget]
      · refine RQ.cur hq ?_
        rw [if_neg h1]
        exact RQ.bad hq (by decide) _
  · rw [lkT_no h0]
    simp -implicitDefEqProofs only [go_sem, ↓reduceIte, mset]
    refine hK _ ?_; clear hK
    refine bwp_seq fun K1 hK1 => ?_
    refine bwp_block ?_
    refine bwp_seq fun K hK => bwp_region rfl ?_
    simp -implicitDefEqProofs only [go_sem, ↓reduceIte, eq_false h0, rdC, decide_true, decide_false]
    refine hK _ ?_; clear hK
    refine bwp_cond true (by simp [ev, fget]) (fun _ => ?_) (fun h => nomatch h)
    refine bwp_seq fun K hK => bwp_region rfl ?_
    simp -implicitDefEqProofs only [go_sem, ↓reduceIte]
    refine hK _ ?_; clear hK
    refine bwp_ret ?_
    simp only [go_sem]
    refine aend_mem (.d (.int .i64 0)) [(0, 0)] [(0, rdC s q)] ?_ rfl rfl ?_ ⟨_, rfl, 0, rfl, ?_⟩
    · simp [resA, resVs, resV, fget]
    · simp [entM, pinv, mget, mset, renL, AV.ren, rdC, pget]
    · cases σ with
      | error e => exact hq.rs
      | ok a => exact absurd hq.code h0
theorem register2_callK {s : List UInt8} (hs : s.length ≤ 140737488351232) {σ : PR Nat} {r : RSt} (h : RS s σ r) {j : Nat} {dst : Option Nat} {ops : List AOper} {K : St → Prop} {t : Fr} {m : Mem} {n : Nat} (hm : mget m j = some (rdC s r))
    (hk : ∀ x r', RQ s (thn σ ((tNamed regN).run s)) x r' → runOps Tryz.prog ops ⟨putF t dst (.d (.int .i64 x)), mset m j (rdC s r'), n + 1⟩ K) : callK Tryz.prog 94 [.ptr j 0] dst ops K t m n := by
  refine rd_callK (rest := []) (Q := fun v r' => ∃ x, v = .d (.int .i64 x) ∧ RQ s (thn σ ((tNamed regN).run s)) x r') (register2_calls hs h) rfl ?_ hm ?_
  · rintro _ _ ⟨_, rfl, _⟩; rfl
  · rintro _ r' ⟨x, rfl, h⟩; exact hk x r' h
set_option maxHeartbeats 4000000 in
theorem opd2_calls {s : List UInt8} (hs : s.length ≤ 4000) {σ : PR Nat} {r : RSt} (h : RS s σ r) :
    ACalls Tryz.prog 93 [.ptr 0 0] [(0, rdC s r)] fun v m' => ∃ r', m' = [(0, rdC s r')] ∧ ∃ x : Opnd, v = .agg (x.cells.map .d) ∧ RQ s (thn σ (tOpd.run s)) x r' := by
  have hs' : s.length ≤ 140737488351232 := by omega
  have h84 : ldk Tryz.prog 53 = some (some 2) := by kernel_rfl
  refine acalls_of Tryz.func93 ac93_ok Tryz.ntmps93 Tryz.results93 rfl ?_
  unfold ac93
  refine bwp_seq fun K hK => bwp_region rfl ?_
  simp -implicitDefEqProofs only [go_sem, ↓reduceIte]
  refine hK _ ?_; clear hK
  refine bwp_seq fun K hK => bwp_region rfl ?_
  simp -implicitDefEqProofs only [go_sem, ↓reduceIte]
  refine look_callK hs' h rfl ?_
  intro q hq
  have bad : ∀ {y : Int} {q' : RSt}, (q.code = 0 → q.tok.kd ≠ 2) → RQ s (thn σ ((tNamed regN).run s)) y q' → RQ s (thn σ (tOpd.run s)) ⟨y, 0⟩ q' := by
    intro y q' hn hq'
    cases σ with
    | error e => exact hq'
    | ok a =>
      refine RQ.cur hq ?_
      rw [if_neg (hn hq.code)]
      exact RQ.bind hq' (RQ.ret hq'.rs)
  by_cases h0 : q.code = 0
  · rw [lkT_ok h0]
    simp -implicitDefEqProofs only [go_sem, ↓reduceIte, mset]
    refine hK _ ?_; clear hK
    refine bwp_seq fun K1 hK1 => ?_
    by_cases h1 : q.tok.kd = 2
    · refine bwp_seq fun K hK => bwp_region rfl ?_
      simp -implicitDefEqProofs only [go_sem, ↓reduceIte, eq_true h0, eq_true h1, rdC, decide_true]
      refine hK _ ?_; clear hK
      refine bwp_cond true (by simp [ev, fget]) (fun _ => ?_) (fun h => nomatch h)
      refine bwp_seq fun K hK => bwp_region rfl ?_
      simp -implicitDefEqProofs only [go_sem, ↓reduceIte]
      refine num2_callK (r := q) hs hq.rs rfl ?_
      intro x q' hq' _
      simp -implicitDefEqProofs only [go_sem, ↓reduceIte, mset]
      refine hK _ ?_; clear hK
      refine bwp_ret ?_
      simp only [go_sem]
      refine aend_mem (.agg (Opnd.cells ⟨-1, x⟩ |>.map .d)) [(0, 0)] [(0, rdC s q')] ?_ rfl rfl ?_ ⟨q', rfl, ⟨-1, x⟩, rfl, ?_⟩
      · simp [resA, resVs, resV, fget, mget, mset, loadA, h84, Opnd.cells]
      · simp [entM, pinv, mget, mset, renL, AV.ren, rdC, pget]
      · refine RQ.cur hq ?_
        rw [if_pos h1]
        exact RQ.bind hq' (RQ.ret hq'.rs)
    · refine bwp_seq fun K hK => bwp_region rfl ?_
      simp -implicitDefEqProofs only [go_sem, ↓reduceIte, eq_true h0, eq_false h1, rdC, decide_true, decide_false]
      refine hK _ ?_; clear hK
      refine bwp_cond false (by simp [ev, fget]) (fun h => nomatch h) (fun _ => ?_)
      refine bwp_skip ?_
      refine hK1 _ ?_; clear hK1
      refine bwp_seq fun K hK => bwp_region rfl ?_
      simp -implicitDefEqProofs only [go_sem, ↓reduceIte]
      refine register2_callK (r := q) hs' hq.rs rfl ?_
      intro x q' hq'
      simp -implicitDefEqProofs only [go_sem, ↓reduceIte, mset]
      refine hK _ ?_; clear hK
      refine bwp_ret ?_
      simp only [go_sem]
      refine aend_mem (.agg (Opnd.cells ⟨x, 0⟩ |>.map .d)) [(0, 0)] [(0, rdC s q')] ?_ rfl rfl ?_ ⟨q', rfl, ⟨x, 0⟩, rfl, bad (fun _ => h1) hq'⟩
      · simp [resA, resVs, resV, fget, mget, mset, loadA, h84, Opnd.cells]
      · simp [entM, pinv, mget, mset, renL, AV.ren, rdC, pget]
  · rw [lkT_no h0]
    simp -implicitDefEqProofs only [go_sem, ↓reduceIte, mset]
    refine hK _ ?_; clear hK
    refine bwp_seq fun K1 hK1 => ?_
    refine bwp_seq fun K hK => bwp_region rfl ?_
    simp -implicitDefEqProofs only [go_sem, ↓reduceIte, eq_false h0, rdC, decide_false]
    refine hK _ ?_; clear hK
    refine bwp_cond false (by simp [ev, fget]) (fun h => nomatch h) (fun _ => ?_)
    refine bwp_skip ?_
    refine hK1 _ ?_; clear hK1
    refine bwp_seq fun K hK => bwp_region rfl ?_
    simp -implicitDefEqProofs only [go_sem, ↓reduceIte]
    refine register2_callK (r := q) hs' hq.rs rfl ?_
    intro x q' hq'
    simp -implicitDefEqProofs only [go_sem, ↓reduceIte, mset]
    refine hK _ ?_; clear hK
    refine bwp_ret ?_
    simp only [go_sem]
    refine aend_mem (.agg (Opnd.cells ⟨x, 0⟩ |>.map .d)) [(0, 0)] [(0, rdC s q')] ?_ rfl rfl ?_ ⟨q', rfl, ⟨x, 0⟩, rfl, bad (fun h => absurd h h0) hq'⟩
    · simp [resA, resVs, resV, fget, mget, mset, loadA, h84, Opnd.cells]
    · simp [entM, pinv, mget, mset, renL, AV.ren, rdC, pget]
theorem opd2_callK {s : List UInt8} (hs : s.length ≤ 4000) {σ : PR Nat} {r : RSt} (h : RS s σ r) {j : Nat} {dst : Option Nat} {ops : List AOper} {K : St → Prop} {t : Fr} {m : Mem} {n : Nat} (hm : mget m j = some (rdC s r))
    (hk : ∀ (x : Opnd) r', RQ s (thn σ (tOpd.run s)) x r' → runOps Tryz.prog ops ⟨putF t dst (.agg [.d (.int .i64 x.reg), .d (.int .i64 x.value)]), mset m j (rdC s r'), n + 1⟩ K) : callK Tryz.prog 93 [.ptr j 0] dst ops K t m n := by
  refine rd_callK (rest := []) (Q := fun v r' => ∃ x : Opnd, v = .agg (x.cells.map .d) ∧ RQ s (thn σ (tOpd.run s)) x r') (opd2_calls hs h) rfl ?_ hm ?_
  · rintro _ _ ⟨x, rfl, _⟩; exact opnd_in x
  · rintro _ r' ⟨x, rfl, h⟩; exact hk x r' h
end Go.Proofs.YtpfbljkfbjjlkaaGreatDoor

/- The document's reader: instructions. -/
namespace Go.Proofs.YtpfbljkfbjjlkaaGreatDoor
open Go Go.Jq
set_option maxRecDepth 100000
set_option linter.unusedSimpArgs false
def z9 : List AV := [.d (.int .i64 0), .d (.int .i64 0), .d (.int .i64 0), .d (.int .i64 0), .d (.int .i64 0), .d (.int .i64 0), .d (.int .i64 0), .d (.int .i64 0), .d (.int .i64 0)]
theorem ikB_code {q : RSt} {x : List UInt8} (h : ikB q x = true) : q.code = 0 := by
  unfold ikB at h
  simp only [Bool.and_eq_true, decide_eq_true_eq] at h
  exact h.1
set_option maxHeartbeats 64000000 in
theorem ins2_calls {s : List UInt8} (hs : s.length ≤ 4000) {σ : PR Nat} {r : RSt} (h : RS s σ r) :
    ACalls Tryz.prog 44 [.ptr 0 0] [(0, rdC s r)] fun v m' => ∃ r', m' = [(0, rdC s r')] ∧ ∃ x : Ins, v = .agg (insC x) ∧ RQ s (thn σ (tInsE.run s)) x r' := by
  have hs' : s.length ≤ 140737488351232 := by omega
  have hld : ldk Tryz.prog 55 = some (some 9) := by kernel_rfl
  refine acalls_of Tryz.func44 ac44_ok Tryz.ntmps44 Tryz.results44 rfl ?_
  unfold ac44
  refine bwp_seq fun K hK => bwp_region rfl ?_
  simp -implicitDefEqProofs only [go_sem, ↓reduceIte]
  refine hK _ ?_; clear hK
  refine bwp_seq fun K hK => bwp_region rfl ?_
  simp -implicitDefEqProofs only [go_sem, ↓reduceIte]
  refine hK _ ?_; clear hK
  refine bwp_seq fun K0 hK0 => ?_
  refine bwp_block ?_
  have fin : ∀ (S : St) (q' : RSt) (x' : Ins), Leads 1 Tryz.f44.ntmps S ⟨[(0, .ptr 0 0), (2, .ptr 1 0), (3, .ptr 2 0)], [(0, rdC s q'), (1, z9), (2, insC x')], 3⟩ → RQ s (thn σ (tIns.run s)) x' q' → K0 S := by
    intro S q' x' hS hq
    refine hK0 _ ?_; clear hK0
    refine bwp_leads hS ?_
    refine bwp_seq fun K hK => bwp_region rfl ?_
    simp -implicitDefEqProofs only [go_sem, ↓reduceIte, z9, insC, Ins.cells]
    refine eat2_callK hs' hq.rs [59] rfl ?_
    intro q2 h2
    simp -implicitDefEqProofs only [go_sem, ↓reduceIte, mset]
    refine hK _ ?_; clear hK
    refine bwp_seq fun K hK => bwp_region rfl ?_
    simp -implicitDefEqProofs only [go_sem, ↓reduceIte]
    refine hK _ ?_; clear hK
    refine bwp_ret ?_
    simp only [go_sem]
    refine aend_mem (.agg (insC x')) [(0, 0)] [(0, rdC s q2)] ?_ rfl rfl ?_ ⟨q2, rfl, x', rfl, ?_⟩
    · simp [resA, resVs, resV, fget, mget, mset, loadA, hld, insC, Ins.cells]
    · simp [entM, pinv, mget, mset, renL, AV.ren, rdC, pget]
    · exact RQ.bind hq (RQ.bind h2 (RQ.ret h2.rs))
  refine bwp_seq fun K hK => bwp_region rfl ?_
  simp -implicitDefEqProofs only [go_sem, ↓reduceIte]
  refine is2_callK hs' h wStore rfl ?_
  intro q1 h1
  simp -implicitDefEqProofs only [go_sem, ↓reduceIte, mset]
  refine hK _ ?_; clear hK
  cases hb1 : ikB q1 wStore with
  | true =>
    have hg := h1.goT (ikB_code hb1)
    refine bwp_cond true (by simp [ev, fget]) (fun _ => ?_) (fun h => nomatch h)
    refine bwp_seq fun K hK => bwp_region rfl ?_
    simp -implicitDefEqProofs only [go_sem, ↓reduceIte]
    refine go_callK s q1 rfl ?_
    simp -implicitDefEqProofs only [go_sem, ↓reduceIte, mset]
    refine hK _ ?_; clear hK
    refine bwp_seq fun K hK => bwp_region rfl ?_
    simp -implicitDefEqProofs only [go_sem, ↓reduceIte]
    refine loc2_callK hs' hg rfl ?_
    intro l q2 h2
    simp -implicitDefEqProofs only [go_sem, ↓reduceIte, mset]
    refine hK _ ?_; clear hK
    refine bwp_region rfl ?_
    simp -implicitDefEqProofs only [go_sem, ↓reduceIte]
    refine opd2_callK hs h2.rs rfl ?_
    intro x q3 h3
    simp -implicitDefEqProofs only [go_sem, ↓reduceIte, mset]
    refine fin _ q3 ⟨1, 0, l, x, 0, ⟨0, 0⟩, 0⟩ (Leads.ent [(0, 0), (1, 1), (2, 2)] ⟨by simp [entT, fget, AV.ren, renL, pget], by simp [entM, pinv, mget, mset, renL, AV.ren, pget, rdC, z9, insC, Ins.cells], rfl, rfl⟩) ?_
    exact RQ.take_yes h1 hb1 (RQ.bind h2 (RQ.bind h3 (RQ.ret h3.rs)))
  | false =>
    refine bwp_cond false (by simp [ev, fget]) (fun h => nomatch h) (fun _ => ?_)
    refine bwp_seq fun K hK => bwp_region rfl ?_
    simp -implicitDefEqProofs only [go_sem, ↓reduceIte]
    refine is2_callK (r := q1) hs' h1.rs wFence rfl ?_
    intro q2 h2
    simp -implicitDefEqProofs only [go_sem, ↓reduceIte, mset]
    refine hK _ ?_; clear hK
    cases hb2 : ikB q2 wFence with
    | true =>
      have hg := h2.goT (ikB_code hb2)
      refine bwp_cond true (by simp [ev, fget]) (fun _ => ?_) (fun h => nomatch h)
      refine bwp_seq fun K hK => bwp_region rfl ?_
      simp -implicitDefEqProofs only [go_sem, ↓reduceIte]
      refine go_callK s q2 rfl ?_
      simp -implicitDefEqProofs only [go_sem, ↓reduceIte, mset]
      refine hK _ ?_; clear hK
      refine bwp_region rfl ?_
      simp -implicitDefEqProofs only [go_sem, ↓reduceIte]
      refine fin _ (goR q2) ⟨3, 0, 0, ⟨0, 0⟩, 0, ⟨0, 0⟩, 0⟩ (Leads.ent [(0, 0), (1, 1), (2, 2)] ⟨by simp [entT, fget, AV.ren, renL, pget], by simp [entM, pinv, mget, mset, renL, AV.ren, pget, rdC, z9, insC, Ins.cells], rfl, rfl⟩) ?_
      exact RQ.take_no h1 hb1 (RQ.take_yes h2 hb2 (RQ.ret hg))
    | false =>
      refine bwp_cond false (by simp [ev, fget]) (fun h => nomatch h) (fun _ => ?_)
      refine bwp_seq fun K hK => bwp_region rfl ?_
      simp -implicitDefEqProofs only [go_sem, ↓reduceIte]
      refine is2_callK (r := q2) hs' h2.rs wSkip rfl ?_
      intro q3 h3
      simp -implicitDefEqProofs only [go_sem, ↓reduceIte, mset]
      refine hK _ ?_; clear hK
      cases hb3 : ikB q3 wSkip with
      | false =>
        have up : ∀ {x' : Ins} {q' : RSt}, RQ s (thn σ (((tNamed regN).bind fun r => (tMust [61]).bind fun _ => tRight r).run s)) x' q' → RQ s (thn σ (tIns.run s)) x' q' :=
          fun hq => RQ.take_no h1 hb1 (RQ.take_no h2 hb2 (RQ.take_no h3 hb3 hq))
        refine bwp_cond false (by simp [ev, fget]) (fun h => nomatch h) (fun _ => ?_)
        refine bwp_seq fun K hK => bwp_region rfl ?_
        simp -implicitDefEqProofs only [go_sem, ↓reduceIte]
        refine register2_callK (r := q3) hs' h3.rs rfl ?_
        intro rg q4 h4
        simp -implicitDefEqProofs only [go_sem, ↓reduceIte, mset]
        refine hK _ ?_; clear hK
        refine bwp_seq fun K hK => bwp_region rfl ?_
        simp -implicitDefEqProofs only [go_sem, ↓reduceIte]
        refine eat2_callK hs' h4.rs [61] rfl ?_
        intro q5 h5
        simp -implicitDefEqProofs only [go_sem, ↓reduceIte, mset]
        refine hK _ ?_; clear hK
        have up2 : ∀ {x' : Ins} {q' : RSt}, RQ s (thn (posR (thn (posR (thn σ ((tNamed regN).run s))) ((tMust [61]).run s))) ((tRight rg).run s)) x' q' → RQ s (thn σ (tIns.run s)) x' q' :=
          fun hq => up (RQ.bind h4 (RQ.bind h5 hq))
        generalize hσ5 : posR (thn (posR (thn σ ((tNamed regN).run s))) ((tMust [61]).run s)) = σ5 at up2
        have hr5 := h5.rs
        rw [hσ5] at hr5
        refine bwp_block ?_
        refine bwp_seq fun K hK => bwp_region rfl ?_
        simp -implicitDefEqProofs only [go_sem, ↓reduceIte]
        refine is2_callK hs' hr5 wLoad rfl ?_
        intro q6 h6
        simp -implicitDefEqProofs only [go_sem, ↓reduceIte, mset]
        refine hK _ ?_; clear hK
        cases hb6 : ikB q6 wLoad with
        | true =>
          have hg := h6.goT (ikB_code hb6)
          refine bwp_cond true (by simp [ev, fget]) (fun _ => ?_) (fun h => nomatch h)
          refine bwp_seq fun K hK => bwp_region rfl ?_
          simp -implicitDefEqProofs only [go_sem, ↓reduceIte]
          refine go_callK s q6 rfl ?_
          simp -implicitDefEqProofs only [go_sem, ↓reduceIte, mset]
          refine hK _ ?_; clear hK
          refine bwp_region rfl ?_
          simp -implicitDefEqProofs only [go_sem, ↓reduceIte]
          refine loc2_callK hs' hg rfl ?_
          intro l q7 h7
          simp -implicitDefEqProofs only [go_sem, ↓reduceIte, mset]
          refine fin _ q7 ⟨2, rg, l, ⟨0, 0⟩, 0, ⟨0, 0⟩, 0⟩ (Leads.ent [(0, 0), (1, 1), (2, 2)] ⟨by simp [entT, fget, AV.ren, renL, pget], by simp [entM, pinv, mget, mset, renL, AV.ren, pget, rdC, z9, insC, Ins.cells], rfl, rfl⟩) ?_
          exact up2 (RQ.take_yes h6 hb6 (RQ.bind h7 (RQ.ret h7.rs)))
        | false =>
          refine bwp_cond false (by simp [ev, fget]) (fun h => nomatch h) (fun _ => ?_)
          refine bwp_seq fun K hK => bwp_region rfl ?_
          simp -implicitDefEqProofs only [go_sem, ↓reduceIte]
          refine is2_callK (r := q6) hs' h6.rs wCas rfl ?_
          intro q7 h7
          simp -implicitDefEqProofs only [go_sem, ↓reduceIte, mset]
          refine hK _ ?_; clear hK
          cases hb7 : ikB q7 wCas with
          | true =>
            have hg := h7.goT (ikB_code hb7)
            refine bwp_cond true (by simp [ev, fget]) (fun _ => ?_) (fun h => nomatch h)
            refine bwp_seq fun K hK => bwp_region rfl ?_
            simp -implicitDefEqProofs only [go_sem, ↓reduceIte]
            refine go_callK s q7 rfl ?_
            simp -implicitDefEqProofs only [go_sem, ↓reduceIte, mset]
            refine hK _ ?_; clear hK
            refine bwp_seq fun K hK => bwp_region rfl ?_
            simp -implicitDefEqProofs only [go_sem, ↓reduceIte]
            refine loc2_callK hs' hg rfl ?_
            intro l q8 h8
            simp -implicitDefEqProofs only [go_sem, ↓reduceIte, mset]
            refine hK _ ?_; clear hK
            refine bwp_seq fun K hK => bwp_region rfl ?_
            simp -implicitDefEqProofs only [go_sem, ↓reduceIte]
            refine opd2_callK hs h8.rs rfl ?_
            intro x q9 h9
            simp -implicitDefEqProofs only [go_sem, ↓reduceIte, mset]
            refine hK _ ?_; clear hK
            refine bwp_region rfl ?_
            simp -implicitDefEqProofs only [go_sem, ↓reduceIte]
            refine opd2_callK hs h9.rs rfl ?_
            intro y q10 h10
            simp -implicitDefEqProofs only [go_sem, ↓reduceIte, mset]
            refine fin _ q10 ⟨4, rg, l, x, 0, y, 0⟩ (Leads.ent [(0, 0), (1, 1), (2, 2)] ⟨by simp [entT, fget, AV.ren, renL, pget], by simp [entM, pinv, mget, mset, renL, AV.ren, pget, rdC, z9, insC, Ins.cells], rfl, rfl⟩) ?_
            exact up2 (RQ.take_no h6 hb6 (RQ.take_yes h7 hb7 (RQ.bind h8 (RQ.bind h9 (RQ.bind h10 (RQ.ret h10.rs))))))
          | false =>
            refine bwp_cond false (by simp [ev, fget]) (fun h => nomatch h) (fun _ => ?_)
            refine bwp_seq fun K hK => bwp_region rfl ?_
            simp -implicitDefEqProofs only [go_sem, ↓reduceIte]
            refine opd2_callK (r := q7) hs h7.rs rfl ?_
            intro x q8 h8
            simp -implicitDefEqProofs only [go_sem, ↓reduceIte, mset]
            refine hK _ ?_; clear hK
            refine bwp_seq fun K hK => bwp_region rfl ?_
            simp -implicitDefEqProofs only [go_sem, ↓reduceIte]
            refine hK _ ?_; clear hK
            refine bwp_seq fun K hK => bwp_region rfl ?_
            simp -implicitDefEqProofs only [go_sem, ↓reduceIte]
            refine look_callK (r := q8) hs' h8.rs rfl ?_
            intro q9 h9
            have up3 : ∀ {x' : Ins} {q' : RSt}, RQ s (thn (posR (thn σ5 (tOpd.run s))) ((PT.cur fun d y => if d = 3 ∧ (opW y).2 = true then .eat (tOpd.bind fun z => .ret (⟨5, rg, 0, x, (opW y).1, z, 0⟩ : Ins)) else .ret ⟨5, rg, 0, x, 0, ⟨-1, 0⟩, 0⟩).run s)) x' q' → RQ s (thn σ (tIns.run s)) x' q' :=
              fun hq => up2 (RQ.take_no h6 hb6 (RQ.take_no h7 hb7 (RQ.bind h8 hq)))
            generalize posR (thn σ5 (tOpd.run s)) = σ9 at h9 up3
            have stop : (q9.code = 0 → q9.tok.kd = 3 → (opW q9.tok.tx).2 = false) → RQ s (thn σ (tIns.run s)) ⟨5, rg, 0, x, 0, ⟨-1, 0⟩, 0⟩ q9 := by
              intro hno
              refine up3 ?_
              cases σ9 with
              | error e => exact h9.rs
              | ok a =>
                refine RQ.cur h9 ?_
                rw [if_neg (fun hc => by rw [hno h9.code hc.1] at hc; cases hc.2)]
                exact RQ.ret h9.rs
            by_cases hc : q9.code = 0
            · rw [lkT_ok hc]
              simp -implicitDefEqProofs only [go_sem, ↓reduceIte, mset]
              refine hK _ ?_; clear hK
              by_cases hk : q9.tok.kd = 3
              · refine bwp_seq fun K hK => bwp_region rfl ?_
                simp -implicitDefEqProofs only [go_sem, ↓reduceIte, eq_true hk, decide_true]
                refine hK _ ?_; clear hK
                refine bwp_cond true (by simp [ev, fget]) (fun _ => ?_) (fun h => nomatch h)
                have kop := refOp_pure q9.tok.tx
                refine bwp_seq fun K hK => bwp_region rfl ?_
                simp -implicitDefEqProofs only [go_sem, ↓reduceIte]
                repeat' (first
                  | (refine gateK_split (fun hb => ?_) (fun hb => ?_) <;> simp -implicitDefEqProofs only [go_sem, ↓reduceIte, hb])
                  | (refine dGateK_split (fun hb => ?_) (fun hb => ?_) <;> simp -implicitDefEqProofs only [go_sem, ↓reduceIte, hb])
                  | (refine callK_pure (kop) rfl rfl ?_; simp -implicitDefEqProofs only [go_sem, ↓reduceIte])
                  | (refine dCallK_pure (kop) rfl rfl ?_; simp -implicitDefEqProofs only [go_sem, ↓reduceIte])
                  | (rw [if_pos (by (try simp only [List.length_append, List.length_cons, List.length_nil, List.length_map]); omega)]; simp -implicitDefEqProofs only [go_sem, ↓reduceIte]))
                refine hK _ ?_; clear hK
                refine bwp_seq fun K hK => bwp_region rfl ?_
                simp -implicitDefEqProofs only [go_sem, ↓reduceIte]
                refine hK _ ?_; clear hK
                cases ho : (opW q9.tok.tx).2 with
                | false =>
                  refine bwp_cond false (by simp [ev, fget, ho]) (fun h => nomatch h) (fun _ => ?_)
                  refine bwp_skip ?_
                  refine fin _ q9 ⟨5, rg, 0, x, 0, ⟨-1, 0⟩, 0⟩ (Leads.ent [(0, 0), (1, 1), (2, 2)] ⟨by simp [entT, fget, AV.ren, renL, pget], by simp [entM, pinv, mget, mset, renL, AV.ren, pget, rdC, z9, insC, Ins.cells], rfl, rfl⟩) (stop fun _ _ => ho)
                | true =>
                  have hg := h9.goT hc
                  refine bwp_cond true (by simp [ev, fget, ho]) (fun _ => ?_) (fun h => nomatch h)
                  refine bwp_seq fun K hK => bwp_region rfl ?_
                  simp -implicitDefEqProofs only [go_sem, ↓reduceIte]
                  refine go_callK s q9 rfl ?_
                  simp -implicitDefEqProofs only [go_sem, ↓reduceIte, mset]
                  refine hK _ ?_; clear hK
                  refine bwp_region rfl ?_
                  simp -implicitDefEqProofs only [go_sem, ↓reduceIte]
                  refine opd2_callK hs hg rfl ?_
                  intro z q10 h10
                  simp -implicitDefEqProofs only [go_sem, ↓reduceIte, mset]
                  refine fin _ q10 ⟨5, rg, 0, x, (opW q9.tok.tx).1, z, 0⟩ (Leads.ent [(0, 0), (1, 1), (2, 2)] ⟨by simp [entT, fget, AV.ren, renL, pget], by simp [entM, pinv, mget, mset, renL, AV.ren, pget, rdC, z9, insC, Ins.cells], rfl, rfl⟩) ?_
                  refine up3 (RQ.cur h9 ?_)
                  rw [if_pos ⟨hk, ho⟩]
                  exact RQ.eat (RQ.bind h10 (RQ.ret h10.rs))
              · refine bwp_seq fun K hK => bwp_region rfl ?_
                simp -implicitDefEqProofs only [go_sem, ↓reduceIte, eq_false hk, decide_false]
                refine hK _ ?_; clear hK
                refine bwp_cond false (by simp [ev, fget]) (fun h => nomatch h) (fun _ => ?_)
                refine bwp_skip ?_
                refine fin _ q9 ⟨5, rg, 0, x, 0, ⟨-1, 0⟩, 0⟩ (Leads.ent [(0, 0), (1, 1), (2, 2)] ⟨by simp [entT, fget, AV.ren, renL, pget], by simp [entM, pinv, mget, mset, renL, AV.ren, pget, rdC, z9, insC, Ins.cells], rfl, rfl⟩) (stop fun _ h => absurd h hk)
            · rw [lkT_no hc]
              simp -implicitDefEqProofs only [go_sem, ↓reduceIte, mset]
              refine hK _ ?_; clear hK
              refine bwp_seq fun K hK => bwp_region rfl ?_
              simp -implicitDefEqProofs only [go_sem, ↓reduceIte]
              refine hK _ ?_; clear hK
              refine bwp_cond false (by simp [ev, fget]) (fun h => nomatch h) (fun _ => ?_)
              refine bwp_skip ?_
              refine fin _ q9 ⟨5, rg, 0, x, 0, ⟨-1, 0⟩, 0⟩ (Leads.ent [(0, 0), (1, 1), (2, 2)] ⟨by simp [entT, fget, AV.ren, renL, pget], by simp [entM, pinv, mget, mset, renL, AV.ren, pget, rdC, z9, insC, Ins.cells], rfl, rfl⟩) (stop fun h => absurd h hc)
      | true =>
        have up : ∀ {x' : Ins} {q' : RSt}, RQ s (thn (thn σ (eatW s)) ((PT.cur fun d y => if d = 2 ∧ (parseW y).1 < 0 then .bad 6 else
            tNum.bind fun n => (tMust wIf).bind fun _ => tOpd.bind fun x => (tMust [61, 61]).bind fun _ => tOpd.bind fun y => PT.ret (⟨6, 0, 0, x, 0, y, n⟩ : Ins)).run s)) x' q' → RQ s (thn σ (tIns.run s)) x' q' :=
          fun hq => RQ.take_no h1 hb1 (RQ.take_no h2 hb2 (RQ.take_yes h3 hb3 hq))
        have hg := h3.goT (ikB_code hb3)
        generalize thn σ (eatW s) = σ3 at up hg
        refine bwp_cond true (by simp [ev, fget]) (fun _ => ?_) (fun h => nomatch h)
        refine bwp_seq fun K hK => bwp_region rfl ?_
        simp -implicitDefEqProofs only [go_sem, ↓reduceIte]
        refine go_callK s q3 rfl ?_
        simp -implicitDefEqProofs only [go_sem, ↓reduceIte, mset]
        refine hK _ ?_; clear hK
        refine bwp_seq fun K hK => bwp_region rfl ?_
        simp -implicitDefEqProofs only [go_sem, ↓reduceIte]
        refine hK _ ?_; clear hK
        refine bwp_seq fun K hK => bwp_region rfl ?_
        simp -implicitDefEqProofs only [go_sem, ↓reduceIte]
        refine num2_callK hs hg rfl ?_
        intro N q4 h4 hf
        simp -implicitDefEqProofs only [go_sem, ↓reduceIte, mset]
        refine hK _ ?_; clear hK
        refine bwp_seq fun K1 hK1 => ?_
        have rest : ∀ (t : Fr) (n : Nat) (q5 : RSt) (σ' : PR Nat), RS s σ' q5 → fget t 0 = .ptr 0 0 → fget t 2 = .ptr 1 0 → fget t 3 = .ptr 2 0 → fget t 4 = .d (.int .i64 N) → 3 ≤ n →
            (∀ x' q', RQ s (thn σ' (((tMust wIf).bind fun _ => tOpd.bind fun x => (tMust [61, 61]).bind fun _ => tOpd.bind fun y => PT.ret (⟨6, 0, 0, x, 0, y, N⟩ : Ins)).run s)) x' q' → RQ s (thn σ (tIns.run s)) x' q') →
            K1 ⟨t, [(0, rdC s q5), (1, z9), (2, insC ⟨6, 0, 0, ⟨0, 0⟩, 0, ⟨0, 0⟩, 0⟩)], n⟩ := by
          intro t n q5 σ' h5 g0 g2 g3 g4 hn hgoal
          refine hK1 _ ?_; clear hK1
          refine bwp_seq fun K hK => bwp_region (decide_eq_true (show 1 ≤ n by omega)) ?_
          simp -implicitDefEqProofs only [go_sem, ↓reduceIte, g0, g3, g4, insC, Ins.cells, mset]
          refine hK _ ?_; clear hK
          refine bwp_seq fun K hK => bwp_region (decide_eq_true (show 1 ≤ n by omega)) ?_
          simp -implicitDefEqProofs only [go_sem, ↓reduceIte, g0, g3]
          refine eat2_callK hs' h5 wIf rfl ?_
          intro q6 h6
          simp -implicitDefEqProofs only [go_sem, ↓reduceIte, mset, g0, g3]
          refine hK _ ?_; clear hK
          refine bwp_seq fun K hK => bwp_region (decide_eq_true (Nat.le_add_left 1 _)) ?_
          simp -implicitDefEqProofs only [go_sem, ↓reduceIte, g0, g3]
          refine opd2_callK hs h6.rs rfl ?_
          intro x q7 h7
          simp -implicitDefEqProofs only [go_sem, ↓reduceIte, mset, g0, g3]
          refine hK _ ?_; clear hK
          refine bwp_seq fun K hK => bwp_region (decide_eq_true (Nat.le_add_left 1 _)) ?_
          simp -implicitDefEqProofs only [go_sem, ↓reduceIte, g0, g3]
          refine eat2_callK hs' h7.rs [61, 61] rfl ?_
          intro q8 h8
          simp -implicitDefEqProofs only [go_sem, ↓reduceIte, mset, g0, g3]
          refine hK _ ?_; clear hK
          refine bwp_region (decide_eq_true (Nat.le_add_left 1 _)) ?_
          simp -implicitDefEqProofs only [go_sem, ↓reduceIte, g0, g3]
          refine opd2_callK hs h8.rs rfl ?_
          intro y q9 h9
          simp -implicitDefEqProofs only [go_sem, ↓reduceIte, mset, g0, g3]
          refine fin _ q9 ⟨6, 0, 0, x, 0, y, N⟩ (Leads.ent [(0, 0), (1, 1), (2, 2)] ⟨by simp [entT, fget, AV.ren, renL, pget, g0, g2, g3], by simp [entM, pinv, mget, mset, renL, AV.ren, pget, rdC, z9, insC, Ins.cells], rfl, rfl⟩) ?_
          refine hgoal _ _ ?_
          exact RQ.bind h6 (RQ.bind h7 (RQ.bind h8 (RQ.bind h9 (RQ.ret h9.rs))))
        rcases hf with ⟨hc, a, rfl, hk, hx, hpl, hra⟩ | ⟨hc, hk⟩
        · by_cases hneg : N < 0
          · refine bwp_seq fun K hK => bwp_region rfl ?_
            simp -implicitDefEqProofs only [go_sem, ↓reduceIte, rdC, eq_true hc, eq_true hneg, decide_true]
            refine hK _ ?_; clear hK
            refine bwp_cond true (by simp [ev, fget]) (fun _ => ?_) (fun h => nomatch h)
            refine bwp_region rfl ?_
            simp -implicitDefEqProofs only [go_sem, ↓reduceIte]
            refine rest _ _ ⟨q4.pos, q4.tok, q4.to, 6, q4.tok.pl⟩ (.error (6, q4.tok.pl)) (.inr ⟨_, rfl, rfl, (by decide : (6 : Int) ≠ 0), rfl⟩) rfl rfl rfl rfl (by decide) ?_
            intro x' q' hq'
            refine up ?_
            simp only [thn, PT.run]
            rw [if_pos ⟨hk, by rw [← hx]; exact hneg⟩, PT.run, ← hpl]
            exact hq'
          · refine bwp_seq fun K hK => bwp_region rfl ?_
            simp -implicitDefEqProofs only [go_sem, ↓reduceIte, rdC, eq_true hc, eq_false hneg, decide_true, decide_false]
            refine hK _ ?_; clear hK
            refine bwp_cond false (by simp [ev, fget]) (fun h => nomatch h) (fun _ => ?_)
            refine bwp_skip ?_
            refine rest _ _ q4 _ h4.rs rfl rfl rfl rfl (by decide) ?_
            intro x' q' hq'
            refine up ?_
            simp only [thn, PT.run]
            rw [if_neg (fun hh => hneg (by rw [hx]; exact hh.2))]
            exact RQ.bind (σ := .ok a) h4 hq'
        · refine bwp_seq fun K hK => bwp_region rfl ?_
          simp -implicitDefEqProofs only [go_sem, ↓reduceIte, rdC, eq_false hc, decide_false]
          refine hK _ ?_; clear hK
          refine bwp_cond false (by simp [ev, fget]) (fun h => nomatch h) (fun _ => ?_)
          refine bwp_skip ?_
          refine rest _ _ q4 _ h4.rs rfl rfl rfl rfl (by decide) ?_
          intro x' q' hq'
          refine up ?_
          cases σ3 with
          | error e => exact hq'
          | ok a =>
            simp only [thn, PT.run]
            rw [if_neg (fun hh => hk a rfl hh.1)]
            exact RQ.bind (σ := .ok a) h4 hq'
theorem ins2_callK {s : List UInt8} (hs : s.length ≤ 4000) {σ : PR Nat} {r : RSt} (h : RS s σ r) {j : Nat} {dst : Option Nat} {ops : List AOper} {K : St → Prop} {t : Fr} {m : Mem} {n : Nat} (hm : mget m j = some (rdC s r))
    (hk : ∀ (x : Ins) r', RQ s (thn σ (tInsE.run s)) x r' → runOps Tryz.prog ops ⟨putF t dst (.agg (insC x)), mset m j (rdC s r'), n + 1⟩ K) : callK Tryz.prog 44 [.ptr j 0] dst ops K t m n := by
  refine rd_callK (rest := []) (Q := fun v r' => ∃ x : Ins, v = .agg (insC x) ∧ RQ s (thn σ (tInsE.run s)) x r') (ins2_calls hs h) rfl ?_ hm ?_
  · rintro _ _ ⟨x, rfl, _⟩; exact insC_in _ x
  · rintro _ r' ⟨x, rfl, h⟩; exact hk x r' h
end Go.Proofs.YtpfbljkfbjjlkaaGreatDoor

/- The document's reader: atoms. -/
namespace Go.Proofs.YtpfbljkfbjjlkaaGreatDoor
open Go Go.Jq
set_option maxRecDepth 100000
set_option linter.unusedSimpArgs false
theorem RQ.bind_stop {α β : Type} {s : List UInt8} {σ : PR Nat} {t : PT α} {f : α → PT β} {y : β} {q' : RSt} (h : RL s (posR (thn σ (t.run s))) q') (he : q'.code ≠ 0) : RQ s (thn σ ((t.bind f).run s)) y q' := by
  cases σ with
  | error e => exact h.rs
  | ok a =>
    simp only [thn] at h ⊢
    rw [PT.run_bind]
    cases ht : t.run s a with
    | error e => rw [ht] at h; exact h.rs
    | ok p =>
      rw [ht] at h
      exact absurd h.code he
def z4 : List AV := [.d (.int .i64 0), .d (.int .i64 0), .d (.int .i64 0), .d (.int .i64 0)]
set_option maxHeartbeats 64000000 in
theorem atom2_calls {s : List UInt8} (hs : s.length ≤ 4000) {σ : PR Nat} {r : RSt} (h : RS s σ r) :
    ACalls Tryz.prog 45 [.ptr 0 0] [(0, rdC s r)] fun v m' => ∃ r', m' = [(0, rdC s r')] ∧ ∃ x : Atom, v = .agg (atC x) ∧ RQ s (thn σ (tAtom.run s)) x r' := by
  have hs' : s.length ≤ 140737488351232 := by omega
  have hld : ldk Tryz.prog 60 = some (some 4) := by kernel_rfl
  refine acalls_of Tryz.func45 ac45_ok Tryz.ntmps45 Tryz.results45 rfl ?_
  unfold ac45
  refine bwp_seq fun K hK => bwp_region rfl ?_
  simp -implicitDefEqProofs only [go_sem, ↓reduceIte]
  refine hK _ ?_; clear hK
  refine bwp_seq fun K hK => bwp_region rfl ?_
  simp -implicitDefEqProofs only [go_sem, ↓reduceIte]
  refine hK _ ?_; clear hK
  refine bwp_seq fun K0 hK0 => ?_
  have fin : ∀ (S : St) (q1 : RSt) (x1 : Atom), Leads 1 Tryz.f45.ntmps S ⟨[(0, .ptr 0 0), (2, .ptr 1 0), (3, .ptr 2 0)], [(0, rdC s q1), (1, z4), (2, atC x1)], 3⟩ → RQ s (thn σ (tWho.run s)) x1 q1 → K0 S := by
    intro S q1 x1 hS hq
    refine hK0 _ ?_; clear hK0
    refine bwp_leads hS ?_
    refine bwp_seq fun K hK => bwp_region rfl ?_
    simp -implicitDefEqProofs only [go_sem, ↓reduceIte, z4, atC, Atom.cells]
    refine eat2_callK hs' hq.rs [61] rfl ?_
    intro q2 h2
    simp -implicitDefEqProofs only [go_sem, ↓reduceIte, mset]
    refine hK _ ?_; clear hK
    refine bwp_seq fun K hK => bwp_region rfl ?_
    simp -implicitDefEqProofs only [go_sem, ↓reduceIte]
    refine num2_callK hs h2.rs rfl ?_
    intro N q3 h3 _
    simp -implicitDefEqProofs only [go_sem, ↓reduceIte, mset]
    refine hK _ ?_; clear hK
    refine bwp_seq fun K hK => bwp_region rfl ?_
    simp -implicitDefEqProofs only [go_sem, ↓reduceIte]
    refine hK _ ?_; clear hK
    refine bwp_ret ?_
    simp only [go_sem]
    refine aend_mem (.agg (atC { x1 with value := N })) [(0, 0)] [(0, rdC s q3)] ?_ rfl rfl ?_ ⟨q3, rfl, { x1 with value := N }, rfl, ?_⟩
    · simp [resA, resVs, resV, fget, mget, mset, loadA, hld, atC, Atom.cells]
    · simp [entM, pinv, mget, mset, renL, AV.ren, rdC, pget]
    · exact RQ.bind hq (RQ.bind h2 (RQ.bind h3 (RQ.ret h3.rs)))
  refine bwp_seq fun K hK => bwp_region rfl ?_
  simp -implicitDefEqProofs only [go_sem, ↓reduceIte]
  refine look_callK hs' h rfl ?_
  intro q hq
  by_cases hc : q.code = 0
  · rw [lkT_ok hc]
    have hp := hq.pos hc
    have kp := refParse_pure (s := q.tok.tx) (Nat.le_trans hp.2.1 (Nat.le_trans hs (by decide)))
    simp -implicitDefEqProofs only [go_sem, ↓reduceIte, mset]
    refine hK _ ?_; clear hK
    by_cases h2 : q.tok.kd = 2
    · rw [hp.2.2 h2] at kp
      refine bwp_seq fun K hK => bwp_region rfl ?_
      simp -implicitDefEqProofs only [go_sem, ↓reduceIte, eq_true hc, eq_true h2, rdC, decide_true]
      refine hK _ ?_; clear hK
      refine bwp_cond true (by simp [ev, fget]) (fun _ => ?_) (fun h => nomatch h)
      refine bwp_seq fun K hK => bwp_region rfl ?_
      simp -implicitDefEqProofs only [go_sem, ↓reduceIte]
      repeat' (first
        | (refine gateK_split (fun hb => ?_) (fun hb => ?_) <;> simp -implicitDefEqProofs only [go_sem, ↓reduceIte, hb])
        | (refine dGateK_split (fun hb => ?_) (fun hb => ?_) <;> simp -implicitDefEqProofs only [go_sem, ↓reduceIte, hb])
        | (refine callK_pure (kp) rfl rfl ?_; simp -implicitDefEqProofs only [go_sem, ↓reduceIte])
        | (refine dCallK_pure (kp) rfl rfl ?_; simp -implicitDefEqProofs only [go_sem, ↓reduceIte])
        | (rw [if_pos (by (try simp only [List.length_append, List.length_cons, List.length_nil, List.length_map]); omega)]; simp -implicitDefEqProofs only [go_sem, ↓reduceIte]))
      refine hK _ ?_; clear hK
      generalize hpn : (parseW q.tok.tx).1 = pn at *
      generalize (refW q.tok.tx).2 = pb at *
      by_cases hbad : pn < 0 ∨ 9 < pn
      · have hstop : RL s (posR (thn σ (tWho.run s))) (failR q 7) := by
          cases σ with
          | error e => exact absurd hc hq.codeE
          | ok a =>
            have ht := hq.2.2.2.2.1
            have e : tWho.run s a = (PT.bad 7 : PT Atom).run s a := by
              unfold tWho
              simp only [PT.run]
              rw [← ht, if_pos h2, hpn, if_pos hbad]
              simp only [PT.run, ht]
            show RL s (posR (tWho.run s a)) _
            rw [e]
            exact hq.fail (by decide) (α := Atom)
        by_cases n1 : pn < 0
        · refine bwp_seq fun K1 hK1 => ?_
          refine bwp_seq fun K hK => bwp_region rfl ?_
          simp -implicitDefEqProofs only [go_sem, ↓reduceIte, eq_true n1, decide_true, decide_false]
          refine hK _ ?_; clear hK
          refine bwp_cond true (by simp [ev, fget]) (fun _ => ?_) (fun h => nomatch h)
          refine bwp_seq fun K hK => bwp_region rfl ?_
          simp -implicitDefEqProofs only [go_sem, ↓reduceIte]
          refine fail2_callK s q 7 rfl ?_
          simp -implicitDefEqProofs only [go_sem, ↓reduceIte, mset]
          refine hK _ ?_; clear hK
          refine bwp_seq fun K hK => bwp_region rfl ?_
          simp -implicitDefEqProofs only [go_sem, ↓reduceIte]
          refine hK _ ?_; clear hK
          refine bwp_ret ?_
          simp only [go_sem]
          refine aend_mem (.agg (atC ⟨-1, 0, 0, 0⟩)) [(0, 0)] [(0, rdC s (failR q 7))] ?_ rfl rfl ?_ ⟨_, rfl, ⟨-1, 0, 0, 0⟩, rfl, ?_⟩
          · simp [resA, resVs, resV, fget, mget, mset, loadA, hld, atC, Atom.cells]
          · simp [entM, pinv, mget, mset, renL, AV.ren, rdC, pget]
          · exact RQ.bind_stop hstop (failR_code (by decide))
        · have n2 : 9 < pn := by omega
          refine bwp_seq fun K1 hK1 => ?_
          refine bwp_seq fun K hK => bwp_region rfl ?_
          simp -implicitDefEqProofs only [go_sem, ↓reduceIte, eq_false n1, eq_true n2, decide_true, decide_false]
          refine hK _ ?_; clear hK
          refine bwp_cond true (by simp [ev, fget]) (fun _ => ?_) (fun h => nomatch h)
          refine bwp_seq fun K hK => bwp_region rfl ?_
          simp -implicitDefEqProofs only [go_sem, ↓reduceIte]
          refine fail2_callK s q 7 rfl ?_
          simp -implicitDefEqProofs only [go_sem, ↓reduceIte, mset]
          refine hK _ ?_; clear hK
          refine bwp_seq fun K hK => bwp_region rfl ?_
          simp -implicitDefEqProofs only [go_sem, ↓reduceIte]
          refine hK _ ?_; clear hK
          refine bwp_ret ?_
          simp only [go_sem]
          refine aend_mem (.agg (atC ⟨-1, 0, 0, 0⟩)) [(0, 0)] [(0, rdC s (failR q 7))] ?_ rfl rfl ?_ ⟨_, rfl, ⟨-1, 0, 0, 0⟩, rfl, ?_⟩
          · simp [resA, resVs, resV, fget, mget, mset, loadA, hld, atC, Atom.cells]
          · simp [entM, pinv, mget, mset, renL, AV.ren, rdC, pget]
          · exact RQ.bind_stop hstop (failR_code (by decide))
      · have n1 : ¬ pn < 0 := fun h => hbad (.inl h)
        have n2 : ¬ 9 < pn := fun h => hbad (.inr h)
        have hg := hq.goT hc
        refine bwp_seq fun K1 hK1 => ?_
        refine bwp_seq fun K hK => bwp_region rfl ?_
        simp -implicitDefEqProofs only [go_sem, ↓reduceIte, eq_false n1, eq_false n2, decide_false]
        refine hK _ ?_; clear hK
        refine bwp_cond false (by simp [ev, fget]) (fun h => nomatch h) (fun _ => ?_)
        refine bwp_skip ?_
        refine hK1 _ ?_; clear hK1
        refine bwp_seq fun K hK => bwp_region rfl ?_
        simp -implicitDefEqProofs only [go_sem, ↓reduceIte]
        refine go_callK s q rfl ?_
        simp -implicitDefEqProofs only [go_sem, ↓reduceIte, mset]
        refine hK _ ?_; clear hK
        refine bwp_seq fun K hK => bwp_region rfl ?_
        simp -implicitDefEqProofs only [go_sem, ↓reduceIte]
        refine hK _ ?_; clear hK
        refine bwp_seq fun K hK => bwp_region rfl ?_
        simp -implicitDefEqProofs only [go_sem, ↓reduceIte]
        refine eat2_callK hs' hg [58] rfl ?_
        intro q3 h3
        simp -implicitDefEqProofs only [go_sem, ↓reduceIte, mset]
        refine hK _ ?_; clear hK
        refine bwp_region rfl ?_
        simp -implicitDefEqProofs only [go_sem, ↓reduceIte]
        refine register2_callK hs' h3.rs rfl ?_
        intro rg q4 h4
        simp -implicitDefEqProofs only [go_sem, ↓reduceIte, mset]
        refine fin _ q4 ⟨pn, rg, 0, 0⟩ (Leads.ent [(0, 0), (1, 1), (2, 2)] ⟨by simp [entT, fget, AV.ren, renL, pget], by simp [entM, pinv, mget, mset, renL, AV.ren, pget, rdC, z4, atC, Atom.cells], rfl, rfl⟩) ?_
        refine RQ.cur hq ?_
        rw [if_pos h2, hpn, if_neg hbad]
        exact RQ.eat (RQ.bind h3 (RQ.bind h4 (RQ.ret h4.rs)))
    · refine bwp_seq fun K hK => bwp_region rfl ?_
      simp -implicitDefEqProofs only [go_sem, ↓reduceIte, eq_true hc, eq_false h2, rdC, decide_true, decide_false]
      refine hK _ ?_; clear hK
      refine bwp_cond false (by simp [ev, fget]) (fun h => nomatch h) (fun _ => ?_)
      refine bwp_region rfl ?_
      simp -implicitDefEqProofs only [go_sem, ↓reduceIte]
      refine loc2_callK (r := q) hs' hq.rs rfl ?_
      intro l q2 hq2
      simp -implicitDefEqProofs only [go_sem, ↓reduceIte, mset]
      refine fin _ q2 ⟨-1, 0, l, 0⟩ (Leads.ent [(0, 0), (1, 1), (2, 2)] ⟨by simp [entT, fget, AV.ren, renL, pget], by simp [entM, pinv, mget, mset, renL, AV.ren, pget, rdC, z4, atC, Atom.cells], rfl, rfl⟩) ?_
      refine RQ.cur hq ?_
      rw [if_neg h2]
      exact RQ.bind hq2 (RQ.ret hq2.rs)
  · rw [lkT_no hc]
    simp -implicitDefEqProofs only [go_sem, ↓reduceIte, mset]
    refine hK _ ?_; clear hK
    refine bwp_seq fun K hK => bwp_region rfl ?_
    simp -implicitDefEqProofs only [go_sem, ↓reduceIte, eq_false hc, rdC, decide_false]
    refine hK _ ?_; clear hK
    refine bwp_cond false (by simp [ev, fget]) (fun h => nomatch h) (fun _ => ?_)
    refine bwp_region rfl ?_
    simp -implicitDefEqProofs only [go_sem, ↓reduceIte]
    refine loc2_callK (r := q) hs' hq.rs rfl ?_
    intro l q2 hq2
    simp -implicitDefEqProofs only [go_sem, ↓reduceIte, mset]
    refine fin _ q2 ⟨-1, 0, l, 0⟩ (Leads.ent [(0, 0), (1, 1), (2, 2)] ⟨by simp [entT, fget, AV.ren, renL, pget], by simp [entM, pinv, mget, mset, renL, AV.ren, pget, rdC, z4, atC, Atom.cells], rfl, rfl⟩) ?_
    cases σ with
    | ok a => exact absurd hq.code hc
    | error e => exact hq2
theorem atom2_callK {s : List UInt8} (hs : s.length ≤ 4000) {σ : PR Nat} {r : RSt} (h : RS s σ r) {j : Nat} {dst : Option Nat} {ops : List AOper} {K : St → Prop} {t : Fr} {m : Mem} {n : Nat} (hm : mget m j = some (rdC s r))
    (hk : ∀ (x : Atom) r', RQ s (thn σ (tAtom.run s)) x r' → runOps Tryz.prog ops ⟨putF t dst (.agg (atC x)), mset m j (rdC s r'), n + 1⟩ K) : callK Tryz.prog 45 [.ptr j 0] dst ops K t m n := by
  refine rd_callK (rest := []) (Q := fun v r' => ∃ x : Atom, v = .agg (atC x) ∧ RQ s (thn σ (tAtom.run s)) x r') (atom2_calls hs h) rfl ?_ hm ?_
  · rintro _ _ ⟨x, rfl, _⟩; exact atC_in _ x
  · rintro _ r' ⟨x, rfl, h⟩; exact hk x r' h
end Go.Proofs.YtpfbljkfbjjlkaaGreatDoor

/- The document's reader once it has an error: nothing changes. -/
namespace Go.Proofs.YtpfbljkfbjjlkaaGreatDoor
open Go Go.Jq
set_option maxRecDepth 100000
set_option linter.unusedSimpArgs false
theorem dead_callK {P : Program} {f : Nat} {rest : List AV} {s : List UInt8} {r : RSt} {v : AV}
    (h : ACalls P f (.ptr 0 0 :: rest) [(0, rdC s r)] fun w m' => w = v ∧ m' = [(0, rdC s r)])
    (hr : inL (fun _ => none) rest = true) (hv : inB (fun _ => none) v = true)
    {j : Nat} {dst : Option Nat} {ops : List AOper} {K : St → Prop} {t : Fr} {m : Mem} {n : Nat} (hm : mget m j = some (rdC s r))
    (hk : runOps P ops ⟨putF t dst v, mset m j (rdC s r), n + 1⟩ K) : callK P f (.ptr j 0 :: rest) dst ops K t m n := by
  refine meth_callK (rest := rest) (Q := fun w c' => w = v ∧ c' = rdC s r) (h.mono fun w m' ⟨h1, h2⟩ => ⟨_, h2, h1, rfl⟩) hr (rdC_in _ s r) ?_ hm ?_
  · rintro w c' ⟨rfl, rfl⟩; exact ⟨hv, rdC_in _ s r⟩
  · rintro w c' ⟨rfl, rfl⟩; exact hk
section
variable {s : List UInt8} {r : RSt} (hc : ¬ r.code = 0)
include hc
theorem look_dead : ACalls Tryz.prog 46 [.ptr 0 0] [(0, rdC s r)] fun v m' => v = .agg [.d (.int .i64 4), .d (.str []), .d (.int .i64 0)] ∧ m' = [(0, rdC s r)] := by
  have h34 : ldk Tryz.prog 67 = some (some 3) := by kernel_rfl
  refine acalls_of Tryz.func46 ac46_ok Tryz.ntmps46 Tryz.results46 rfl ?_
  unfold ac46
  refine bwp_seq fun K hK => bwp_region rfl ?_
  simp -implicitDefEqProofs only [go_sem, ↓reduceIte]
  refine hK _ ?_; clear hK
  refine bwp_seq fun K1 hK1 => ?_
  refine bwp_seq fun K hK => bwp_region rfl ?_
  simp -implicitDefEqProofs only [go_sem, ↓reduceIte, rdC, eq_false hc]
  refine hK _ ?_; clear hK
  refine bwp_cond true (by simp [ev, fget]) (fun _ => ?_) (fun h => nomatch h)
  refine bwp_seq fun K hK => bwp_region rfl ?_
  simp -implicitDefEqProofs only [go_sem, ↓reduceIte]
  refine hK _ ?_; clear hK
  refine bwp_ret ?_
  simp only [go_sem]
  refine aend_mem (.agg [.d (.int .i64 4), .d (.str []), .d (.int .i64 0)]) [(0, 0)] [(0, rdC s r)] ?_ rfl rfl ?_ ⟨rfl, rfl⟩
  · simp [resA, resVs, resV, fget, mget, mset, loadA, h34]
  · simp [entM, pinv, mget, mset, renL, AV.ren, rdC, pget]
theorem is_dead (x : List UInt8) : ACalls Tryz.prog 40 [.ptr 0 0, .d (.str x)] [(0, rdC s r)] fun v m' => v = .d (.bool false) ∧ m' = [(0, rdC s r)] := by
  refine acalls_of Tryz.func40 ac40_ok Tryz.ntmps40 Tryz.results40 rfl ?_
  unfold ac40
  refine bwp_seq fun K hK => bwp_region rfl ?_
  simp -implicitDefEqProofs only [go_sem, ↓reduceIte]
  refine hK _ ?_; clear hK
  refine bwp_seq fun K hK => bwp_region rfl ?_
  simp -implicitDefEqProofs only [go_sem, ↓reduceIte]
  refine dead_callK (look_dead hc) rfl rfl rfl ?_
  simp -implicitDefEqProofs only [go_sem, ↓reduceIte, mset]
  refine hK _ ?_; clear hK
  refine bwp_seq fun K hK => bwp_region rfl ?_
  simp -implicitDefEqProofs only [go_sem, ↓reduceIte, eq_false hc, rdC, decide_false]
  refine hK _ ?_; clear hK
  refine bwp_ret ?_
  simp only [go_sem]
  refine aend_mem (.d (.bool false)) [(0, 0)] [(0, rdC s r)] ?_ rfl rfl ?_ ⟨rfl, rfl⟩
  · simp [resA, resVs, resV, fget]
  · simp [entM, pinv, mget, mset, renL, AV.ren, rdC, pget]
theorem fail_dead (c : Int) : ACalls Tryz.prog 47 [.ptr 0 0, .d (.int .i64 c)] [(0, rdC s r)] fun v m' => v = .tup [] ∧ m' = [(0, rdC s r)] := by
  refine acalls_of Tryz.func47 ac47_ok Tryz.ntmps47 Tryz.results47 rfl ?_
  unfold ac47
  refine bwp_seq fun K hK => bwp_region rfl ?_
  simp -implicitDefEqProofs only [go_sem, ↓reduceIte, rdC, eq_false hc]
  refine hK _ ?_; clear hK
  refine bwp_cond false (by simp [ev, fget]) (fun h => nomatch h) (fun _ => ?_)
  refine bwp_skip ?_
  refine ⟨.tup [], rfl, [(0, 0)], [(0, rdC s r)], rfl, rfl, ?_, ⟨rfl, rfl⟩⟩
  simp [entM, pinv, mget, mset, renL, AV.ren, rdC, pget]
theorem eat_dead (x : List UInt8) : ACalls Tryz.prog 38 [.ptr 0 0, .d (.str x)] [(0, rdC s r)] fun v m' => v = .tup [] ∧ m' = [(0, rdC s r)] := by
  refine acalls_of Tryz.func38 ac38_ok Tryz.ntmps38 Tryz.results38 rfl ?_
  unfold ac38
  refine bwp_seq fun K1 hK1 => ?_
  refine bwp_seq fun K hK => bwp_region rfl ?_
  simp -implicitDefEqProofs only [go_sem, ↓reduceIte]
  refine dead_callK (is_dead hc x) rfl rfl rfl ?_
  simp -implicitDefEqProofs only [go_sem, ↓reduceIte, mset]
  refine hK _ ?_; clear hK
  refine bwp_cond false (by simp [ev, fget]) (fun h => nomatch h) (fun _ => ?_)
  refine bwp_skip ?_
  refine hK1 _ ?_; clear hK1
  refine bwp_region rfl ?_
  simp -implicitDefEqProofs only [go_sem, ↓reduceIte]
  refine dead_callK (fail_dead hc 6) rfl rfl rfl ?_
  simp -implicitDefEqProofs only [go_sem, ↓reduceIte, mset]
  refine ⟨.tup [], rfl, [(0, 0)], [(0, rdC s r)], rfl, rfl, ?_, ⟨rfl, rfl⟩⟩
  simp [entM, pinv, mget, mset, renL, AV.ren, rdC, pget]
theorem num_dead : ACalls Tryz.prog 43 [.ptr 0 0] [(0, rdC s r)] fun v m' => v = .d (.int .i64 0) ∧ m' = [(0, rdC s r)] := by
  refine acalls_of Tryz.func43 ac43_ok Tryz.ntmps43 Tryz.results43 rfl ?_
  unfold ac43
  refine bwp_seq fun K hK => bwp_region rfl ?_
  simp -implicitDefEqProofs only [go_sem, ↓reduceIte]
  refine hK _ ?_; clear hK
  refine bwp_seq fun K hK => bwp_region rfl ?_
  simp -implicitDefEqProofs only [go_sem, ↓reduceIte]
  refine dead_callK (look_dead hc) rfl rfl rfl ?_
  simp -implicitDefEqProofs only [go_sem, ↓reduceIte, mset]
  refine hK _ ?_; clear hK
  refine bwp_seq fun K1 hK1 => ?_
  refine bwp_seq fun K hK => bwp_region rfl ?_
  simp -implicitDefEqProofs only [go_sem, ↓reduceIte, eq_false hc, rdC, decide_false]
  refine hK _ ?_; clear hK
  refine bwp_cond true (by simp [ev, fget]) (fun _ => ?_) (fun h => nomatch h)
  refine bwp_seq fun K hK => bwp_region rfl ?_
  simp -implicitDefEqProofs only [go_sem, ↓reduceIte]
  refine dead_callK (fail_dead hc 6) rfl rfl rfl ?_
  simp -implicitDefEqProofs only [go_sem, ↓reduceIte, mset]
  refine hK _ ?_; clear hK
  refine bwp_seq fun K hK => bwp_region rfl ?_
  simp -implicitDefEqProofs only [go_sem, ↓reduceIte]
  refine hK _ ?_; clear hK
  refine bwp_ret ?_
  simp only [go_sem]
  refine aend_mem (.d (.int .i64 0)) [(0, 0)] [(0, rdC s r)] ?_ rfl rfl ?_ ⟨rfl, rfl⟩
  · simp [resA, resVs, resV, fget]
  · simp [entM, pinv, mget, mset, renL, AV.ren, rdC, pget]
theorem loc_dead : ACalls Tryz.prog 42 [.ptr 0 0] [(0, rdC s r)] fun v m' => v = .d (.int .i64 0) ∧ m' = [(0, rdC s r)] := by
  refine acalls_of Tryz.func42 ac42_ok Tryz.ntmps42 Tryz.results42 rfl ?_
  unfold ac42
  refine bwp_seq fun K hK => bwp_region rfl ?_
  simp -implicitDefEqProofs only [go_sem, ↓reduceIte]
  refine hK _ ?_; clear hK
  refine bwp_seq fun K hK => bwp_region rfl ?_
  simp -implicitDefEqProofs only [go_sem, ↓reduceIte]
  refine dead_callK (look_dead hc) rfl rfl rfl ?_
  simp -implicitDefEqProofs only [go_sem, ↓reduceIte, mset]
  refine hK _ ?_; clear hK
  refine bwp_seq fun K1 hK1 => ?_
  refine bwp_block ?_
  refine bwp_seq fun K hK => bwp_region rfl ?_
  simp -implicitDefEqProofs only [go_sem, ↓reduceIte, eq_false hc, rdC, decide_true, decide_false]
  refine hK _ ?_; clear hK
  refine bwp_cond true (by simp [ev, fget]) (fun _ => ?_) (fun h => nomatch h)
  refine bwp_seq fun K hK => bwp_region rfl ?_
  simp -implicitDefEqProofs only [go_sem, ↓reduceIte]
  refine hK _ ?_; clear hK
  refine bwp_ret ?_
  simp only [go_sem]
  refine aend_mem (.d (.int .i64 0)) [(0, 0)] [(0, rdC s r)] ?_ rfl rfl ?_ ⟨rfl, rfl⟩
  · simp [resA, resVs, resV, fget]
  · simp [entM, pinv, mget, mset, renL, AV.ren, rdC, pget]
theorem register_dead : ACalls Tryz.prog 94 [.ptr 0 0] [(0, rdC s r)] fun v m' => v = .d (.int .i64 0) ∧ m' = [(0, rdC s r)] := by
  refine acalls_of Tryz.func94 ac94_ok Tryz.ntmps94 Tryz.results94 rfl ?_
  unfold ac94
  refine bwp_seq fun K hK => bwp_region rfl ?_
  simp -implicitDefEqProofs only [go_sem, ↓reduceIte]
  refine hK _ ?_; clear hK
  refine bwp_seq fun K hK => bwp_region rfl ?_
  simp -implicitDefEqProofs only [go_sem, ↓reduceIte]
  refine dead_callK (look_dead hc) rfl rfl rfl ?_
  simp -implicitDefEqProofs only [go_sem, ↓reduceIte, mset]
  refine hK _ ?_; clear hK
  refine bwp_seq fun K1 hK1 => ?_
  refine bwp_block ?_
  refine bwp_seq fun K hK => bwp_region rfl ?_
  simp -implicitDefEqProofs only [go_sem, ↓reduceIte, eq_false hc, rdC, decide_true, decide_false]
  refine hK _ ?_; clear hK
  refine bwp_cond true (by simp [ev, fget]) (fun _ => ?_) (fun h => nomatch h)
  refine bwp_seq fun K hK => bwp_region rfl ?_
  simp -implicitDefEqProofs only [go_sem, ↓reduceIte]
  refine hK _ ?_; clear hK
  refine bwp_ret ?_
  simp only [go_sem]
  refine aend_mem (.d (.int .i64 0)) [(0, 0)] [(0, rdC s r)] ?_ rfl rfl ?_ ⟨rfl, rfl⟩
  · simp [resA, resVs, resV, fget]
  · simp [entM, pinv, mget, mset, renL, AV.ren, rdC, pget]
theorem operand_dead : ACalls Tryz.prog 93 [.ptr 0 0] [(0, rdC s r)] fun v m' => v = .agg [.d (.int .i64 0), .d (.int .i64 0)] ∧ m' = [(0, rdC s r)] := by
  have h84 : ldk Tryz.prog 53 = some (some 2) := by kernel_rfl
  refine acalls_of Tryz.func93 ac93_ok Tryz.ntmps93 Tryz.results93 rfl ?_
  unfold ac93
  refine bwp_seq fun K hK => bwp_region rfl ?_
  simp -implicitDefEqProofs only [go_sem, ↓reduceIte]
  refine hK _ ?_; clear hK
  refine bwp_seq fun K hK => bwp_region rfl ?_
  simp -implicitDefEqProofs only [go_sem, ↓reduceIte]
  refine dead_callK (look_dead hc) rfl rfl rfl ?_
  simp -implicitDefEqProofs only [go_sem, ↓reduceIte, mset]
  refine hK _ ?_; clear hK
  refine bwp_seq fun K1 hK1 => ?_
  refine bwp_seq fun K hK => bwp_region rfl ?_
  simp -implicitDefEqProofs only [go_sem, ↓reduceIte, eq_false hc, rdC, decide_false]
  refine hK _ ?_; clear hK
  refine bwp_cond false (by simp [ev, fget]) (fun h => nomatch h) (fun _ => ?_)
  refine bwp_skip ?_
  refine hK1 _ ?_; clear hK1
  refine bwp_seq fun K hK => bwp_region rfl ?_
  simp -implicitDefEqProofs only [go_sem, ↓reduceIte]
  refine dead_callK (register_dead hc) rfl rfl rfl ?_
  simp -implicitDefEqProofs only [go_sem, ↓reduceIte, mset]
  refine hK _ ?_; clear hK
  refine bwp_ret ?_
  simp only [go_sem]
  refine aend_mem (.agg [.d (.int .i64 0), .d (.int .i64 0)]) [(0, 0)] [(0, rdC s r)] ?_ rfl rfl ?_ ⟨rfl, rfl⟩
  · simp [resA, resVs, resV, fget, mget, mset, loadA, h84]
  · simp [entM, pinv, mget, mset, renL, AV.ren, rdC, pget]
set_option maxHeartbeats 16000000 in
theorem ins_dead : ACalls Tryz.prog 44 [.ptr 0 0] [(0, rdC s r)] fun v m' => v = .agg (insC ⟨5, 0, 0, ⟨0, 0⟩, 0, ⟨-1, 0⟩, 0⟩) ∧ m' = [(0, rdC s r)] := by
  have hld : ldk Tryz.prog 55 = some (some 9) := by kernel_rfl
  refine acalls_of Tryz.func44 ac44_ok Tryz.ntmps44 Tryz.results44 rfl ?_
  unfold ac44
  refine bwp_seq fun K hK => bwp_region rfl ?_
  simp -implicitDefEqProofs only [go_sem, ↓reduceIte]
  refine hK _ ?_; clear hK
  refine bwp_seq fun K hK => bwp_region rfl ?_
  simp -implicitDefEqProofs only [go_sem, ↓reduceIte]
  refine hK _ ?_; clear hK
  refine bwp_seq fun K0 hK0 => ?_
  refine bwp_block ?_
  refine bwp_seq fun K hK => bwp_region rfl ?_
  simp -implicitDefEqProofs only [go_sem, ↓reduceIte]
  refine dead_callK (is_dead hc wStore) rfl rfl rfl ?_
  simp -implicitDefEqProofs only [go_sem, ↓reduceIte, mset]
  refine hK _ ?_; clear hK
  refine bwp_cond false (by simp [ev, fget]) (fun h => nomatch h) (fun _ => ?_)
  refine bwp_seq fun K hK => bwp_region rfl ?_
  simp -implicitDefEqProofs only [go_sem, ↓reduceIte]
  refine dead_callK (is_dead hc wFence) rfl rfl rfl ?_
  simp -implicitDefEqProofs only [go_sem, ↓reduceIte, mset]
  refine hK _ ?_; clear hK
  refine bwp_cond false (by simp [ev, fget]) (fun h => nomatch h) (fun _ => ?_)
  refine bwp_seq fun K hK => bwp_region rfl ?_
  simp -implicitDefEqProofs only [go_sem, ↓reduceIte]
  refine dead_callK (is_dead hc wSkip) rfl rfl rfl ?_
  simp -implicitDefEqProofs only [go_sem, ↓reduceIte, mset]
  refine hK _ ?_; clear hK
  refine bwp_cond false (by simp [ev, fget]) (fun h => nomatch h) (fun _ => ?_)
  refine bwp_seq fun K hK => bwp_region rfl ?_
  simp -implicitDefEqProofs only [go_sem, ↓reduceIte]
  refine dead_callK (register_dead hc) rfl rfl rfl ?_
  simp -implicitDefEqProofs only [go_sem, ↓reduceIte, mset]
  refine hK _ ?_; clear hK
  refine bwp_seq fun K hK => bwp_region rfl ?_
  simp -implicitDefEqProofs only [go_sem, ↓reduceIte]
  refine dead_callK (eat_dead hc [61]) rfl rfl rfl ?_
  simp -implicitDefEqProofs only [go_sem, ↓reduceIte, mset]
  refine hK _ ?_; clear hK
  refine bwp_block ?_
  refine bwp_seq fun K hK => bwp_region rfl ?_
  simp -implicitDefEqProofs only [go_sem, ↓reduceIte]
  refine dead_callK (is_dead hc wLoad) rfl rfl rfl ?_
  simp -implicitDefEqProofs only [go_sem, ↓reduceIte, mset]
  refine hK _ ?_; clear hK
  refine bwp_cond false (by simp [ev, fget]) (fun h => nomatch h) (fun _ => ?_)
  refine bwp_seq fun K hK => bwp_region rfl ?_
  simp -implicitDefEqProofs only [go_sem, ↓reduceIte]
  refine dead_callK (is_dead hc wCas) rfl rfl rfl ?_
  simp -implicitDefEqProofs only [go_sem, ↓reduceIte, mset]
  refine hK _ ?_; clear hK
  refine bwp_cond false (by simp [ev, fget]) (fun h => nomatch h) (fun _ => ?_)
  refine bwp_seq fun K hK => bwp_region rfl ?_
  simp -implicitDefEqProofs only [go_sem, ↓reduceIte]
  refine dead_callK (operand_dead hc) rfl rfl rfl ?_
  simp -implicitDefEqProofs only [go_sem, ↓reduceIte, mset]
  refine hK _ ?_; clear hK
  refine bwp_seq fun K hK => bwp_region rfl ?_
  simp -implicitDefEqProofs only [go_sem, ↓reduceIte]
  refine hK _ ?_; clear hK
  refine bwp_seq fun K hK => bwp_region rfl ?_
  simp -implicitDefEqProofs only [go_sem, ↓reduceIte]
  refine dead_callK (look_dead hc) rfl rfl rfl ?_
  simp -implicitDefEqProofs only [go_sem, ↓reduceIte, mset]
  refine hK _ ?_; clear hK
  refine bwp_seq fun K hK => bwp_region rfl ?_
  simp -implicitDefEqProofs only [go_sem, ↓reduceIte]
  refine hK _ ?_; clear hK
  refine bwp_cond false (by simp [ev, fget]) (fun h => nomatch h) (fun _ => ?_)
  refine bwp_skip ?_
  refine hK0 _ ?_; clear hK0
  refine bwp_seq fun K hK => bwp_region rfl ?_
  simp -implicitDefEqProofs only [go_sem, ↓reduceIte]
  refine dead_callK (eat_dead hc [59]) rfl rfl rfl ?_
  simp -implicitDefEqProofs only [go_sem, ↓reduceIte, mset]
  refine hK _ ?_; clear hK
  refine bwp_seq fun K hK => bwp_region rfl ?_
  simp -implicitDefEqProofs only [go_sem, ↓reduceIte]
  refine hK _ ?_; clear hK
  refine bwp_ret ?_
  simp only [go_sem]
  refine aend_mem (.agg (insC ⟨5, 0, 0, ⟨0, 0⟩, 0, ⟨-1, 0⟩, 0⟩)) [(0, 0)] [(0, rdC s r)] ?_ rfl rfl ?_ ⟨rfl, rfl⟩
  · simp [resA, resVs, resV, fget, mget, mset, loadA, hld, insC, Ins.cells]
  · simp [entM, pinv, mget, mset, renL, AV.ren, rdC, pget]
end
end Go.Proofs.YtpfbljkfbjjlkaaGreatDoor

/- The parser's threads. -/
namespace Go.Proofs.YtpfbljkfbjjlkaaGreatDoor
open Go Go.Jq
set_option maxRecDepth 100000
set_option linter.unusedSimpArgs false
structure TI (s : List UInt8) (σ0 : PR Nat) (f0 : Nat) (acc : List (List Ins)) (q : PSt) (σ : PR Nat) (f : Nat) : Prop where
  ps : PS s σ q
  to : ∀ l qf, PQ s (thn σ ((tThreads f).run s)) l qf → PQ s (thn σ0 ((tThreads f0).run s)) (acc ++ l) qf
  fuel : ∀ a, σ = .ok a → s.length - a < f
  len : acc.length + f ≤ f0 ∨ (∃ e, σ = .error e) ∧ acc.length ≤ f0
  rows : ∀ l ∈ acc, l.length ≤ 4001
theorem TI.next {s : List UInt8} {σ0 : PR Nat} {f0 : Nat} {acc : List (List Ins)} {q : PSt} {σ : PR Nat} {f : Nat} (h : TI s σ0 f0 acc q σ f) (hb : tkB q wThread = true) {x : List Ins} (hx : x.length ≤ 4001) {q' : PSt} (hq : PQ s (thn (thn σ (eatW s)) (tThread.run s)) x q') :
    ∃ f', f = f' + 1 ∧ TI s σ0 f0 (acc ++ [x]) q' (posR (thn (thn σ (eatW s)) (tThread.run s))) f' := by
  obtain ⟨a, rfl, h4⟩ := tkB_ok h.ps hb
  have hf := h.fuel a rfl
  obtain ⟨f', rfl⟩ : ∃ f', f = f' + 1 := ⟨f - 1, by omega⟩
  refine ⟨f', rfl, ⟨hq.ps, fun l qf hl => ?_, fun b hb' => ?_, ?_, fun l hl => ?_⟩⟩
  · have : PQ s (thn (.ok a) ((tThreads (f' + 1)).run s)) (x :: l) qf := PQ.take_yes h.ps hb (PQ.bind hq (PQ.bind hl (PQ.ret hl.ps)))
    have := h.to _ _ this
    simpa using this
  · obtain ⟨y, hy⟩ := posR_ok hb'
    obtain ⟨c, hc, hy'⟩ := thn_ok hy
    have h1 := eatW_lt h.ps.1 h.ps.2.1 h4 hc
    have h2 := tThread.run_le h1.2 hy'
    omega
  · rcases h.len with hl | ⟨⟨e, he⟩, _⟩
    · left
      simp only [List.length_append, List.length_cons, List.length_nil]
      omega
    · cases he
  · rcases List.mem_append.1 hl with h' | h'
    · exact h.rows l h'
    · simp only [List.mem_cons, List.not_mem_nil, or_false] at h'
      subst h'
      exact hx
theorem TI.done {s : List UInt8} {σ0 : PR Nat} {f0 : Nat} {acc : List (List Ins)} {q : PSt} {σ : PR Nat} {f : Nat} (h : TI s σ0 f0 acc q σ f) (hb : tkB q wThread = false) : PQ s (thn σ0 ((tThreads f0).run s)) acc q := by
  have : PQ s (thn σ ((tThreads f).run s)) [] q := by
    cases σ with
    | error e => exact h.ps
    | ok a =>
      have hf := h.fuel a rfl
      obtain ⟨f', rfl⟩ : ∃ f', f = f' + 1 := ⟨f - 1, by omega⟩
      exact PQ.take_no h.ps hb (PQ.ret h.ps)
  have := h.to _ _ this
  simpa using this
theorem TI.start {s : List UInt8} {σ : PR Nat} {q : PSt} (hs : s.length ≤ 4000) (h : PS s σ q) : TI s σ fuelP [] q σ fuelP :=
  ⟨h, fun l qf hl => hl, fun a _ => by unfold fuelP; omega, .inl (by simp), fun l hl => by cases hl⟩
theorem TI.short {s : List UInt8} {σ0 σ : PR Nat} {acc : List (List Ins)} {q : PSt} {f : Nat} (h : TI s σ0 fuelP acc q σ f) : acc.length ≤ 4001 := by
  rcases h.len with h | h
  · unfold fuelP at h; omega
  · exact h.2
def thrC (ts : List (List Ins)) : List DV := ts.map (slD Ins.cells)
theorem thrC_len (ts : List (List Ins)) : (thrC ts).length = ts.length := by simp [thrC]
theorem thrC_snoc (ts : List (List Ins)) (l : List Ins) : thrC (ts ++ [l]) = thrC ts ++ [slD Ins.cells l] := by simp [thrC]
def thrD (ts : List (List Ins)) : DV := .sl ts.length (thrC ts)
def ptS (s : List UInt8) (nm : List UInt8) (I : DV) (ts : List (List Ins)) (q : PSt) : St :=
  ⟨[(5, .ptr 0 0), (6, .ptr 2 0), (2, .ptr 4 0), (3, .ptr 5 0)], [(0, parC q), (1, lexQ s q), (2, [.d (.str nm), .d I, .sl 3 1 0 ts.length, .d (.int .i64 0), .d (.sl 0 [])]), (3, (thrC ts).map .d), (4, [.d (.str []), .d .nsl, .d .nsl, .d (.int .i64 0), .d .nsl]), (5, [.d (.int .i64 0), .d (.int .i64 0)])], 6⟩
set_option maxHeartbeats 32000000 in
theorem ppa_loop {s : List UInt8} (hs : s.length ≤ 4000) {nm : List UInt8} {I : DV} {σ0 : PR Nat} {q0 : PSt} (h0 : PS s σ0 q0) {Q : Exit → St → Prop}
    (hQ : ∀ acc q', acc.length ≤ 4001 → (∀ l ∈ acc, l.length ≤ 4001) → PQ s (thn σ0 ((tThreads fuelP).run s)) acc q' → Q (.exit 0) (ptS s nm I acc q')) :
    BWP Tryz.prog (mbound []) 77 (.loop ac9L0) (ptS s nm I [] q0) Q := by
  have hs' : s.length ≤ 140737488351232 := by omega
  refine bwp_fam (ι := { p : List (List Ins) × PSt × PR Nat × Nat // TI s σ0 fuelP p.1 p.2.1 p.2.2.1 p.2.2.2 }) (fun p => ptS s nm I p.1.1 p.1.2.1) (fun p => if p.1.2.1.code = 0 then p.1.2.2.2 + 1 else 0) ⟨([], q0, σ0, fuelP), TI.start hs h0⟩ ?_
  rintro ⟨⟨acc, q, σ, f⟩, hI⟩
  simp only at hI ⊢
  unfold ac9L0 ptS
  have hshort := hI.short
  have hcl : ((thrC acc).map AV.d).length = acc.length := by rw [List.length_map, thrC_len]
  have hcr : ∀ π, renL π ((thrC acc).map AV.d) = (thrC acc).map .d := fun π => renL_d _ _
  have hb1 : (acc.length + 1) * 24 ≤ 140737488351232 := by omega
  generalize hcs : (thrC acc).map AV.d = cs at *
  refine bwp_seq fun K1 hK1 => ?_
  refine bwp_seq fun K hK => bwp_region rfl ?_
  simp only [go_sem, ↓reduceIte]
  refine ptake_callK hs' hI.ps wThread rfl rfl ?_
  intro q1 hy hn
  cases hb : tkB q wThread with
  | false =>
    have hq1 := hn hb
    subst hq1
    simp only [go_sem, ↓reduceIte, mset]
    refine hK _ ?_; clear hK
    refine bwp_cond false (by simp [ev, fget]) (fun h => nomatch h) (fun _ => ?_)
    refine bwp_leads (S' := ptS s nm I acc q1) (Leads.ent [(0, 0), (1, 1), (2, 2), (3, 3), (4, 4), (5, 5)] ⟨by simp [ptS, entT, fget, AV.ren, renL, pget], ?_, rfl, rfl⟩) ?_
    · simp [ptS, entM, pinv, mget, mset, renL, AV.ren, pget, renL_append, -List.map_map, parC, lexQ, lexC, hcs, hcr]
    exact bwp_exit (hQ acc q1 hshort hI.rows (hI.done hb))
  | true =>
    have h1 := hy hb
    have hc : q.code = 0 := by
      obtain ⟨a, ha, _⟩ := tkB_ok hI.ps hb
      have := hI.ps
      rw [ha] at this
      exact this.code
    simp only [go_sem, ↓reduceIte, mset]
    refine hK _ ?_; clear hK
    refine bwp_cond true (by simp [ev, fget]) (fun _ => ?_) (fun h => nomatch h)
    refine bwp_skip ?_
    refine hK1 _ ?_; clear hK1
    refine bwp_block ?_
    refine bwp_region_any rfl rfl ?_
    repeat' (first
      | (refine runAny_two rfl rfl rfl ?_ ?_ <;> simp only [go_sem, ↓reduceIte, Nat.reduceEqDiff, Nat.reduceAdd, Nat.reduceLeDiff, Nat.reduceMul, Nat.reduceSub, Int.reduceLE, Int.reduceLT, Int.reduceEq, Int.reduceToNat, Int.reducePow, Int.reduceNeg, mset, hcl, hb1, List.length_append, List.length_map, List.length_cons, List.length_nil])
      | (refine runAny_one rfl rfl ?_; simp only [go_sem, ↓reduceIte, Nat.reduceEqDiff, Nat.reduceAdd, Nat.reduceLeDiff, Nat.reduceMul, Nat.reduceSub, Int.reduceLE, Int.reduceLT, Int.reduceEq, Int.reduceToNat, Int.reducePow, Int.reduceNeg, mset, hcl, hb1, List.length_append, List.length_map, List.length_cons, List.length_nil])
      | (refine pthread_callK hs h1 rfl rfl ?_; intro l q2 hl h2; simp only [go_sem, ↓reduceIte, Nat.reduceEqDiff, Nat.reduceAdd, Nat.reduceLeDiff, Nat.reduceMul, Nat.reduceSub, Int.reduceLE, Int.reduceLT, Int.reduceEq, Int.reduceToNat, Int.reducePow, Int.reduceNeg, mset, hcl, hb1, List.length_append, List.length_map, List.length_cons, List.length_nil]))
    all_goals refine runAny_done rfl ?_
    all_goals
      obtain ⟨f', rfl, hN⟩ := hI.next hb hl h2
      have hsn := thrC_snoc acc l
      refine ⟨⟨(acc ++ [l], q2, _, f'), hN⟩, ?_, ?_⟩
      · simp only [hc, if_true]
        split <;> omega
      · refine Leads.ent [(0, 0), (1, 1), (2, 2), (11, 3), (4, 4), (5, 5)] ⟨by simp [entT, fget, AV.ren, renL, pget], ?_, rfl, rfl⟩
        simp only [hsn, List.map_append, hcs]
        simp [entM, pinv, mget, mset, renL, AV.ren, pget, renL_append, -List.map_map, parC, lexQ, lexC, hcr]
theorem pcond_callK {s : List UInt8} (hs : s.length ≤ 4000) {σ : PR Nat} {q : PSt} (h : PS s σ q) (kind : Int) {dst : Option Nat} {ops : List AOper} {K : St → Prop} {t : Fr} {m : Mem} {n : Nat} (hm0 : mget m 0 = some (parC q)) (hm1 : mget m 1 = some (lexQ s q))
    (hk : ∀ (rows : List (List Atom)) q', (rows.length ≤ 4002 ∧ ∀ l ∈ rows, l.length ≤ 4002) → PQ s (thn σ ((tAsk kind).run s)) (kind, rows) q' → runOps Tryz.prog ops ⟨putF t dst (.agg [.d (.int .i64 kind), .d (rowsD rows)]), mset (mset m 0 (parC q')) 1 (lexQ s q'), n + 2⟩ K) : callK Tryz.prog 35 [.ptr 0 0, .d (.int .i64 kind)] dst ops K t m n := by
  refine par_callK (rest := [.d (.int .i64 kind)]) (Q := fun r q' => ∃ rows : List (List Atom), (rows.length ≤ 4002 ∧ ∀ l ∈ rows, l.length ≤ 4002) ∧ r = .agg [.d (.int .i64 kind), .d (rowsD rows)] ∧ PQ s (thn σ ((tAsk kind).run s)) (kind, rows) q') (pcond_calls hs h kind) rfl ?_ hm0 hm1 ?_
  · rintro _ _ ⟨_, _, rfl, _⟩; rfl
  · rintro _ q' ⟨l, h1, rfl, h⟩; exact hk l q' h1 h
theorem pnext0_calls {s : List UInt8} (hs : s.length ≤ 140737488351232) :
    ACalls Tryz.prog 29 [.ptr 0 0] [(0, parC ⟨noTok, 0, 0, 0, 0, 0, 0⟩), (1, lexQ s ⟨noTok, 0, 0, 0, 0, 0, 0⟩)] fun r m' => ∃ q', m' = [(0, parC q'), (1, lexQ s q')] ∧ (r = .tup [] ∧ PS s (goW s 0) q') := by
  refine acalls_of Tryz.func29 ac29_ok Tryz.ntmps29 Tryz.results29 rfl ?_
  unfold ac29
  refine bwp_seq fun K hK => bwp_region rfl ?_
  simp only [go_sem, ↓reduceIte, parC]
  refine hK _ ?_; clear hK
  refine bwp_cond true (by simp [ev, fget]) (fun _ => ?_) (fun h => nomatch h)
  refine bwp_region rfl ?_
  simp only [go_sem, ↓reduceIte]
  refine next_callK hs (Nat.zero_le _) ⟨Nat.le_refl _, Nat.zero_le _⟩ rfl ?_
  intro rd' hrd'
  by_cases h0 : (nextW s 0).2.2 = 0
  · have he : nextW s 0 = ((nextW s 0).1, (nextW s 0).2.1, 0) := by rw [← h0]
    have hee : errAt s 0 = 0 := by unfold errAt; rw [if_pos h0]
    have hgo : goW s 0 = .ok 0 := by unfold goW; rw [if_pos h0]
    rw [nxR_ok he, hee, h0]
    simp only [go_sem, ↓reduceIte, mset, lexQ, lexC]
    refine ⟨.tup [], rfl, [(0, 0), (1, 1)], [(0, parC ⟨(nextW s 0).1, 0, 0, (nextW s 0).2.1, rd', 0, 0⟩), (1, lexQ s ⟨(nextW s 0).1, 0, 0, (nextW s 0).2.1, rd', 0, 0⟩)], rfl, rfl, ?_, ⟨_, rfl, rfl, ?_⟩⟩
    · simp [entM, pinv, mget, mset, renL, AV.ren, parC, lexQ, lexC, pget]
    · rw [hgo]
      exact ⟨Nat.zero_le _, h0, rfl, rfl, rfl, rfl, hrd'.2.2.1, hrd'.2.1, rfl, rfl⟩
  · have hbad := curT_noTok h0
    have hgo : goW s 0 = .error ((nextW s 0).2.2, skipA s 0) := by unfold goW; rw [if_neg h0]
    have hee : errAt s 0 = skipA s 0 := by unfold errAt; rw [if_neg h0]
    rw [nxR_bad h0 hbad, hee]
    simp only [go_sem, ↓reduceIte, mset, lexQ, lexC]
    refine ⟨.tup [], rfl, [(0, 0), (1, 1)], [(0, parC ⟨noTok, (nextW s 0).2.2, skipA s 0, (nextW s 0).2.1, rd', (nextW s 0).2.2, skipA s 0⟩), (1, lexQ s ⟨noTok, (nextW s 0).2.2, skipA s 0, (nextW s 0).2.1, rd', (nextW s 0).2.2, skipA s 0⟩)], rfl, rfl, ?_, ⟨_, rfl, rfl, ?_⟩⟩
    · simp [entM, pinv, mget, mset, renL, AV.ren, parC, lexQ, lexC, pget, noTok]
    · rw [hgo]
      exact ⟨rfl, h0, rfl, (fun h => by cases h), Nat.zero_le _⟩
theorem pnext0_callK {s : List UInt8} (hs : s.length ≤ 140737488351232) {dst : Option Nat} {ops : List AOper} {K : St → Prop} {t : Fr} {m : Mem} {n : Nat} (hm0 : mget m 0 = some (parC ⟨noTok, 0, 0, 0, 0, 0, 0⟩)) (hm1 : mget m 1 = some (lexQ s ⟨noTok, 0, 0, 0, 0, 0, 0⟩))
    (hk : ∀ q', PS s (goW s 0) q' → runOps Tryz.prog ops ⟨putF t dst (.tup []), mset (mset m 0 (parC q')) 1 (lexQ s q'), n + 2⟩ K) : callK Tryz.prog 29 [.ptr 0 0] dst ops K t m n := by
  refine par_callK (rest := []) (Q := fun r q' => r = .tup [] ∧ PS s (goW s 0) q') (pnext0_calls hs) rfl ?_ hm0 hm1 ?_
  · rintro _ _ ⟨rfl, _⟩; rfl
  · rintro _ q' ⟨rfl, h⟩; exact hk q' h
theorem pTest_eq {s : List UInt8} (h : s.length ≤ 4000) : pTest s = match thn (goW s 0) (tTest.run s) with
    | .ok (t, _) => .ok t
    | .error e => .error e := by
  unfold pTest
  rw [if_neg (by omega)]
  cases goW s 0 <;> rfl
def testD (t : Test) : List DV := [.str t.name, slD Init.cells t.inits, thrD t.threads, .int .i64 t.kind, rowsD t.rows]
def testD0 : List DV := [.str [], .nsl, .nsl, .int .i64 0, .nsl]
def parseV : PR Test → AV
  | .ok t => .tup [.agg ((testD t).map .d), .agg [.d (.int .i64 0), .d (.int .i64 0)]]
  | .error e => .tup [.agg (testD0.map .d), .agg [.d (.int .i64 e.1), .d (.int .i64 e.2)]]
end Go.Proofs.YtpfbljkfbjjlkaaGreatDoor

/- The document's reader: its loops over what locations begin with, and over instructions. -/
namespace Go.Proofs.YtpfbljkfbjjlkaaGreatDoor
open Go Go.Jq
set_option maxRecDepth 100000
set_option linter.unusedSimpArgs false
structure NI {α : Type} (s : List UInt8) (one : PT α) (σ0 : PR Nat) (f0 : Nat) (acc : List α) (r : RSt) (σ : PR Nat) (f : Nat) : Prop where
  rs : RS s σ r
  to : ∀ l rf, RQ s (thn σ ((tMany one f).run s)) l rf → RQ s (thn σ0 ((tMany one f0).run s)) (acc ++ l) rf
  fuel : ∀ a, σ = .ok a → s.length - a < f
  len : acc.length + f ≤ f0 ∨ (r.code ≠ 0 ∧ acc.length ≤ f0 + 1)
theorem RL.okPos {s : List UInt8} {a : Nat} {r : RSt} (h : RL s (.ok a) r) : a ≤ s.length ∧ (nextW s a).2.2 = 0 := ⟨h.2.2.1, h.2.2.2.1⟩
theorem NI.next {α : Type} {s : List UInt8} {one : PT α} (hp : one.Prog) {σ0 : PR Nat} {f0 : Nat} {acc : List α} {r q : RSt} {a f : Nat} (h : NI s one σ0 f0 acc r (.ok a) f) (hc : r.code = 0) (hl : RL s (.ok a) q) (hb : ikB q [125] = false) {x : α} {q' : RSt} (hq : RQ s (one.run s a) x q') :
    ∃ f', f = f' + 1 ∧ NI s one σ0 f0 (acc ++ [x]) q' (posR (one.run s a)) f' := by
  have hf := h.fuel a rfl
  obtain ⟨f', rfl⟩ : ∃ f', f = f' + 1 := ⟨f - 1, by omega⟩
  refine ⟨f', rfl, ⟨hq.rs, fun l qf hl' => ?_, fun b hb' => ?_, ?_⟩⟩
  · have : RQ s (thn (.ok a) ((tMany one (f' + 1)).run s)) (x :: l) qf := by
      refine RQ.take_no hl hb ?_
      refine RQ.bind (σ := .ok a) hq (RQ.bind hl' ?_)
      exact RQ.ret hl'.rs
    have := h.to _ _ this
    simpa using this
  · obtain ⟨y, hy⟩ := posR_ok hb'
    have h1 := hp s a y b hl.okPos.1 hl.okPos.2 hy
    have h2 := one.run_le hl.okPos.1 hy
    omega
  · left
    rcases h.len with hl' | ⟨he, _⟩
    · simp only [List.length_append, List.length_cons, List.length_nil]
      omega
    · exact absurd hc he
theorem NI.dead {α : Type} {s : List UInt8} {one : PT α} {σ0 : PR Nat} {f0 : Nat} {acc : List α} {r q : RSt} {e : PE} {f : Nat} (h : NI s one σ0 f0 acc r (.error e) f) (hc : r.code = 0) (hl : RL s (.error e) q) (x : α) :
    NI s one σ0 f0 (acc ++ [x]) q (.error e) 0 := by
  refine ⟨hl.rs, fun l qf hl' => ?_, (fun a ha => by cases ha), ?_⟩
  · have := h.to (x :: l) qf hl'
    simpa using this
  · right
    refine ⟨hl.codeE, ?_⟩
    rcases h.len with hl' | ⟨he, _⟩
    · simp only [List.length_append, List.length_cons, List.length_nil]
      omega
    · exact absurd hc he
theorem NI.done {α : Type} {s : List UInt8} {one : PT α} {σ0 : PR Nat} {f0 : Nat} {acc : List α} {r q : RSt} {a f : Nat} (h : NI s one σ0 f0 acc r (.ok a) f) (hl : RL s (.ok a) q) (hb : ikB q [125] = true) {q' : RSt} (hq : RQ s (thn (.ok a) ((tMust [125]).run s)) () q') :
    RQ s (thn σ0 ((tMany one f0).run s)) acc q' := by
  have hf := h.fuel a rfl
  obtain ⟨f', rfl⟩ : ∃ f', f = f' + 1 := ⟨f - 1, by omega⟩
  have hk : isK (curT s a).kd (curT s a).tx [125] = true := by
    unfold ikB at hb
    simp only [Bool.and_eq_true] at hb
    rw [← hl.2.2.2.2.1]
    exact hb.2
  have : RQ s (thn (.ok a) ((tMany one (f' + 1)).run s)) [] q' := by
    unfold tMust at hq
    unfold tMany tTake
    simp only [thn, PT.run] at hq ⊢
    rw [if_pos hk] at hq ⊢
    simp only [PT.run] at hq ⊢
    cases he : eatW s a with
    | ok b => rw [he] at hq; exact ⟨rfl, hq.2⟩
    | error e => rw [he] at hq; exact hq
  have := h.to _ _ this
  simpa using this
theorem NI.err {α : Type} {s : List UInt8} {one : PT α} {σ0 : PR Nat} {f0 : Nat} {acc : List α} {r : RSt} {e : PE} {f : Nat} (h : NI s one σ0 f0 acc r (.error e) f) {q' : RSt} (hq : RQ s (thn (.error e) ((tMust [125]).run s)) () q') : RQ s (thn σ0 ((tMany one f0).run s)) acc q' := by
  have := h.to [] q' hq
  simpa using this
theorem NI.start {α : Type} {s : List UInt8} {one : PT α} {σ : PR Nat} {r : RSt} (hs : s.length ≤ 4000) (h : RS s σ r) : NI s one σ fuelP [] r σ fuelP :=
  ⟨h, fun l qf hl => hl, fun a _ => by unfold fuelP; omega, .inl (by simp)⟩
theorem NI.short {α : Type} {s : List UInt8} {one : PT α} {σ0 σ : PR Nat} {acc : List α} {r : RSt} {f : Nat} (h : NI s one σ0 fuelP acc r σ f) : acc.length ≤ 4002 := by
  rcases h.len with h | h
  · unfold fuelP at h; omega
  · exact h.2
def NE {α : Type} (s : List UInt8) (one : PT α) (σ0 : PR Nat) (acc : List α) (r : RSt) : Prop :=
  acc.length ≤ 4002 ∧ ∃ σ1, RS s σ1 r ∧ ∀ r', RQ s (thn σ1 ((tMust [125]).run s)) () r' → RQ s (thn σ0 ((tMany one fuelP).run s)) acc r'
theorem RS.codeE {s : List UInt8} {σ : PR Nat} {r : RSt} (h : RS s σ r) (hc : ¬ r.code = 0) : ∃ e, σ = .error e ∧ RL s (.error e) r := by
  rcases h with ⟨h, _⟩ | ⟨e, rfl, h⟩
  · exact absurd h hc
  · exact ⟨e, rfl, h⟩
def trS (s : List UInt8) (nm : List UInt8) (I : List Init) (T : List (List Ins)) (k : Int) (R : List (List Atom)) (r : RSt) : St :=
  ⟨[(4, .ptr 0 0), (5, .ptr 1 0), (2, .ptr 2 0), (3, .ptr 3 0)], [(0, rdC s r), (1, [.d (.str nm), .sl 4 2 0 I.length, .sl 5 1 0 T.length, .d (.int .i64 k), .sl 6 1 0 R.length]), (2, testD0.map .d), (3, [.d (.int .i64 0), .d (.int .i64 0)]), (4, (I.flatMap Init.cells).map .d), (5, (thrC T).map .d), (6, (rowsC R).map .d)], 7⟩
set_option maxHeartbeats 32000000 in
theorem tr0_loop {s : List UInt8} (hs : s.length ≤ 4000) {nm : List UInt8} {σ0 : PR Nat} {r0 : RSt} (h0 : RS s σ0 r0) {Q : Exit → St → Prop}
    (hQ : ∀ acc r', NE s tInit σ0 acc r' → Q (.exit 0) (trS s nm acc [] 0 [] r')) :
    BWP Tryz.prog (mbound []) Tryz.f10.ntmps (.loop ac10L0) (trS s nm [] [] 0 [] r0) Q := by
  have hs' : s.length ≤ 140737488351232 := by omega
  refine bwp_fam (ι := { p : List Init × RSt × PR Nat × Nat // NI s tInit σ0 fuelP p.1 p.2.1 p.2.2.1 p.2.2.2 }) (fun p => trS s nm p.1.1 [] 0 [] p.1.2.1) (fun p => if p.1.2.1.code = 0 then p.1.2.2.2 + 1 else 0) ⟨([], r0, σ0, fuelP), NI.start hs h0⟩ ?_
  rintro ⟨⟨acc, r, σ, f⟩, hI⟩
  simp only at hI ⊢
  unfold ac10L0 trS
  have hshort := hI.short
  have hfl : ((acc.flatMap Init.cells).map AV.d).length = acc.length * 2 := by rw [List.length_map, init_flat]
  have hb1 : (acc.length + 1) * 16 ≤ 140737488351232 := by omega
  refine bwp_seq fun K1 hK1 => ?_
  by_cases hc : r.code = 0
  · refine bwp_seq fun K hK => bwp_region rfl ?_
    simp -implicitDefEqProofs only [go_sem, ↓reduceIte, rdC, eq_true hc, decide_true]
    refine is2_callK (r := r) hs' hI.rs [125] rfl ?_
    intro q hq
    simp -implicitDefEqProofs only [go_sem, ↓reduceIte, mset]
    refine hK _ ?_; clear hK
    cases hb : ikB q [125] with
    | true =>
      refine bwp_cond false (by simp [ev, fget]) (fun h => nomatch h) (fun _ => ?_)
      refine bwp_leads (S' := trS s nm acc [] 0 [] q) (Leads.ent [(0, 0), (1, 1), (2, 2), (3, 3), (4, 4), (5, 5), (6, 6)] ⟨by simp [entT, fget, AV.ren, renL, pget, trS, rdC, testD0], by simp [entM, pinv, mget, mset, renL, AV.ren, pget, renL_append, -List.map_map, trS, rdC, testD0], rfl, rfl⟩) ?_
      obtain ⟨a, rfl, _, _⟩ := ikB_ok hq hb
      exact bwp_exit (hQ acc q ⟨hshort, _, hq.rs, fun r' hr' => hI.done hq hb hr'⟩)
    | false =>
      refine bwp_cond true (by simp [ev, fget]) (fun _ => ?_) (fun h => nomatch h)
      refine bwp_skip ?_
      refine hK1 _ ?_; clear hK1
      refine bwp_block ?_
      by_cases hcq : q.code = 0
      · obtain ⟨a, rfl⟩ : ∃ a, σ = .ok a := by
          cases σ with
          | ok a => exact ⟨a, rfl⟩
          | error e => exact absurd hcq hq.codeE
        refine bwp_seq fun K hK => bwp_region rfl ?_
        simp -implicitDefEqProofs only [go_sem, ↓reduceIte]
        refine loc2_callK (r := q) hs' hq.rs rfl ?_
        intro l q2 h2
        simp -implicitDefEqProofs only [go_sem, ↓reduceIte, mset]
        refine hK _ ?_; clear hK
        refine bwp_seq fun K hK => bwp_region rfl ?_
        simp -implicitDefEqProofs only [go_sem, ↓reduceIte]
        refine eat2_callK hs' h2.rs [61] rfl ?_
        intro q3 h3
        simp -implicitDefEqProofs only [go_sem, ↓reduceIte, mset]
        refine hK _ ?_; clear hK
        refine bwp_seq fun K hK => bwp_region rfl ?_
        simp -implicitDefEqProofs only [go_sem, ↓reduceIte]
        refine num2_callK hs h3.rs rfl ?_
        intro v q4 h4 _
        simp -implicitDefEqProofs only [go_sem, ↓reduceIte, mset]
        refine hK _ ?_; clear hK
        refine bwp_seq fun K hK => bwp_region rfl ?_
        simp -implicitDefEqProofs only [go_sem, ↓reduceIte]
        refine eat2_callK hs' h4.rs [59] rfl ?_
        intro q5 h5
        simp -implicitDefEqProofs only [go_sem, ↓reduceIte, mset]
        refine hK _ ?_; clear hK
        refine bwp_region rfl ?_
        simp -implicitDefEqProofs only [go_sem, ↓reduceIte, hfl, hb1, mset, List.length_append, List.length_map, List.length_cons, List.length_nil]
        obtain ⟨f', rfl, hN⟩ := hI.next prog_init hc hq hb (RQ.bind (σ := .ok a) h2 (RQ.bind h3 (RQ.bind h4 (RQ.bind h5 (RQ.ret h5.rs)))))
        refine ⟨⟨(acc ++ [⟨l, v⟩], q5, _, f'), hN⟩, ?_, ?_⟩
        · simp only [hc, if_true]
          split <;> omega
        · exact Leads.ent [(0, 0), (1, 1), (2, 2), (3, 3), (14, 4), (5, 5), (6, 6)] ⟨by simp [trS, entT, fget, AV.ren, renL, pget], by simp [trS, entM, pinv, mget, mset, renL, AV.ren, pget, renL_append, -List.map_map, rdC, testD0, Init.cells], rfl, rfl⟩
      · obtain ⟨e, rfl⟩ : ∃ e, σ = .error e := by
          cases σ with
          | ok a => exact absurd hq.code hcq
          | error e => exact ⟨e, rfl⟩
        refine bwp_seq fun K hK => bwp_region rfl ?_
        simp -implicitDefEqProofs only [go_sem, ↓reduceIte]
        refine dead_callK (loc_dead hcq) rfl rfl rfl ?_
        simp -implicitDefEqProofs only [go_sem, ↓reduceIte, mset]
        refine hK _ ?_; clear hK
        refine bwp_seq fun K hK => bwp_region rfl ?_
        simp -implicitDefEqProofs only [go_sem, ↓reduceIte]
        refine dead_callK (eat_dead hcq [61]) rfl rfl rfl ?_
        simp -implicitDefEqProofs only [go_sem, ↓reduceIte, mset]
        refine hK _ ?_; clear hK
        refine bwp_seq fun K hK => bwp_region rfl ?_
        simp -implicitDefEqProofs only [go_sem, ↓reduceIte]
        refine dead_callK (num_dead hcq) rfl rfl rfl ?_
        simp -implicitDefEqProofs only [go_sem, ↓reduceIte, mset]
        refine hK _ ?_; clear hK
        refine bwp_seq fun K hK => bwp_region rfl ?_
        simp -implicitDefEqProofs only [go_sem, ↓reduceIte]
        refine dead_callK (eat_dead hcq [59]) rfl rfl rfl ?_
        simp -implicitDefEqProofs only [go_sem, ↓reduceIte, mset]
        refine hK _ ?_; clear hK
        refine bwp_region rfl ?_
        simp -implicitDefEqProofs only [go_sem, ↓reduceIte, hfl, hb1, mset, List.length_append, List.length_map, List.length_cons, List.length_nil]
        refine ⟨⟨(acc ++ [⟨0, 0⟩], q, _, 0), hI.dead hc hq _⟩, ?_, ?_⟩
        · simp only [hc, hcq, if_true, if_false]
          omega
        · exact Leads.ent [(0, 0), (1, 1), (2, 2), (3, 3), (14, 4), (5, 5), (6, 6)] ⟨by simp [trS, entT, fget, AV.ren, renL, pget], by simp [trS, entM, pinv, mget, mset, renL, AV.ren, pget, renL_append, -List.map_map, rdC, testD0, Init.cells], rfl, rfl⟩
  · refine bwp_seq fun K hK => bwp_region rfl ?_
    simp -implicitDefEqProofs only [go_sem, ↓reduceIte, rdC, eq_false hc, decide_false]
    refine hK _ ?_; clear hK
    refine bwp_cond false (by simp [ev, fget]) (fun h => nomatch h) (fun _ => ?_)
    refine bwp_leads (S' := trS s nm acc [] 0 [] r) (Leads.ent [(0, 0), (1, 1), (2, 2), (3, 3), (4, 4), (5, 5), (6, 6)] ⟨by simp [entT, fget, AV.ren, renL, pget, trS, rdC, testD0], by simp [entM, pinv, mget, mset, renL, AV.ren, pget, renL_append, -List.map_map, trS, rdC, testD0], rfl, rfl⟩) ?_
    obtain ⟨e, rfl, he⟩ := hI.rs.codeE hc
    exact bwp_exit (hQ acc r ⟨hshort, _, he.rs, fun r' hr' => hI.err hr'⟩)
def tlS (s : List UInt8) (nm : List UInt8) (I : List Init) (T : List (List Ins)) (acc : List Ins) (r : RSt) : St :=
  ⟨[(7, .sl 7 9 0 acc.length), (4, .ptr 0 0), (5, .ptr 1 0), (2, .ptr 2 0), (3, .ptr 3 0)], [(0, rdC s r), (1, [.d (.str nm), .sl 4 2 0 I.length, .sl 5 1 0 T.length, .d (.int .i64 0), .sl 6 1 0 0]), (2, testD0.map .d), (3, [.d (.int .i64 0), .d (.int .i64 0)]), (4, (I.flatMap Init.cells).map .d), (5, (thrC T).map .d), (6, []), (7, (acc.flatMap Ins.cells).map .d)], 8⟩
set_option maxHeartbeats 32000000 in
theorem tr1_loop {s : List UInt8} (hs : s.length ≤ 4000) {nm : List UInt8} {I : List Init} {T : List (List Ins)} {σ0 : PR Nat} {r0 : RSt} (h0 : RS s σ0 r0) {Q : Exit → St → Prop}
    (hQ : ∀ acc r', NE s tInsE σ0 acc r' → Q (.exit 4) (tlS s nm I T acc r')) :
    BWP Tryz.prog (mbound []) Tryz.f10.ntmps (.loop ac10L1) (tlS s nm I T [] r0) Q := by
  have hs' : s.length ≤ 140737488351232 := by omega
  refine bwp_fam (ι := { p : List Ins × RSt × PR Nat × Nat // NI s tInsE σ0 fuelP p.1 p.2.1 p.2.2.1 p.2.2.2 }) (fun p => tlS s nm I T p.1.1 p.1.2.1) (fun p => if p.1.2.1.code = 0 then p.1.2.2.2 + 1 else 0) ⟨([], r0, σ0, fuelP), NI.start hs h0⟩ ?_
  rintro ⟨⟨acc, r, σ, f⟩, hI⟩
  simp only at hI ⊢
  unfold ac10L1 tlS
  have hshort := hI.short
  have hfl : ((acc.flatMap Ins.cells).map AV.d).length = acc.length * 9 := by rw [List.length_map, ins_flat]
  have hb1 : (acc.length + 1) * 72 ≤ 140737488351232 := by omega
  generalize hi : (I.flatMap Init.cells).map AV.d = ci
  have hir : ∀ π, renL π ci = ci := fun π => by rw [← hi]; exact renL_d _ _
  generalize ht : (thrC T).map AV.d = ct
  have htr : ∀ π, renL π ct = ct := fun π => by rw [← ht]; exact renL_d _ _
  refine bwp_seq fun K1 hK1 => ?_
  by_cases hc : r.code = 0
  · refine bwp_seq fun K hK => bwp_region rfl ?_
    simp -implicitDefEqProofs only [go_sem, ↓reduceIte, rdC, eq_true hc, decide_true]
    refine is2_callK (r := r) hs' hI.rs [125] rfl ?_
    intro q hq
    simp -implicitDefEqProofs only [go_sem, ↓reduceIte, mset]
    refine hK _ ?_; clear hK
    cases hb : ikB q [125] with
    | true =>
      refine bwp_cond false (by simp [ev, fget]) (fun h => nomatch h) (fun _ => ?_)
      refine bwp_leads (S' := tlS s nm I T acc q) (Leads.ent [(0, 0), (1, 1), (2, 2), (3, 3), (4, 4), (5, 5), (6, 6), (7, 7)] ⟨by simp [entT, fget, AV.ren, renL, pget, tlS, rdC, testD0, hi, hir, ht, htr], by simp [entM, pinv, mget, mset, renL, AV.ren, pget, renL_append, -List.map_map, tlS, rdC, testD0, hi, hir, ht, htr], rfl, rfl⟩) ?_
      obtain ⟨a, rfl, _, _⟩ := ikB_ok hq hb
      exact bwp_exit (hQ acc q ⟨hshort, _, hq.rs, fun r' hr' => hI.done hq hb hr'⟩)
    | false =>
      refine bwp_cond true (by simp [ev, fget]) (fun _ => ?_) (fun h => nomatch h)
      refine bwp_skip ?_
      refine hK1 _ ?_; clear hK1
      refine bwp_block ?_
      by_cases hcq : q.code = 0
      · obtain ⟨a, rfl⟩ : ∃ a, σ = .ok a := by
          cases σ with
          | ok a => exact ⟨a, rfl⟩
          | error e => exact absurd hcq hq.codeE
        refine bwp_region rfl ?_
        simp -implicitDefEqProofs only [go_sem, ↓reduceIte]
        refine ins2_callK (r := q) hs hq.rs rfl ?_
        intro x q2 h2
        simp -implicitDefEqProofs only [go_sem, ↓reduceIte, insC, Ins.cells, hfl, hb1, mset, List.length_append, List.length_map, List.length_cons, List.length_nil]
        obtain ⟨f', rfl, hN⟩ := hI.next prog_insE hc hq hb h2
        refine ⟨⟨(acc ++ [x], q2, _, f'), hN⟩, ?_, ?_⟩
        · simp only [hc, if_true]
          split <;> omega
        · exact Leads.ent [(0, 0), (1, 1), (2, 2), (3, 3), (4, 4), (5, 5), (6, 6), (11, 7)] ⟨by simp [tlS, entT, fget, AV.ren, renL, pget], by simp [tlS, entM, pinv, mget, mset, renL, AV.ren, pget, renL_append, -List.map_map, rdC, testD0, Ins.cells, hi, hir, ht, htr], rfl, rfl⟩
      · obtain ⟨e, rfl⟩ : ∃ e, σ = .error e := by
          cases σ with
          | ok a => exact absurd hq.code hcq
          | error e => exact ⟨e, rfl⟩
        refine bwp_region rfl ?_
        simp -implicitDefEqProofs only [go_sem, ↓reduceIte]
        refine dead_callK (ins_dead hcq) rfl rfl rfl ?_
        simp -implicitDefEqProofs only [go_sem, ↓reduceIte, insC, Ins.cells, hfl, hb1, mset, List.length_append, List.length_map, List.length_cons, List.length_nil]
        refine ⟨⟨(acc ++ [⟨5, 0, 0, ⟨0, 0⟩, 0, ⟨-1, 0⟩, 0⟩], q, _, 0), hI.dead hc hq _⟩, ?_, ?_⟩
        · simp only [hc, hcq, if_true, if_false]
          omega
        · exact Leads.ent [(0, 0), (1, 1), (2, 2), (3, 3), (4, 4), (5, 5), (6, 6), (11, 7)] ⟨by simp [tlS, entT, fget, AV.ren, renL, pget], by simp [tlS, entM, pinv, mget, mset, renL, AV.ren, pget, renL_append, -List.map_map, rdC, testD0, Ins.cells, hi, hir, ht, htr], rfl, rfl⟩
  · refine bwp_seq fun K hK => bwp_region rfl ?_
    simp -implicitDefEqProofs only [go_sem, ↓reduceIte, rdC, eq_false hc, decide_false]
    refine hK _ ?_; clear hK
    refine bwp_cond false (by simp [ev, fget]) (fun h => nomatch h) (fun _ => ?_)
    refine bwp_leads (S' := tlS s nm I T acc r) (Leads.ent [(0, 0), (1, 1), (2, 2), (3, 3), (4, 4), (5, 5), (6, 6), (7, 7)] ⟨by simp [entT, fget, AV.ren, renL, pget, tlS, rdC, testD0, hi, hir, ht, htr], by simp [entM, pinv, mget, mset, renL, AV.ren, pget, renL_append, -List.map_map, tlS, rdC, testD0, hi, hir, ht, htr], rfl, rfl⟩) ?_
    obtain ⟨e, rfl, he⟩ := hI.rs.codeE hc
    exact bwp_exit (hQ acc r ⟨hshort, _, he.rs, fun r' hr' => hI.err hr'⟩)
end Go.Proofs.YtpfbljkfbjjlkaaGreatDoor

/- The document's reader: its loop over threads. -/
namespace Go.Proofs.YtpfbljkfbjjlkaaGreatDoor
open Go Go.Jq
set_option maxRecDepth 100000
set_option linter.unusedSimpArgs false
structure TN (s : List UInt8) (σ0 : PR Nat) (f0 : Nat) (acc : List (List Ins)) (r : RSt) (σ : PR Nat) (f : Nat) : Prop where
  rs : RS s σ r
  to : ∀ l rf, RQ s (thn σ ((tThreads f).run s)) l rf → RQ s (thn σ0 ((tThreads f0).run s)) (acc ++ l) rf
  fuel : ∀ a, σ = .ok a → s.length - a < f
  len : acc.length + f ≤ f0
theorem TN.next {s : List UInt8} {σ0 : PR Nat} {f0 : Nat} {acc : List (List Ins)} {r q : RSt} {a : Nat} {f : Nat} (h : TN s σ0 f0 acc r (.ok a) f) (hl : RL s (.ok a) q) (hb : ikB q wThread = true) {x : List Ins} {q' : RSt} (hq : RQ s (thn (thn (.ok a) (eatW s)) (tThread.run s)) x q') :
    ∃ f', f = f' + 1 ∧ TN s σ0 f0 (acc ++ [x]) q' (posR (thn (thn (.ok a) (eatW s)) (tThread.run s))) f' := by
  have h4 := ikB_ok hl hb
  obtain ⟨a', ha, h4, _⟩ := h4
  cases ha
  have hf := h.fuel a rfl
  obtain ⟨f', rfl⟩ : ∃ f', f = f' + 1 := ⟨f - 1, by omega⟩
  have hlen := h.len
  refine ⟨f', rfl, ⟨hq.rs, fun l qf hl' => ?_, fun b hb' => ?_, ?_⟩⟩
  · have : RQ s (thn (.ok a) ((tThreads (f' + 1)).run s)) (x :: l) qf := RQ.take_yes hl hb (RQ.bind hq (RQ.bind hl' (RQ.ret hl'.rs)))
    have := h.to _ _ this
    simpa using this
  · obtain ⟨y, hy⟩ := posR_ok hb'
    obtain ⟨c, hc, hy'⟩ := thn_ok hy
    have h1 := eatW_lt hl.okPos.1 hl.okPos.2 h4 hc
    have h2 := tThread.run_le h1.2 hy'
    omega
  · simp only [List.length_append, List.length_cons, List.length_nil]
    omega
theorem TN.done {s : List UInt8} {σ0 : PR Nat} {f0 : Nat} {acc : List (List Ins)} {r q : RSt} {σ : PR Nat} {f : Nat} (h : TN s σ0 f0 acc r σ f) (hl : RL s σ q) (hb : ikB q wThread = false) : RQ s (thn σ0 ((tThreads f0).run s)) acc q := by
  have : RQ s (thn σ ((tThreads f).run s)) [] q := by
    cases σ with
    | error e => exact hl.rs
    | ok a =>
      have hf := h.fuel a rfl
      obtain ⟨f', rfl⟩ : ∃ f', f = f' + 1 := ⟨f - 1, by omega⟩
      exact RQ.take_no hl hb (RQ.ret hl.rs)
  have := h.to _ _ this
  simpa using this
theorem TN.start {s : List UInt8} {σ : PR Nat} {r : RSt} (hs : s.length ≤ 4000) (h : RS s σ r) : TN s σ fuelP [] r σ fuelP :=
  ⟨h, fun l qf hl => hl, fun a _ => by unfold fuelP; omega, by simp⟩
theorem TN.short {s : List UInt8} {σ0 σ : PR Nat} {acc : List (List Ins)} {r : RSt} {f : Nat} (h : TN s σ0 fuelP acc r σ f) : acc.length ≤ 4001 := by
  have := h.len
  unfold fuelP at this; omega
set_option maxHeartbeats 32000000 in
theorem tr2_loop {s : List UInt8} (hs : s.length ≤ 4000) {nm : List UInt8} {I : List Init} {σ0 : PR Nat} {r0 : RSt} (h0 : RS s σ0 r0) {Q : Exit → St → Prop}
    (hQ : ∀ acc r', acc.length ≤ 4001 → RQ s (thn σ0 ((tThreads fuelP).run s)) acc r' → Q (.exit 2) (trS s nm I acc 0 [] r')) :
    BWP Tryz.prog (mbound []) Tryz.f10.ntmps (.loop ac10L2) (trS s nm I [] 0 [] r0) Q := by
  have hs' : s.length ≤ 140737488351232 := by omega
  refine bwp_fam (ι := { p : List (List Ins) × RSt × PR Nat × Nat // TN s σ0 fuelP p.1 p.2.1 p.2.2.1 p.2.2.2 }) (fun p => trS s nm I p.1.1 0 [] p.1.2.1) (fun p => p.1.2.2.2) ⟨([], r0, σ0, fuelP), TN.start hs h0⟩ ?_
  rintro ⟨⟨acc, r, σ, f⟩, hI⟩
  simp only at hI ⊢
  unfold ac10L2 trS
  have hshort := hI.short
  have hcl : ((thrC acc).map AV.d).length = acc.length := by rw [List.length_map, thrC_len]
  have hcr : ∀ π, renL π ((thrC acc).map AV.d) = (thrC acc).map .d := fun π => renL_d _ _
  have hb1 : (acc.length + 1) * 24 ≤ 140737488351232 := by omega
  have hir : ∀ π, renL π ((I.flatMap Init.cells).map AV.d) = (I.flatMap Init.cells).map .d := fun π => renL_d _ _
  refine bwp_seq fun K1 hK1 => ?_
  refine bwp_seq fun K hK => bwp_region rfl ?_
  simp -implicitDefEqProofs only [go_sem, ↓reduceIte, rdC]
  refine is2_callK (r := r) hs' hI.rs wThread rfl ?_
  intro q hq
  simp -implicitDefEqProofs only [go_sem, ↓reduceIte, mset]
  refine hK _ ?_; clear hK
  cases hb : ikB q wThread with
  | false =>
    refine bwp_cond false (by simp [ev, fget]) (fun h => nomatch h) (fun _ => ?_)
    refine bwp_leads (S' := trS s nm I acc 0 [] q) (Leads.ent [(0, 0), (1, 1), (2, 2), (3, 3), (4, 4), (5, 5), (6, 6)] ⟨by simp [trS, entT, fget, AV.ren, renL, pget], ?_, rfl, rfl⟩) ?_
    · simp [trS, entM, pinv, mget, mset, renL, AV.ren, pget, renL_append, -List.map_map, rdC, testD0, hcr, hir]
    exact bwp_exit (hQ acc q hshort (hI.done hq hb))
  | true =>
    obtain ⟨a, rfl, h4, hc⟩ := ikB_ok hq hb
    have hg := hq.goT hc
    refine bwp_cond true (by simp [ev, fget]) (fun _ => ?_) (fun h => nomatch h)
    refine bwp_skip ?_
    refine hK1 _ ?_; clear hK1
    refine bwp_block ?_
    refine bwp_seq fun K hK => bwp_region rfl ?_
    simp -implicitDefEqProofs only [go_sem, ↓reduceIte]
    refine go_callK s q rfl ?_
    simp -implicitDefEqProofs only [go_sem, ↓reduceIte, mset]
    refine hK _ ?_; clear hK
    refine bwp_seq fun K hK => bwp_region rfl ?_
    simp -implicitDefEqProofs only [go_sem, ↓reduceIte]
    refine eat2_callK hs' hg [123] rfl ?_
    intro q2 h2
    simp -implicitDefEqProofs only [go_sem, ↓reduceIte, mset]
    refine hK _ ?_; clear hK
    refine bwp_seq fun K hK => bwp_region rfl ?_
    simp -implicitDefEqProofs only [go_sem, ↓reduceIte]
    refine hK _ ?_; clear hK
    refine bwp_seq fun K2 hK2 => ?_
    refine bwp_block ?_
    refine bwp_leads (S' := tlS s nm I acc [] q2) (Leads.ent [(0, 0), (1, 1), (2, 2), (3, 3), (4, 4), (5, 5), (6, 6), (10, 7)] ⟨by simp [tlS, entT, fget, AV.ren, renL, pget], by simp [tlS, entM, pinv, mget, mset, renL, AV.ren, pget, renL_append, -List.map_map, rdC, testD0, hcr, hir, rowsC], rfl, rfl⟩) ?_
    refine tr1_loop hs h2.rs ?_
    intro l q3 hN
    obtain ⟨hl4, σ1, hr3, hto⟩ := hN
    unfold tlS
    simp -implicitDefEqProofs only [go_sem, ↓reduceIte]
    refine hK2 _ ?_; clear hK2
    refine bwp_seq fun K hK => bwp_region rfl ?_
    simp -implicitDefEqProofs only [go_sem, ↓reduceIte]
    refine eat2_callK hs' hr3 [125] rfl ?_
    intro q4 h4'
    have h5 := hto _ h4'
    simp -implicitDefEqProofs only [go_sem, ↓reduceIte, mset]
    refine hK _ ?_; clear hK
    have htk := ins_take l
    generalize hds : l.flatMap Ins.cells = ds at htk
    refine bwp_leads (Leads.frz (S' := ⟨[(7, .d (.sl l.length ds)), (4, .ptr 0 0), (5, .ptr 1 0), (2, .ptr 2 0), (3, .ptr 3 0)], [(0, rdC s q4), (1, [.d (.str nm), .sl 4 2 0 I.length, .sl 5 1 0 acc.length, .d (.int .i64 0), .sl 6 1 0 0]), (2, testD0.map .d), (3, [.d (.int .i64 0), .d (.int .i64 0)]), (4, (I.flatMap Init.cells).map .d), (5, (thrC acc).map .d), (6, [])], 7⟩) [(0, 0), (1, 1), (2, 2), (3, 3), (4, 4), (5, 5), (6, 6)] [(7, ds)] ⟨?_, ?_, rfl, rfl, ?_⟩) ?_
    · simp [frzT, fget, AV.cv, cvL, zget, pget, htk]
    · simp [frzM, pinv, zget, mget, cvL, AV.cv, rdC, testD0, pget, cvL_d]
    · simp [zokFrom, mget, cvL_d]
    refine bwp_region rfl ?_
    simp -implicitDefEqProofs only [go_sem, ↓reduceIte, hcl, hb1, mset, List.length_append, List.length_map, List.length_cons, List.length_nil]
    obtain ⟨f', rfl, hN⟩ := hI.next hq hb (RQ.bind h2 h5)
    have hsn := thrC_snoc acc l
    refine ⟨⟨(acc ++ [l], q4, _, f'), hN⟩, ?_, ?_⟩
    · show f' < f' + 1
      omega
    · refine Leads.ent [(0, 0), (1, 1), (2, 2), (3, 3), (4, 4), (8, 5), (6, 6)] ⟨by simp [trS, entT, fget, AV.ren, renL, pget], ?_, rfl, rfl⟩
      simp only [trS, hsn, List.map_append]
      simp [entM, pinv, mget, mset, renL, AV.ren, pget, renL_append, -List.map_map, rdC, testD0, hcr, hir, slD, hds, rowsC]
end Go.Proofs.YtpfbljkfbjjlkaaGreatDoor

/- The document's reader: its loop over a condition's atoms. -/
namespace Go.Proofs.YtpfbljkfbjjlkaaGreatDoor
open Go Go.Jq
set_option maxRecDepth 100000
set_option linter.unusedSimpArgs false
theorem PT.bind_assoc {α β γ : Type} (t : PT α) (f : α → PT β) (g : β → PT γ) : (t.bind f).bind g = t.bind fun x => (f x).bind g := by
  induction t with
  | ret x => rfl
  | bad c => rfl
  | cur k ih =>
    simp only [bind]
    congr 1
    funext d x
    exact ih d x
  | eat k ih => simp only [bind, ih]
theorem tTake_bind {α β : Type} (x : List UInt8) (yes no : PT α) (f : α → PT β) : (tTake x yes no).bind f = tTake x (yes.bind f) (no.bind f) := by
  unfold tTake
  simp only [PT.bind]
  congr 1
  funext d y
  split <;> rfl
def tailP (f g : Nat) (row : List Atom) : PT (List (List Atom)) := (tRow g).bind fun l => tTake [124] ((tRows f).bind fun r => .ret ((row ++ l) :: r)) (.ret [row ++ l])
theorem tailP_succ (f g : Nat) (row : List Atom) : tailP f (g + 1) row = tTake [38] (tAtom.bind fun x => tailP f g (row ++ [x])) (tTake [124] ((tRows f).bind fun r => .ret (row :: r)) (.ret [row])) := by
  have e : tRow (g + 1) = tTake [38] (tAtom.bind fun x => (tRow g).bind fun l => .ret (x :: l)) (.ret []) := rfl
  unfold tailP
  rw [e, tTake_bind]
  congr 1
  · rw [PT.bind_assoc]
    congr 1
    funext x
    rw [PT.bind_assoc]
    congr 1
    funext l
    simp only [PT.bind, List.append_assoc, List.cons_append, List.nil_append]
  · simp only [PT.bind, List.append_nil]
theorem tRows_succ (f : Nat) : tRows (f + 1) = tAtom.bind fun x => tailP f fuelP [x] := rfl
def ikV (s : List UInt8) (σ : PR Nat) (x : List UInt8) : Bool := match σ with
  | .ok a => isK (curT s a).kd (curT s a).tx x
  | .error _ => false
theorem RL.ikV {s : List UInt8} {σ : PR Nat} {q : RSt} (h : RL s σ q) (x : List UInt8) : ikB q x = ikV s σ x := by
  cases σ with
  | ok a => simp [ikB, h.code, h.2.2.2.2.1, Proofs.YtpfbljkfbjjlkaaGreatDoor.ikV]
  | error e => simp [ikB, h.codeE, Proofs.YtpfbljkfbjjlkaaGreatDoor.ikV]
theorem ikV_ok {s : List UInt8} {σ : PR Nat} {x : List UInt8} (h : ikV s σ x = true) : ∃ a, σ = .ok a ∧ (curT s a).kd ≠ 4 := by
  cases σ with
  | ok a => exact ⟨a, rfl, isK_kd h⟩
  | error e => cases h
theorem ikV_two {s : List UInt8} {σ : PR Nat} {x y : List UInt8} (h : ikV s σ x = true) (hn : x ≠ y) : ikV s σ y = false := by
  cases σ with
  | error e => rfl
  | ok a =>
    cases hy : ikV s (.ok a) y with
    | false => rfl
    | true =>
      simp only [ikV, isK, Bool.and_eq_true, decide_eq_true_eq] at h hy
      exact absurd (h.2.symm.trans hy.2) hn
structure FN (s : List UInt8) (σ0 : PR Nat) (accs : List (List Atom)) (row : List Atom) (r : RSt) (σ : PR Nat) (f g : Nat) : Prop where
  rs : RS s σ r
  to : ∀ y rf, RQ s (thn σ ((tailP f g row).run s)) y rf → RQ s (thn σ0 ((tRows fuelP).run s)) (accs ++ y) rf
  fuel : ∀ a, σ = .ok a → s.length - a < f ∧ s.length - a < g
  len : row.length + g ≤ fuelP + 1 ∧ accs.length + f ≤ fuelP
theorem FN.and {s : List UInt8} {σ0 : PR Nat} {accs : List (List Atom)} {row : List Atom} {r q : RSt} {σ : PR Nat} {f g : Nat} (h : FN s σ0 accs row r σ f g) (hl : RL s σ q) (hb : ikV s σ [38] = true) {x : Atom} {q' : RSt} (hq : RQ s (thn (thn σ (eatW s)) (tAtom.run s)) x q') :
    ∃ g', g = g' + 1 ∧ FN s σ0 accs (row ++ [x]) q' (posR (thn (thn σ (eatW s)) (tAtom.run s))) f g' := by
  obtain ⟨a, rfl, h4⟩ := ikV_ok hb
  have hf := h.fuel a rfl
  obtain ⟨g', rfl⟩ : ∃ g', g = g' + 1 := ⟨g - 1, by omega⟩
  refine ⟨g', rfl, ⟨hq.rs, fun y rf hy => ?_, fun b hb' => ?_, ?_⟩⟩
  · refine h.to y rf ?_
    rw [tailP_succ]
    exact RQ.take_yes hl (by rw [hl.ikV]; exact hb) (RQ.bind hq hy)
  · obtain ⟨y, hy⟩ := posR_ok hb'
    obtain ⟨c, hc, hy'⟩ := thn_ok hy
    have h1 := eatW_lt hl.okPos.1 hl.okPos.2 h4 hc
    have h2 := tAtom.run_le h1.2 hy'
    omega
  · have := h.len
    simp only [List.length_append, List.length_cons, List.length_nil]
    omega
theorem FN.or {s : List UInt8} {σ0 : PR Nat} {accs : List (List Atom)} {row : List Atom} {r q : RSt} {σ : PR Nat} {f g : Nat} (h : FN s σ0 accs row r σ f g) (hl : RL s σ q) (hb : ikV s σ [38] = false) (ho : ikV s σ [124] = true) {x : Atom} {q' : RSt} (hq : RQ s (thn (thn σ (eatW s)) (tAtom.run s)) x q') :
    ∃ f', f = f' + 1 ∧ FN s σ0 (accs ++ [row]) [x] q' (posR (thn (thn σ (eatW s)) (tAtom.run s))) f' fuelP := by
  obtain ⟨a, rfl, h4⟩ := ikV_ok ho
  have hf := h.fuel a rfl
  obtain ⟨f', rfl⟩ : ∃ f', f = f' + 1 := ⟨f - 1, by omega⟩
  obtain ⟨g', rfl⟩ : ∃ g', g = g' + 1 := ⟨g - 1, by omega⟩
  refine ⟨f', rfl, ⟨hq.rs, fun y rf hy => ?_, fun b hb' => ?_, ?_⟩⟩
  · have : RQ s (thn (.ok a) ((tailP (f' + 1) (g' + 1) row).run s)) (row :: y) rf := by
      rw [tailP_succ]
      refine RQ.take_no hl (by rw [hl.ikV]; exact hb) (RQ.take_yes hl (by rw [hl.ikV]; exact ho) ?_)
      rw [tRows_succ, PT.bind_assoc]
      refine RQ.bind hq ?_
      exact RQ.bind hy (RQ.ret hy.rs)
    have := h.to _ _ this
    simpa using this
  · obtain ⟨y, hy⟩ := posR_ok hb'
    obtain ⟨c, hc, hy'⟩ := thn_ok hy
    have h1 := eatW_lt hl.okPos.1 hl.okPos.2 h4 hc
    have h2 := tAtom.run_le h1.2 hy'
    have hl' := h.len
    have e : fuelP = 4001 := rfl
    omega
  · have := h.len
    simp only [List.length_append, List.length_cons, List.length_nil]
    omega
theorem FN.done {s : List UInt8} {σ0 : PR Nat} {accs : List (List Atom)} {row : List Atom} {r q : RSt} {σ : PR Nat} {f g : Nat} (h : FN s σ0 accs row r σ f g) (hl : RL s σ q) (hb : ikV s σ [38] = false) (ho : ikV s σ [124] = false) :
    RQ s (thn σ0 ((tRows fuelP).run s)) (accs ++ [row]) q := by
  refine h.to [row] q ?_
  cases σ with
  | error e => exact hl.rs
  | ok a =>
    have hf := h.fuel a rfl
    obtain ⟨g', rfl⟩ : ∃ g', g = g' + 1 := ⟨g - 1, by omega⟩
    rw [tailP_succ]
    exact RQ.take_no hl (by rw [hl.ikV]; exact hb) (RQ.take_no hl (by rw [hl.ikV]; exact ho) (RQ.ret hl.rs))
theorem RS.okPos {s : List UInt8} {a : Nat} {r : RSt} (h : RS s (.ok a) r) : a ≤ s.length ∧ (nextW s a).2.2 = 0 := by
  rcases h with ⟨_, h1, h2⟩ | ⟨e, h, _⟩
  · obtain ⟨rfl, h3⟩ := goW_ok h2.symm
    exact ⟨h1, h3⟩
  · cases h
theorem FN.start {s : List UInt8} (hs : s.length ≤ 4000) {σ0 : PR Nat} {r0 : RSt} (h0 : RS s σ0 r0) {x : Atom} {r : RSt} (h : RQ s (thn σ0 (tAtom.run s)) x r) : FN s σ0 [] [x] r (posR (thn σ0 (tAtom.run s))) 4000 fuelP := by
  refine ⟨h.rs, fun y rf hy => ?_, fun a ha => ?_, ?_⟩
  · have e : fuelP = 4000 + 1 := rfl
    rw [e, tRows_succ]
    exact RQ.bind h hy
  · obtain ⟨y, hy⟩ := posR_ok ha
    obtain ⟨c, rfl, hy'⟩ := thn_ok hy
    have hp := h0.okPos
    have h1 := prog_atom s c y a hp.1 hp.2 hy'
    have h2 := tAtom.run_le hp.1 hy'
    unfold fuelP
    omega
  · simp [fuelP]
def taS (s : List UInt8) (nm : List UInt8) (I : List Init) (T : List (List Ins)) (k : Int) (accs : List (List Atom)) (row : List Atom) (r : RSt) : St :=
  ⟨[(8, .sl 7 4 0 row.length), (4, .ptr 0 0), (5, .ptr 1 0), (2, .ptr 2 0), (3, .ptr 3 0)], [(0, rdC s r), (1, [.d (.str nm), .sl 4 2 0 I.length, .sl 5 1 0 T.length, .d (.int .i64 k), .sl 6 1 0 accs.length]), (2, testD0.map .d), (3, [.d (.int .i64 0), .d (.int .i64 0)]), (4, (I.flatMap Init.cells).map .d), (5, (thrC T).map .d), (6, (rowsC accs).map .d), (7, (row.flatMap Atom.cells).map .d)], 8⟩
set_option maxHeartbeats 64000000 in
theorem tr3_loop {s : List UInt8} (hs : s.length ≤ 4000) {nm : List UInt8} {I : List Init} {T : List (List Ins)} {k : Int} {σ0 : PR Nat} {rr r0 : RSt} (hr : RS s σ0 rr) {x0 : Atom} (h0 : RQ s (thn σ0 (tAtom.run s)) x0 r0) {Q : Exit → St → Prop}
    (hQ : ∀ accs row r', accs.length ≤ 4001 → RQ s (thn σ0 ((tRows fuelP).run s)) (accs ++ [row]) r' → Q (.exit 6) (taS s nm I T k accs row r')) :
    BWP Tryz.prog (mbound []) Tryz.f10.ntmps (.loop ac10L3) (taS s nm I T k [] [x0] r0) Q := by
  have hs' : s.length ≤ 140737488351232 := by omega
  refine bwp_fam (ι := { p : List (List Atom) × List Atom × RSt × PR Nat × Nat × Nat // FN s σ0 p.1 p.2.1 p.2.2.1 p.2.2.2.1 p.2.2.2.2.1 p.2.2.2.2.2 }) (fun p => taS s nm I T k p.1.1 p.1.2.1 p.1.2.2.1) (fun p => p.1.2.2.2.2.1 * 5000 + p.1.2.2.2.2.2) ⟨([], [x0], r0, _, 4000, fuelP), FN.start hs hr h0⟩ ?_
  rintro ⟨⟨accs, row, r, σ, f, g⟩, hI⟩
  simp only at hI ⊢
  unfold ac10L3 taS
  have hlen := hI.len
  have hfp : fuelP = 4001 := rfl
  have hacl : ((rowsC accs).map AV.d).length = accs.length := by rw [List.length_map, rowsC_len]
  have hacr : ∀ π, renL π ((rowsC accs).map AV.d) = (rowsC accs).map .d := fun π => renL_d _ _
  have hfl : ((row.flatMap Atom.cells).map AV.d).length = row.length * 4 := by rw [List.length_map, atom_flat]
  have hb1 : (row.length + 1) * 32 ≤ 140737488351232 := by omega
  have hb2 : (accs.length + 1) * 24 ≤ 140737488351232 := by omega
  have hir : ∀ π, renL π ((I.flatMap Init.cells).map AV.d) = (I.flatMap Init.cells).map .d := fun π => renL_d _ _
  have htr : ∀ π, renL π ((thrC T).map AV.d) = (thrC T).map .d := fun π => renL_d _ _
  have hrr : ∀ π, renL π ((row.flatMap Atom.cells).map AV.d) = (row.flatMap Atom.cells).map .d := fun π => renL_d _ _
  refine bwp_seq fun K1 hK1 => ?_
  refine bwp_seq fun K hK => bwp_region rfl ?_
  simp -implicitDefEqProofs only [go_sem, ↓reduceIte, rdC]
  refine is2_callK (r := r) hs' hI.rs [38] rfl ?_
  intro q hq
  rw [hq.ikV]
  cases hb : ikV s σ [38] with
  | true =>
    have hnb := ikV_two hb (y := [124]) (by decide)
    obtain ⟨a, ha, _⟩ := ikV_ok hb
    simp -implicitDefEqProofs only [go_sem, ↓reduceIte, mset]
    refine hK _ ?_; clear hK
    refine bwp_cond true (by simp [ev, fget]) (fun _ => ?_) (fun h => nomatch h)
    refine bwp_skip ?_
    refine hK1 _ ?_; clear hK1
    refine bwp_block ?_
    refine bwp_seq fun K2 hK2 => ?_
    refine bwp_seq fun K hK => bwp_region rfl ?_
    simp -implicitDefEqProofs only [go_sem, ↓reduceIte]
    refine is2_callK (r := q) hs' hq.rs [124] rfl ?_
    intro q2 hq2
    rw [hq2.ikV, hnb]
    have hc2 : q2.code = 0 := by subst ha; exact hq2.code
    have hg := hq2.goT hc2
    simp -implicitDefEqProofs only [go_sem, ↓reduceIte, mset]
    refine hK _ ?_; clear hK
    refine bwp_cond false (by simp [ev, fget]) (fun h => nomatch h) (fun _ => ?_)
    refine bwp_skip ?_
    refine hK2 _ ?_; clear hK2
    refine bwp_seq fun K hK => bwp_region rfl ?_
    simp -implicitDefEqProofs only [go_sem, ↓reduceIte]
    refine go_callK s q2 rfl ?_
    simp -implicitDefEqProofs only [go_sem, ↓reduceIte, mset]
    refine hK _ ?_; clear hK
    refine bwp_region rfl ?_
    simp -implicitDefEqProofs only [go_sem, ↓reduceIte]
    refine atom2_callK hs hg rfl ?_
    intro x q3 h3
    simp -implicitDefEqProofs only [go_sem, ↓reduceIte, atC, Atom.cells, hfl, hb1, mset, List.length_append, List.length_map, List.length_cons, List.length_nil]
    obtain ⟨g', rfl, hN⟩ := hI.and hq2 hb h3
    refine ⟨⟨(accs, row ++ [x], q3, _, f, g'), hN⟩, ?_, ?_⟩
    · show f * 5000 + g' < f * 5000 + (g' + 1)
      omega
    · exact Leads.ent [(0, 0), (1, 1), (2, 2), (3, 3), (4, 4), (5, 5), (6, 6), (13, 7)] ⟨by simp [taS, entT, fget, AV.ren, renL, pget], by simp [taS, entM, pinv, mget, mset, renL, AV.ren, pget, renL_append, -List.map_map, rdC, testD0, hir, htr, hacr, hrr, Atom.cells], rfl, rfl⟩
  | false =>
    simp -implicitDefEqProofs only [go_sem, ↓reduceIte, mset]
    refine is2_callK (r := q) hs' hq.rs [124] rfl ?_
    intro q2 hq2
    rw [hq2.ikV]
    cases ho : ikV s σ [124] with
    | false =>
      simp -implicitDefEqProofs only [go_sem, ↓reduceIte, mset]
      refine hK _ ?_; clear hK
      refine bwp_cond false (by simp [ev, fget]) (fun h => nomatch h) (fun _ => ?_)
      refine bwp_leads (S' := taS s nm I T k accs row q2) (Leads.ent [(0, 0), (1, 1), (2, 2), (3, 3), (4, 4), (5, 5), (6, 6), (7, 7)] ⟨by simp [taS, entT, fget, AV.ren, renL, pget], ?_, rfl, rfl⟩) ?_
      · simp [taS, entM, pinv, mget, mset, renL, AV.ren, pget, renL_append, -List.map_map, rdC, testD0, hir, htr, hacr, hrr]
      exact bwp_exit (hQ accs row q2 (by omega) (hI.done hq2 hb ho))
    | true =>
      obtain ⟨a, ha, _⟩ := ikV_ok ho
      simp -implicitDefEqProofs only [go_sem, ↓reduceIte, mset]
      refine hK _ ?_; clear hK
      refine bwp_cond true (by simp [ev, fget]) (fun _ => ?_) (fun h => nomatch h)
      refine bwp_skip ?_
      refine hK1 _ ?_; clear hK1
      refine bwp_block ?_
      refine bwp_seq fun K2 hK2 => ?_
      refine bwp_seq fun K hK => bwp_region rfl ?_
      simp -implicitDefEqProofs only [go_sem, ↓reduceIte]
      refine is2_callK (r := q2) hs' hq2.rs [124] rfl ?_
      intro q3 hq3
      rw [hq3.ikV, ho]
      have hc3 : q3.code = 0 := by subst ha; exact hq3.code
      have hg := hq3.goT hc3
      simp -implicitDefEqProofs only [go_sem, ↓reduceIte, mset]
      refine hK _ ?_; clear hK
      refine bwp_cond true (by simp [ev, fget]) (fun _ => ?_) (fun h => nomatch h)
      have htk := atom_take row
      generalize hds : row.flatMap Atom.cells = ds at htk
      refine bwp_leads (Leads.frz (S' := ⟨[(8, .d (.sl row.length ds)), (4, .ptr 0 0), (5, .ptr 1 0), (2, .ptr 2 0), (3, .ptr 3 0)], [(0, rdC s q3), (1, [.d (.str nm), .sl 4 2 0 I.length, .sl 5 1 0 T.length, .d (.int .i64 k), .sl 6 1 0 accs.length]), (2, testD0.map .d), (3, [.d (.int .i64 0), .d (.int .i64 0)]), (4, (I.flatMap Init.cells).map .d), (5, (thrC T).map .d), (6, (rowsC accs).map .d)], 7⟩) [(0, 0), (1, 1), (2, 2), (3, 3), (4, 4), (5, 5), (6, 6)] [(7, ds)] ⟨?_, ?_, rfl, rfl, ?_⟩) ?_
      · simp [frzT, fget, AV.cv, cvL, zget, pget, htk]
      · simp [frzM, pinv, zget, mget, cvL, AV.cv, rdC, testD0, pget, cvL_d]
      · simp [zokFrom, mget, cvL_d]
      refine bwp_seq fun K hK => bwp_region rfl ?_
      simp -implicitDefEqProofs only [go_sem, ↓reduceIte, hacl, hb2, mset, List.length_append, List.length_map, List.length_cons, List.length_nil]
      refine hK _ ?_; clear hK
      refine bwp_region rfl ?_
      simp -implicitDefEqProofs only [go_sem, ↓reduceIte]
      refine hK2 _ ?_; clear hK2
      refine bwp_leads (Leads.nil 8 4 rfl rfl) ?_
      refine bwp_seq fun K hK => bwp_region rfl ?_
      simp -implicitDefEqProofs only [go_sem, ↓reduceIte]
      refine go_callK s q3 rfl ?_
      simp -implicitDefEqProofs only [go_sem, ↓reduceIte, mset]
      refine hK _ ?_; clear hK
      refine bwp_region rfl ?_
      simp -implicitDefEqProofs only [go_sem, ↓reduceIte]
      refine atom2_callK hs hg rfl ?_
      intro x q4 h4
      simp -implicitDefEqProofs only [go_sem, ↓reduceIte, atC, Atom.cells, mset, List.length_append, List.length_map, List.length_cons, List.length_nil]
      obtain ⟨f', rfl, hN⟩ := hI.or hq3 hb ho h4
      have hsn := rowsC_snoc accs row
      refine ⟨⟨(accs ++ [row], [x], q4, _, f', fuelP), hN⟩, ?_, ?_⟩
      · show f' * 5000 + fuelP < (f' + 1) * 5000 + g
        omega
      · refine Leads.ent [(0, 0), (1, 1), (2, 2), (3, 3), (4, 4), (5, 5), (8, 6), (13, 7)] ⟨by simp [taS, entT, fget, AV.ren, renL, pget], ?_, rfl, rfl⟩
        simp only [taS, hsn, List.map_append]
        simp [entM, pinv, mget, mset, renL, AV.ren, pget, renL_append, -List.map_map, rdC, testD0, hacr, hir, htr, slD, hds, Atom.cells]
end Go.Proofs.YtpfbljkfbjjlkaaGreatDoor

/- parse.Parse. -/
namespace Go.Proofs.YtpfbljkfbjjlkaaGreatDoor
open Go Go.Jq
set_option maxRecDepth 100000
set_option linter.unusedSimpArgs false
theorem PQ.fin {α : Type} {s : List UInt8} {τ : PR (α × Nat)} {x : α} {q : PSt} (h : PQ s τ x q) : (q.code = 0 ∧ ∃ b, τ = .ok (x, b)) ∨ (∃ e, τ = .error e ∧ q.code = e.1 ∧ e.1 ≠ 0 ∧ q.eat = e.2) := by
  cases τ with
  | ok p =>
    obtain ⟨y, b⟩ := p
    obtain ⟨rfl, h⟩ := h
    exact .inl ⟨h.code, b, rfl⟩
  | error e => exact .inr ⟨e, rfl, h.1, h.2.1, h.2.2.1⟩
def pzS (s : List UInt8) (t : Test) (q : PSt) : St :=
  ⟨[(5, .ptr 0 0), (6, .ptr 2 0), (2, .ptr 4 0), (3, .ptr 5 0)], [(0, parC q), (1, lexQ s q), (2, (testD t).map .d), (4, testD0.map .d), (5, [.d (.int .i64 0), .d (.int .i64 0)])], 6⟩
set_option maxHeartbeats 32000000 in
theorem parse1_pure {s : List UInt8} (hs : s.length ≤ maxLen) : Pure Tryz.prog 9 [.d (.str s)] (parseV (pTest s)) := by
  have h54 : ldk Tryz.prog 30 = some (some 5) := by kernel_rfl
  have h26 : ldk Tryz.prog 35 = some (some 2) := by kernel_rfl
  have kl := long_pure s
  have hin : ∀ r, (parseV r).ren (fun _ => none) = parseV r := by
    intro r
    cases r <;> simp [parseV, AV.ren, renL, testD, testD0]
  refine acalls_of Tryz.func9 ac9_ok Tryz.ntmps9 Tryz.results9 rfl ?_
  unfold ac9
  refine bwp_seq fun K hK => bwp_region rfl ?_
  simp only [go_sem, ↓reduceIte]
  refine hK _ ?_; clear hK
  refine bwp_seq fun K1 hK1 => ?_
  by_cases hl : 4000 < s.length
  · unfold longV at kl
    rw [if_pos hl] at kl
    refine bwp_seq fun K hK => bwp_region rfl ?_
    simp only [go_sem, ↓reduceIte]
    repeat' (first
      | (refine gateK_split (fun hb => ?_) (fun hb => ?_) <;> simp only [go_sem, ↓reduceIte, hb])
      | (refine dGateK_split (fun hb => ?_) (fun hb => ?_) <;> simp only [go_sem, ↓reduceIte, hb])
      | (refine callK_pure (kl) rfl rfl ?_; simp only [go_sem, ↓reduceIte])
      | (refine dCallK_pure (kl) rfl rfl ?_; simp only [go_sem, ↓reduceIte])
      | (rw [if_pos (by (try simp only [List.length_append, List.length_cons, List.length_nil, List.length_map]); omega)]; simp only [go_sem, ↓reduceIte]))
    refine hK _ ?_; clear hK
    refine bwp_seq fun K hK => bwp_region rfl ?_
    simp only [go_sem, ↓reduceIte]
    refine hK _ ?_; clear hK
    refine bwp_cond true (by simp [ev, fget]) (fun _ => ?_) (fun h => nomatch h)
    refine bwp_seq fun K hK => bwp_region_draw rfl rfl ?_
    simp only [go_sem, ↓reduceIte]
    refine ⟨rfl, hK _ ?_⟩; clear hK
    refine bwp_ret ?_
    simp only [go_sem, ↓reduceIte]
    refine aend_ret (parseV (pTest s)) ?_ (hin _) ⟨rfl, rfl⟩
    have : pTest s = .error (2, 4000) := by unfold pTest; rw [if_pos hl]
    rw [this]
    simp [resA, resVs, resV, fget, mget, mset, loadA, h54, h26, parseV, testD0]
  have hs4 : s.length ≤ 4000 := by omega
  have hs' : s.length ≤ 140737488351232 := by omega
  unfold longV at kl
  rw [if_neg hl] at kl
  refine bwp_seq fun K hK => bwp_region rfl ?_
  simp only [go_sem, ↓reduceIte]
  repeat' (first
    | (refine gateK_split (fun hb => ?_) (fun hb => ?_) <;> simp only [go_sem, ↓reduceIte, hb])
    | (refine dGateK_split (fun hb => ?_) (fun hb => ?_) <;> simp only [go_sem, ↓reduceIte, hb])
    | (refine callK_pure (kl) rfl rfl ?_; simp only [go_sem, ↓reduceIte])
    | (refine dCallK_pure (kl) rfl rfl ?_; simp only [go_sem, ↓reduceIte])
    | (rw [if_pos (by (try simp only [List.length_append, List.length_cons, List.length_nil, List.length_map]); omega)]; simp only [go_sem, ↓reduceIte]))
  refine hK _ ?_; clear hK
  refine bwp_seq fun K hK => bwp_region rfl ?_
  simp only [go_sem, ↓reduceIte]
  refine hK _ ?_; clear hK
  refine bwp_cond false (by simp [ev, fget]) (fun h => nomatch h) (fun _ => ?_)
  refine bwp_skip ?_
  refine hK1 _ ?_; clear hK1
  refine bwp_seq fun K hK => bwp_region rfl ?_
  simp only [go_sem, ↓reduceIte]
  refine new_callK s ?_
  simp only [go_sem, ↓reduceIte, mset]
  refine hK _ ?_; clear hK
  refine bwp_leads (S' := ⟨[(5, .ptr 0 0), (2, .ptr 2 0), (3, .ptr 3 0)], [(0, parC ⟨noTok, 0, 0, 0, 0, 0, 0⟩), (1, lexQ s ⟨noTok, 0, 0, 0, 0, 0, 0⟩), (2, testD0.map .d), (3, [.d (.int .i64 0), .d (.int .i64 0)])], 4⟩) (Leads.ent [(4, 0), (3, 1), (0, 2), (1, 3)] ⟨by simp [entT, fget, AV.ren, renL, pget, parC, lexQ, lexC, noTok, testD0], by simp [entM, pinv, mget, mset, renL, AV.ren, pget, renL_append, -List.map_map, parC, lexQ, lexC, noTok, testD0], rfl, rfl⟩) ?_
  refine bwp_seq fun K hK => bwp_region rfl ?_
  simp only [go_sem, ↓reduceIte]
  refine pnext0_callK hs' rfl rfl ?_
  intro q1 h1
  simp only [go_sem, ↓reduceIte, mset]
  refine hK _ ?_; clear hK
  refine bwp_seq fun K hK => bwp_region rfl ?_
  simp only [go_sem, ↓reduceIte]
  refine hK _ ?_; clear hK
  refine bwp_leads (S' := ⟨[(5, .ptr 0 0), (6, .ptr 2 0), (2, .ptr 4 0), (3, .ptr 5 0)], [(0, parC q1), (1, lexQ s q1), (2, testD0.map .d), (4, testD0.map .d), (5, [.d (.int .i64 0), .d (.int .i64 0)])], 6⟩) (Leads.ent [(0, 0), (1, 1), (6, 2), (2, 4), (3, 5)] ⟨by simp [entT, fget, AV.ren, renL, pget, parC, lexQ, lexC, testD0], by simp [entM, pinv, mget, mset, renL, AV.ren, pget, renL_append, -List.map_map, parC, lexQ, lexC, testD0], rfl, rfl⟩) ?_
  refine bwp_leads (Leads.nilCell 2 1 2 rfl rfl rfl rfl) ?_
  refine bwp_leads (Leads.nilCell 2 4 1 rfl rfl rfl rfl) ?_
  refine bwp_leads (Leads.nilCell 2 2 1 rfl rfl rfl rfl) ?_
  refine bwp_leads (Leads.frz (S' := ⟨[(5, .ptr 0 0), (6, .ptr 2 0), (2, .ptr 4 0), (3, .ptr 5 0)], [(0, parC q1), (1, lexQ s q1), (2, [.d (.str []), .d (.sl 0 []), .sl 3 1 0 0, .d (.int .i64 0), .d (.sl 0 [])]), (3, []), (4, testD0.map .d), (5, [.d (.int .i64 0), .d (.int .i64 0)])], 6⟩) [(0, 0), (1, 1), (2, 2), (8, 3), (4, 4), (5, 5)] [(6, []), (7, [])] ⟨?_, ?_, rfl, rfl, ?_⟩) ?_
  · simp [frzT, fget, AV.cv, cvL, zget, pget]
  · simp [frzM, pinv, zget, mget, mset, cvL, AV.cv, parC, lexQ, lexC, pget, testD0]
  · simp [zokFrom, mget, mset, cvL]
  refine bwp_seq fun K hK => bwp_region rfl ?_
  simp only [go_sem, ↓reduceIte]
  refine pmust_callK hs' h1 wTest rfl rfl ?_
  intro q2 h2
  simp only [go_sem, ↓reduceIte, mset]
  refine hK _ ?_; clear hK
  refine bwp_seq fun K hK => bwp_region rfl ?_
  simp only [go_sem, ↓reduceIte]
  refine pword_callK hs' h2.ps rfl rfl ?_
  intro nm q3 h3
  simp only [go_sem, ↓reduceIte, mset]
  refine hK _ ?_; clear hK
  refine bwp_seq fun K hK => bwp_region rfl ?_
  simp only [go_sem, ↓reduceIte]
  refine pmust_callK hs' h3.ps [123] rfl rfl ?_
  intro q4 h4
  simp only [go_sem, ↓reduceIte, mset]
  refine hK _ ?_; clear hK
  generalize hσ4 : posR (thn (posR (thn (posR (thn (goW s 0) ((tMust wTest).run s))) (tWord.run s))) ((tMust [123]).run s)) = σ4
  have hps4 := h4.ps
  rw [hσ4] at hps4
  refine bwp_seq fun K1 hK1 => ?_
  have fin1 : ∀ (S : St) (l : List Init) (q : PSt), Leads (mbound []) 77 S (ptS s nm (slD Init.cells l) [] q) → PQ s (thn σ4 ((tTake wInit tInits (.ret [])).run s)) l q → K1 S := by
    intro S inits q5 hS h5
    refine hK1 _ ?_; clear hK1
    refine bwp_leads hS ?_
    refine bwp_seq fun K2 hK2 => ?_
    refine bwp_block ?_
    refine ppa_loop hs4 h5.ps ?_
    intro ts q6 hl6 hls6 h6
    unfold ptS
    simp only [go_sem, ↓reduceIte]
    refine hK2 _ ?_; clear hK2
    have hth : (thrC ts).length = ts.length := thrC_len ts
    have htk : (thrC ts).take ts.length = thrC ts := List.take_of_length_le (by omega)
    refine bwp_leads (Leads.frz (S' := ⟨[(5, .ptr 0 0), (6, .ptr 2 0), (2, .ptr 4 0), (3, .ptr 5 0)], [(0, parC q6), (1, lexQ s q6), (2, [.d (.str nm), .d (slD Init.cells inits), .d (thrD ts), .d (.int .i64 0), .d (.sl 0 [])]), (4, testD0.map .d), (5, [.d (.int .i64 0), .d (.int .i64 0)])], 6⟩) [(0, 0), (1, 1), (2, 2), (4, 4), (5, 5)] [(3, thrC ts)] ⟨?_, ?_, rfl, rfl, ?_⟩) ?_
    · simp [frzT, fget, AV.cv, cvL, zget, pget]
    · simp [frzM, pinv, zget, mget, mset, cvL, AV.cv, parC, lexQ, lexC, pget, testD0, thrD, htk]
    · simp [zokFrom, mget, mset, cvL_d]
    refine bwp_seq fun K2 hK2 => ?_
    refine bwp_block ?_
    have fin2 : ∀ (S : St) (c : Int × List (List Atom)) (q : PSt), Leads (mbound []) 77 S (pzS s ⟨nm, inits, ts, c.1, c.2⟩ q) → PQ s (thn (posR (thn (posR (thn σ4 ((tTake wInit tInits (.ret [])).run s))) ((tThreads fuelP).run s))) (tCond.run s)) c q → K2 S := by
      intro S c q7 hS h7
      refine hK2 _ ?_; clear hK2
      refine bwp_leads hS ?_
      unfold pzS
      refine bwp_seq fun K hK => bwp_region rfl ?_
      simp only [go_sem, ↓reduceIte]
      refine pmust_callK hs' h7.ps [125] rfl rfl ?_
      intro q8 h8
      simp only [go_sem, ↓reduceIte, mset]
      refine hK _ ?_; clear hK
      refine bwp_seq fun K3 hK3 => ?_
      have fin3 : ∀ (S : St) (q : PSt), Leads (mbound []) 77 S (pzS s ⟨nm, inits, ts, c.1, c.2⟩ q) → PQ s (thn (posR (thn (posR (thn (posR (thn (posR (thn σ4 ((tTake wInit tInits (.ret [])).run s))) ((tThreads fuelP).run s))) (tCond.run s))) ((tMust [125]).run s))) ((PT.cur fun d _ => if d = 4 then .ret (⟨nm, inits, ts, c.1, c.2⟩ : Test) else .bad 6).run s)) ⟨nm, inits, ts, c.1, c.2⟩ q → K3 S := by
        intro S q9 hS h9
        refine hK3 _ ?_; clear hK3
        refine bwp_leads hS ?_
        subst hσ4
        have hall : PQ s (thn (goW s 0) (tTest.run s)) ⟨nm, inits, ts, c.1, c.2⟩ q9 := PQ.bind h2 (PQ.bind h3 (PQ.bind h4 (PQ.bind h5 (PQ.bind h6 (PQ.bind h7 (PQ.bind h8 h9))))))
        unfold pzS
        refine bwp_seq fun K4 hK4 => ?_
        refine bwp_seq fun K hK => bwp_region rfl ?_
        simp only [go_sem, ↓reduceIte]
        refine pok_callK s q9 rfl rfl ?_
        have heq := pTest_eq hs4
        rcases hall.fin with ⟨hc, b, hb⟩ | ⟨e, he, hc, hne, hat⟩
        · rw [hb] at heq
          simp only at heq
          simp only [go_sem, ↓reduceIte, mset, eq_true hc, decide_true]
          refine hK _ ?_; clear hK
          refine bwp_cond false (by simp [ev, fget]) (fun h => nomatch h) (fun _ => ?_)
          refine bwp_skip ?_
          refine hK4 _ ?_; clear hK4
          refine bwp_seq fun K hK => bwp_region rfl ?_
          simp only [go_sem, ↓reduceIte, testD]
          refine hK _ ?_; clear hK
          refine bwp_ret ?_
          simp only [go_sem, ↓reduceIte]
          refine aend_ret (parseV (pTest s)) ?_ (hin _) ⟨rfl, rfl⟩
          rw [heq]
          simp [resA, resVs, resV, fget, mget, mset, loadA, h54, h26, parseV, testD, testD0]
        · rw [he] at heq
          simp only at heq
          have hc0 : ¬ q9.code = 0 := by rw [hc]; exact hne
          simp only [go_sem, ↓reduceIte, mset, eq_false hc0, decide_false]
          refine hK _ ?_; clear hK
          refine bwp_cond true (by simp [ev, fget]) (fun _ => ?_) (fun h => nomatch h)
          refine bwp_seq fun K hK => bwp_region_draw rfl rfl ?_
          simp only [go_sem, ↓reduceIte, parC]
          refine ⟨rfl, hK _ ?_⟩; clear hK
          refine bwp_ret ?_
          simp only [go_sem, ↓reduceIte]
          refine aend_ret (parseV (pTest s)) ?_ (hin _) ⟨rfl, rfl⟩
          rw [heq]
          simp [resA, resVs, resV, fget, mget, mset, loadA, h54, h26, parseV, testD0, hc, hat]
      refine bwp_seq fun K hK => bwp_region rfl ?_
      simp only [go_sem, ↓reduceIte]
      refine pok_callK s q8 rfl rfl ?_
      by_cases hc : q8.code = 0
      · by_cases h4 : q8.tok.kd = 4
        · simp only [go_sem, ↓reduceIte, mset, eq_true hc, eq_true h4, parC, decide_true]
          refine hK _ ?_; clear hK
          refine bwp_cond false (by simp [ev, fget]) (fun h => nomatch h) (fun _ => ?_)
          refine bwp_skip ?_
          refine fin3 _ q8 (Leads.ent [(0, 0), (1, 1), (2, 2), (4, 4), (5, 5)] ⟨by simp [pzS, entT, fget, AV.ren, renL, pget], by simp [pzS, entM, pinv, mget, mset, renL, AV.ren, pget, parC, lexQ, lexC, testD, testD0], rfl, rfl⟩) ?_
          refine PQ.cur h8.ps ?_
          rw [if_pos h4]
          exact PQ.ret h8.ps
        · simp only [go_sem, ↓reduceIte, mset, eq_true hc, eq_false h4, parC, decide_true]
          refine hK _ ?_; clear hK
          refine bwp_cond true (by simp [ev, fget]) (fun _ => ?_) (fun h => nomatch h)
          refine bwp_region rfl ?_
          simp only [go_sem, ↓reduceIte]
          refine pfail_callK s q8 6 rfl rfl ?_
          simp only [go_sem, ↓reduceIte, mset]
          refine fin3 _ (failF q8 6) (Leads.ent [(0, 0), (1, 1), (2, 2), (4, 4), (5, 5)] ⟨by simp [pzS, entT, fget, AV.ren, renL, pget], by simp [pzS, entM, pinv, mget, mset, renL, AV.ren, pget, parC, lexQ, lexC, testD, testD0], rfl, rfl⟩) ?_
          refine PQ.cur h8.ps ?_
          rw [if_neg h4]
          exact PQ.bad h8.ps (by decide) _
      · simp only [go_sem, ↓reduceIte, mset, eq_false hc, parC, decide_false]
        refine hK _ ?_; clear hK
        refine bwp_cond false (by simp [ev, fget]) (fun h => nomatch h) (fun _ => ?_)
        refine bwp_skip ?_
        refine fin3 _ q8 (Leads.ent [(0, 0), (1, 1), (2, 2), (4, 4), (5, 5)] ⟨by simp [pzS, entT, fget, AV.ren, renL, pget], by simp [pzS, entM, pinv, mget, mset, renL, AV.ren, pget, parC, lexQ, lexC, testD, testD0], rfl, rfl⟩) ?_
        have hp8 := h8.ps
        generalize posR (thn (posR (thn (posR (thn (posR (thn σ4 ((tTake wInit tInits (.ret [])).run s))) ((tThreads fuelP).run s))) (tCond.run s))) ((tMust [125]).run s)) = σ8 at hp8 ⊢
        cases σ8 with
        | ok a => exact absurd hp8.code hc
        | error e => exact hp8
    refine bwp_seq fun K hK => bwp_region rfl ?_
    simp only [go_sem, ↓reduceIte]
    refine ptake_callK hs' h6.ps wExists rfl rfl ?_
    intro q7 hy hn
    cases hb : tkB q6 wExists with
    | true =>
      have h7 := hy hb
      simp only [go_sem, ↓reduceIte, mset]
      refine hK _ ?_; clear hK
      refine bwp_cond true (by simp [ev, fget]) (fun _ => ?_) (fun h => nomatch h)
      refine bwp_region rfl ?_
      simp only [go_sem, ↓reduceIte]
      refine pcond_callK hs4 h7 1 rfl rfl ?_
      intro rows q8 hr h8
      simp only [go_sem, ↓reduceIte, mset]
      refine fin2 _ (1, rows) q8 (Leads.ent [(0, 0), (1, 1), (2, 2), (4, 4), (5, 5)] ⟨by simp [pzS, entT, fget, AV.ren, renL, pget], by simp [pzS, entM, pinv, mget, mset, renL, AV.ren, pget, parC, lexQ, lexC, testD, testD0, rowsD], rfl, rfl⟩) ?_
      exact PQ.take_yes h6.ps hb h8
    | false =>
      have h7 := hn hb
      subst h7
      simp only [go_sem, ↓reduceIte, mset]
      refine hK _ ?_; clear hK
      refine bwp_cond false (by simp [ev, fget]) (fun h => nomatch h) (fun _ => ?_)
      refine bwp_seq fun K hK => bwp_region rfl ?_
      simp only [go_sem, ↓reduceIte]
      refine ptake_callK hs' h6.ps wForall rfl rfl ?_
      intro q8 hy hn
      cases hb2 : tkB q7 wForall with
      | true =>
        have h8 := hy hb2
        simp only [go_sem, ↓reduceIte, mset]
        refine hK _ ?_; clear hK
        refine bwp_cond true (by simp [ev, fget]) (fun _ => ?_) (fun h => nomatch h)
        refine bwp_region rfl ?_
        simp only [go_sem, ↓reduceIte]
        refine pcond_callK hs4 h8 2 rfl rfl ?_
        intro rows q9 hr h9
        simp only [go_sem, ↓reduceIte, mset]
        refine fin2 _ (2, rows) q9 (Leads.ent [(0, 0), (1, 1), (2, 2), (4, 4), (5, 5)] ⟨by simp [pzS, entT, fget, AV.ren, renL, pget], by simp [pzS, entM, pinv, mget, mset, renL, AV.ren, pget, parC, lexQ, lexC, testD, testD0], rfl, rfl⟩) ?_
        exact PQ.take_no h6.ps hb (PQ.take_yes h6.ps hb2 h9)
      | false =>
        have h8 := hn hb2
        subst h8
        simp only [go_sem, ↓reduceIte, mset]
        refine hK _ ?_; clear hK
        refine bwp_cond false (by simp [ev, fget]) (fun h => nomatch h) (fun _ => ?_)
        refine bwp_skip ?_
        refine fin2 _ (0, []) q8 (Leads.ent [(0, 0), (1, 1), (2, 2), (4, 4), (5, 5)] ⟨by simp [pzS, entT, fget, AV.ren, renL, pget], by simp [pzS, entM, pinv, mget, mset, renL, AV.ren, pget, parC, lexQ, lexC, testD, testD0, rowsD, rowsC], rfl, rfl⟩) ?_
        exact PQ.take_no h6.ps hb (PQ.take_no h6.ps hb2 (PQ.ret h6.ps))
  refine bwp_seq fun K hK => bwp_region rfl ?_
  simp only [go_sem, ↓reduceIte]
  refine ptake_callK hs' hps4 wInit rfl rfl ?_
  intro q5 hy hn
  cases hb : tkB q4 wInit with
  | true =>
    have h5 := hy hb
    simp only [go_sem, ↓reduceIte, mset]
    refine hK _ ?_; clear hK
    refine bwp_cond true (by simp [ev, fget]) (fun _ => ?_) (fun h => nomatch h)
    refine bwp_region rfl ?_
    simp only [go_sem, ↓reduceIte]
    refine pinit_callK hs4 h5 rfl rfl ?_
    intro l q6 hl h6
    simp only [go_sem, ↓reduceIte, mset]
    refine fin1 _ l q6 (Leads.ent [(0, 0), (1, 1), (2, 2), (3, 3), (4, 4), (5, 5)] ⟨by simp [ptS, entT, fget, AV.ren, renL, pget], by simp [ptS, thrC, entM, pinv, mget, mset, renL, AV.ren, pget, parC, lexQ, lexC, testD, testD0], rfl, rfl⟩) ?_
    exact PQ.take_yes hps4 hb h6
  | false =>
    have h5 := hn hb
    subst h5
    simp only [go_sem, ↓reduceIte, mset]
    refine hK _ ?_; clear hK
    refine bwp_cond false (by simp [ev, fget]) (fun h => nomatch h) (fun _ => ?_)
    refine bwp_skip ?_
    refine fin1 _ [] q5 (Leads.ent [(0, 0), (1, 1), (2, 2), (3, 3), (4, 4), (5, 5)] ⟨by simp [ptS, entT, fget, AV.ren, renL, pget], by simp [ptS, slD, thrC, entM, pinv, mget, mset, renL, AV.ren, pget, parC, lexQ, lexC, testD, testD0], rfl, rfl⟩) ?_
    exact PQ.take_no hps4 hb (PQ.ret hps4)
end Go.Proofs.YtpfbljkfbjjlkaaGreatDoor

/- The document's reader: Tree. -/
namespace Go.Proofs.YtpfbljkfbjjlkaaGreatDoor
open Go Go.Jq
set_option maxRecDepth 100000
set_option linter.unusedSimpArgs false
theorem RQ.fin {α : Type} {s : List UInt8} {σ : PR Nat} {t : PT α} {x : α} {q q' : RSt} {b : PR (α × Nat)} (h : RQ s b x q) (hl : RL s (posR b) q') (hσ : b = thn σ (t.run s)) : (q'.code = 0 ∧ ∃ c, b = .ok (x, c)) ∨ (∃ e, b = .error e ∧ q'.code = e.1 ∧ e.1 ≠ 0 ∧ q'.eat = e.2) := by
  cases b with
  | ok p =>
    obtain ⟨y, c⟩ := p
    obtain ⟨rfl, h⟩ := h
    exact .inl ⟨hl.code, c, rfl⟩
  | error e => exact .inr ⟨e, rfl, hl⟩
def tzS (s : List UInt8) (t : Test) (r : RSt) : St :=
  ⟨[(4, .ptr 0 0), (5, .ptr 1 0), (2, .ptr 2 0), (3, .ptr 3 0)], [(0, rdC s r), (1, (testD t).map .d), (2, testD0.map .d), (3, [.d (.int .i64 0), .d (.int .i64 0)])], 4⟩
theorem trS_frz {n0 k : Nat} (hn : n0 ≤ 4 := by decide) (s nm : List UInt8) (I : List Init) (T : List (List Ins)) (kd : Int) (R : List (List Atom)) (r : RSt) (h0 : n0 = 0) : Leads n0 k (trS s nm I T kd R r) (tzS s ⟨nm, I, T, kd, R⟩ r) := by
  subst h0
  have h1 := init_take I
  have h2 : (thrC T).take T.length = thrC T := List.take_of_length_le (by rw [thrC_len]; omega)
  have h3 : (rowsC R).take R.length = rowsC R := List.take_of_length_le (by rw [rowsC_len]; omega)
  refine Leads.frz (S' := tzS s ⟨nm, I, T, kd, R⟩ r) [(0, 0), (1, 1), (2, 2), (3, 3)] [(4, I.flatMap Init.cells), (5, thrC T), (6, rowsC R)] ⟨?_, ?_, rfl, rfl, ?_⟩
  · simp [trS, tzS, frzT, fget, AV.cv, cvL, zget, pget]
  · simp [trS, tzS, frzM, pinv, zget, mget, cvL, AV.cv, rdC, testD, testD0, pget, cvL_d, slD, thrD, rowsD, h1, h2, h3]
  · simp [trS, zokFrom, mget, cvL_d]
set_option maxHeartbeats 64000000 in
theorem tree_pure {s : List UInt8} (hs : s.length ≤ maxLen) : Pure Tryz.prog 10 [.d (.str s)] (parseV (pTest s)) := by
  have h54 : ldk Tryz.prog 30 = some (some 5) := by kernel_rfl
  have h26 : ldk Tryz.prog 35 = some (some 2) := by kernel_rfl
  have hin : ∀ r, (parseV r).ren (fun _ => none) = parseV r := by
    intro r
    cases r <;> simp [parseV, AV.ren, renL, testD, testD0]
  refine acalls_of Tryz.func10 ac10_ok Tryz.ntmps10 Tryz.results10 rfl ?_
  unfold ac10
  refine bwp_seq fun K hK => bwp_region rfl ?_
  simp -implicitDefEqProofs only [go_sem, ↓reduceIte]
  refine hK _ ?_; clear hK
  refine bwp_seq fun K1 hK1 => ?_
  by_cases hl : 4000 < s.length
  · have hl' : (4000 : Int) < s.length := by omega
    refine bwp_seq fun K hK => bwp_region rfl ?_
    simp -implicitDefEqProofs only [go_sem, ↓reduceIte, eq_true hl', decide_true]
    refine hK _ ?_; clear hK
    refine bwp_cond true (by simp [ev, fget]) (fun _ => ?_) (fun h => nomatch h)
    refine bwp_seq fun K hK => bwp_region rfl ?_
    simp -implicitDefEqProofs only [go_sem, ↓reduceIte]
    refine hK _ ?_; clear hK
    refine bwp_ret ?_
    simp -implicitDefEqProofs only [go_sem, ↓reduceIte]
    refine aend_ret (parseV (pTest s)) ?_ (hin _) ⟨rfl, rfl⟩
    have : pTest s = .error (2, 4000) := by unfold pTest; rw [if_pos hl]
    rw [this]
    simp [resA, resVs, resV, fget, mget, mset, loadA, h54, h26, parseV, testD0]
  have hs4 : s.length ≤ 4000 := by omega
  have hs' : s.length ≤ 140737488351232 := by omega
  have hl' : ¬ (4000 : Int) < s.length := by omega
  refine bwp_seq fun K hK => bwp_region rfl ?_
  simp -implicitDefEqProofs only [go_sem, ↓reduceIte, eq_false hl', decide_false]
  refine hK _ ?_; clear hK
  refine bwp_cond false (by simp [ev, fget]) (fun h => nomatch h) (fun _ => ?_)
  refine bwp_skip ?_
  refine hK1 _ ?_; clear hK1
  refine bwp_seq fun K hK => bwp_region rfl ?_
  simp -implicitDefEqProofs only [go_sem, ↓reduceIte]
  refine hK _ ?_; clear hK
  refine bwp_seq fun K hK => bwp_region rfl ?_
  simp -implicitDefEqProofs only [go_sem, ↓reduceIte]
  refine hK _ ?_; clear hK
  refine bwp_leads (S' := ⟨[(4, .ptr 0 0), (5, .ptr 1 0), (2, .ptr 2 0), (3, .ptr 3 0)], [(0, rdC s ⟨0, noTok, 0, 0, 0⟩), (1, testD0.map .d), (2, testD0.map .d), (3, [.d (.int .i64 0), .d (.int .i64 0)])], 4⟩) (Leads.ent [(2, 0), (3, 1), (0, 2), (1, 3)] ⟨by simp [entT, fget, AV.ren, renL, pget, rdC, noTok, testD0], by simp [entM, pinv, mget, mset, renL, AV.ren, pget, renL_append, -List.map_map, rdC, noTok, testD0], rfl, rfl⟩) ?_
  refine bwp_leads (Leads.nilCell 1 1 2 rfl rfl rfl rfl) ?_
  refine bwp_leads (Leads.nilCell 1 2 1 rfl rfl rfl rfl) ?_
  refine bwp_leads (Leads.nilCell 1 4 1 rfl rfl rfl rfl) ?_
  refine bwp_leads (S' := trS s [] [] [] 0 [] ⟨0, noTok, 0, 0, 0⟩) (Leads.ent [(0, 0), (1, 1), (2, 2), (3, 3), (4, 4), (5, 5), (6, 6)] ⟨by simp [trS, entT, fget, AV.ren, renL, pget], by simp [trS, entM, pinv, mget, mset, renL, AV.ren, pget, rdC, testD0, thrC, rowsC], rfl, rfl⟩) ?_
  have h0 : RS s (goW s 0) ⟨0, noTok, 0, 0, 0⟩ := .inl ⟨rfl, Nat.zero_le _, rfl⟩
  unfold trS
  refine bwp_seq fun K hK => bwp_region rfl ?_
  simp -implicitDefEqProofs only [go_sem, ↓reduceIte]
  refine eat2_callK hs' h0 wTest rfl ?_
  intro q2 h2
  simp -implicitDefEqProofs only [go_sem, ↓reduceIte, mset]
  refine hK _ ?_; clear hK
  refine bwp_seq fun K hK => bwp_region rfl ?_
  simp -implicitDefEqProofs only [go_sem, ↓reduceIte]
  refine word2_callK hs' h2.rs rfl ?_
  intro nm q3 h3
  simp -implicitDefEqProofs only [go_sem, ↓reduceIte, mset]
  refine hK _ ?_; clear hK
  refine bwp_seq fun K hK => bwp_region rfl ?_
  simp -implicitDefEqProofs only [go_sem, ↓reduceIte]
  refine eat2_callK hs' h3.rs [123] rfl ?_
  intro q4 h4
  simp -implicitDefEqProofs only [go_sem, ↓reduceIte, mset]
  refine hK _ ?_; clear hK
  generalize hσ4 : posR (thn (posR (thn (posR (thn (goW s 0) ((tMust wTest).run s))) (tWord.run s))) ((tMust [123]).run s)) = σ4
  have hps4 := h4.rs
  rw [hσ4] at hps4
  refine bwp_seq fun K1 hK1 => ?_
  have fin1 : ∀ (S : St) (I : List Init) (q : RSt), Leads (mbound []) Tryz.f10.ntmps S (trS s nm I [] 0 [] q) → RQ s (thn σ4 ((tTake wInit tInits (.ret [])).run s)) I q → K1 S := by
    intro S I q5 hS h5
    refine hK1 _ ?_; clear hK1
    refine bwp_leads hS ?_
    have hir : ∀ π, renL π ((I.flatMap Init.cells).map AV.d) = (I.flatMap Init.cells).map .d := fun π => renL_d _ _
    refine bwp_seq fun K2 hK2 => ?_
    refine bwp_block ?_
    refine tr2_loop hs4 h5.rs ?_
    intro T q6 hl6 h6
    have htr : ∀ π, renL π ((thrC T).map AV.d) = (thrC T).map .d := fun π => renL_d _ _
    unfold trS
    simp -implicitDefEqProofs only [go_sem, ↓reduceIte]
    refine hK2 _ ?_; clear hK2
    refine bwp_seq fun K2 hK2 => ?_
    have fin2 : ∀ (S : St) (c : Int × List (List Atom)) (q : RSt), Leads (mbound []) Tryz.f10.ntmps S (trS s nm I T c.1 c.2 q) → RQ s (thn (posR (thn (posR (thn σ4 ((tTake wInit tInits (.ret [])).run s))) ((tThreads fuelP).run s))) (tCond.run s)) c q → K2 S := by
      intro S c q7 hS h7
      refine hK2 _ ?_; clear hK2
      refine bwp_leads hS ?_
      refine bwp_leads (trS_frz (by decide) s nm I T c.1 c.2 q7 rfl) ?_
      unfold tzS
      refine bwp_seq fun K hK => bwp_region rfl ?_
      simp -implicitDefEqProofs only [go_sem, ↓reduceIte]
      refine eat2_callK hs' h7.rs [125] rfl ?_
      intro q8 h8
      simp -implicitDefEqProofs only [go_sem, ↓reduceIte, mset]
      refine hK _ ?_; clear hK
      refine bwp_seq fun K3 hK3 => ?_
      refine bwp_seq fun K hK => bwp_region rfl ?_
      simp -implicitDefEqProofs only [go_sem, ↓reduceIte]
      refine look_callK hs' h8.rs rfl ?_
      intro q9 h9
      have fin3 : ∀ (S : St) (q : RSt), Leads (mbound []) Tryz.f10.ntmps S (tzS s ⟨nm, I, T, c.1, c.2⟩ q) → RL s (posR (thn (posR (thn (posR (thn (posR (thn (posR (thn σ4 ((tTake wInit tInits (.ret [])).run s))) ((tThreads fuelP).run s))) (tCond.run s))) ((tMust [125]).run s))) ((PT.cur fun d _ => if d = 4 then .ret (⟨nm, I, T, c.1, c.2⟩ : Test) else .bad 6).run s))) q →
          RQ s (thn (posR (thn (posR (thn (posR (thn (posR (thn σ4 ((tTake wInit tInits (.ret [])).run s))) ((tThreads fuelP).run s))) (tCond.run s))) ((tMust [125]).run s))) ((PT.cur fun d _ => if d = 4 then .ret (⟨nm, I, T, c.1, c.2⟩ : Test) else .bad 6).run s)) ⟨nm, I, T, c.1, c.2⟩ q → K3 S := by
        intro S q10 hS h10 h10q
        refine hK3 _ ?_; clear hK3
        refine bwp_leads hS ?_
        subst hσ4
        have hall : RQ s (thn (goW s 0) (tTest.run s)) ⟨nm, I, T, c.1, c.2⟩ q10 := RQ.bind h2 (RQ.bind h3 (RQ.bind h4 (RQ.bind h5 (RQ.bind h6 (RQ.bind h7 (RQ.bind h8 h10q))))))
        have hpos : RL s (posR (thn (goW s 0) (tTest.run s))) q10 := by
          have e : ∀ {α β : Type} (σ : PR Nat) (t : PT α) (f : α → PT β) (x : α) (q : RSt), RQ s (thn σ (t.run s)) x q → posR (thn σ ((t.bind f).run s)) = posR (thn (posR (thn σ (t.run s))) ((f x).run s)) := by
            intro α β σ t f x q h
            cases σ with
            | error e => rfl
            | ok a =>
              simp only [thn] at h ⊢
              rw [PT.run_bind]
              cases ht : t.run s a with
              | error e => rfl
              | ok p =>
                obtain ⟨x', b⟩ := p
                rw [ht] at h
                obtain ⟨rfl, _⟩ := h
                rfl
          unfold tTest
          rw [e _ _ _ _ _ h2, e _ _ _ _ _ h3, e _ _ _ _ _ h4, e _ _ _ _ _ h5, e _ _ _ _ _ h6, e _ _ _ _ _ h7, e _ _ _ _ _ h8]
          exact h10
        unfold tzS
        refine bwp_seq fun K4 hK4 => ?_
        have heq := pTest_eq hs4
        rcases RQ.fin hall hpos rfl with ⟨hc, b, hb⟩ | ⟨e, he, hc, hne, hat⟩
        · rw [hb] at heq
          simp only at heq
          refine bwp_seq fun K hK => bwp_region rfl ?_
          simp -implicitDefEqProofs only [go_sem, ↓reduceIte, rdC, eq_true hc, decide_true, decide_false]
          refine hK _ ?_; clear hK
          refine bwp_cond false (by simp [ev, fget]) (fun h => nomatch h) (fun _ => ?_)
          refine bwp_skip ?_
          refine hK4 _ ?_; clear hK4
          refine bwp_seq fun K hK => bwp_region rfl ?_
          simp -implicitDefEqProofs only [go_sem, ↓reduceIte, testD]
          refine hK _ ?_; clear hK
          refine bwp_ret ?_
          simp -implicitDefEqProofs only [go_sem, ↓reduceIte]
          refine aend_ret (parseV (pTest s)) ?_ (hin _) ⟨rfl, rfl⟩
          rw [heq]
          simp [resA, resVs, resV, fget, mget, mset, loadA, h54, h26, parseV, testD, testD0]
        · rw [he] at heq
          simp only at heq
          have hc0 : ¬ q10.code = 0 := by rw [hc]; exact hne
          refine bwp_seq fun K hK => bwp_region rfl ?_
          simp -implicitDefEqProofs only [go_sem, ↓reduceIte, rdC, eq_false hc0, decide_false]
          refine hK _ ?_; clear hK
          refine bwp_cond true (by simp [ev, fget]) (fun _ => ?_) (fun h => nomatch h)
          refine bwp_seq fun K hK => bwp_region_draw rfl rfl ?_
          simp -implicitDefEqProofs only [go_sem, ↓reduceIte, rdC]
          refine ⟨rfl, hK _ ?_⟩; clear hK
          refine bwp_ret ?_
          simp -implicitDefEqProofs only [go_sem, ↓reduceIte]
          refine aend_ret (parseV (pTest s)) ?_ (hin _) ⟨rfl, rfl⟩
          rw [heq]
          simp [resA, resVs, resV, fget, mget, mset, loadA, h54, h26, parseV, testD0, hc, hat]
      generalize posR (thn (posR (thn (posR (thn (posR (thn σ4 ((tTake wInit tInits (.ret [])).run s))) ((tThreads fuelP).run s))) (tCond.run s))) ((tMust [125]).run s)) = σ9 at h9 fin3
      by_cases hc : q9.code = 0
      · obtain ⟨a, rfl⟩ : ∃ a, σ9 = .ok a := by
          cases σ9 with
          | ok a => exact ⟨a, rfl⟩
          | error e => exact absurd hc h9.codeE
        have ht := h9.2.2.2.2.1
        rw [lkT_ok hc]
        simp -implicitDefEqProofs only [go_sem, ↓reduceIte, mset]
        refine hK _ ?_; clear hK
        by_cases h4 : q9.tok.kd = 4
        · have e : (PT.cur fun d _ => if d = 4 then .ret (⟨nm, I, T, c.1, c.2⟩ : Test) else .bad 6).run s a = .ok (⟨nm, I, T, c.1, c.2⟩, a) := by
            simp only [PT.run, ← ht, h4, if_true]
          simp only [thn, e, posR] at fin3
          refine bwp_seq fun K hK => bwp_region rfl ?_
          simp -implicitDefEqProofs only [go_sem, ↓reduceIte, rdC, eq_true hc, eq_true h4, decide_true, decide_false]
          refine hK _ ?_; clear hK
          refine bwp_cond false (by simp [ev, fget]) (fun h => nomatch h) (fun _ => ?_)
          refine bwp_skip ?_
          refine fin3 _ q9 (Leads.ent [(0, 0), (1, 1), (2, 2), (3, 3)] ⟨by simp [tzS, entT, fget, AV.ren, renL, pget], by simp [tzS, entM, pinv, mget, mset, renL, AV.ren, pget, rdC, testD, testD0], rfl, rfl⟩) h9 ⟨rfl, h9.rs⟩
        · have e : (PT.cur fun d _ => if d = 4 then .ret (⟨nm, I, T, c.1, c.2⟩ : Test) else .bad 6).run s a = (PT.bad 6 : PT Test).run s a := by
            simp only [PT.run, ← ht, h4, if_false]
          simp only [thn, e] at fin3
          refine bwp_seq fun K hK => bwp_region rfl ?_
          simp -implicitDefEqProofs only [go_sem, ↓reduceIte, rdC, eq_true hc, eq_false h4, decide_true, decide_false]
          refine hK _ ?_; clear hK
          refine bwp_cond true (by simp [ev, fget]) (fun _ => ?_) (fun h => nomatch h)
          refine bwp_region rfl ?_
          simp -implicitDefEqProofs only [go_sem, ↓reduceIte]
          refine fail2_callK s q9 6 rfl ?_
          simp -implicitDefEqProofs only [go_sem, ↓reduceIte, mset]
          refine fin3 _ (failR q9 6) (Leads.ent [(0, 0), (1, 1), (2, 2), (3, 3)] ⟨by simp [tzS, entT, fget, AV.ren, renL, pget], by simp [tzS, entM, pinv, mget, mset, renL, AV.ren, pget, rdC, testD, testD0], rfl, rfl⟩) (h9.fail (by decide) (α := Test)) (RQ.bad (σ := .ok a) h9 (by decide) _)
      · obtain ⟨e, rfl⟩ : ∃ e, σ9 = .error e := by
          cases σ9 with
          | ok a => exact absurd h9.code hc
          | error e => exact ⟨e, rfl⟩
        rw [lkT_no hc]
        simp -implicitDefEqProofs only [go_sem, ↓reduceIte, mset]
        refine hK _ ?_; clear hK
        refine bwp_seq fun K hK => bwp_region rfl ?_
        simp -implicitDefEqProofs only [go_sem, ↓reduceIte, rdC, eq_false hc, decide_false]
        refine hK _ ?_; clear hK
        refine bwp_cond false (by simp [ev, fget]) (fun h => nomatch h) (fun _ => ?_)
        refine bwp_skip ?_
        refine fin3 _ q9 (Leads.ent [(0, 0), (1, 1), (2, 2), (3, 3)] ⟨by simp [tzS, entT, fget, AV.ren, renL, pget], by simp [tzS, entM, pinv, mget, mset, renL, AV.ren, pget, rdC, testD, testD0], rfl, rfl⟩) h9 h9.rs
    generalize hσ6 : posR (thn (posR (thn σ4 ((tTake wInit tInits (.ret [])).run s))) ((tThreads fuelP).run s)) = σ6 at fin2
    have hr6 := h6.rs
    rw [hσ6] at hr6
    refine bwp_seq fun K3 hK3 => ?_
    have body : ∀ (S : St) (q : RSt), fget S.t 97 = .d (.bool true) → Leads (mbound []) Tryz.f10.ntmps S (trS s nm I T 0 [] q) → RL s σ6 q → (ikV s σ6 wExists = true ∨ (ikV s σ6 wExists = false ∧ ikV s σ6 wForall = true)) → K3 S := by
      intro S q g97 hS hq hor
      obtain ⟨a6, ha6⟩ : ∃ a, σ6 = .ok a := by
        rcases hor with h | h
        · obtain ⟨a, ha, _⟩ := ikV_ok h; exact ⟨a, ha⟩
        · obtain ⟨a, ha, _⟩ := ikV_ok h.2; exact ⟨a, ha⟩
      refine hK3 _ ?_; clear hK3
      refine bwp_cond true (by simp [ev, fget, g97]) (fun _ => ?_) (fun h => nomatch h)
      refine bwp_leads hS ?_
      unfold trS
      refine bwp_seq fun K hK => bwp_region rfl ?_
      simp -implicitDefEqProofs only [go_sem, ↓reduceIte, mset]
      refine hK _ ?_; clear hK
      refine bwp_seq fun K4 hK4 => ?_
      have rest : ∀ (S : St) (kd : Int) (q : RSt), Leads (mbound []) Tryz.f10.ntmps S (trS s nm I T kd [] q) → RL s σ6 q →
          (∀ rows q', RQ s (thn (thn σ6 (eatW s)) ((tAsk kd).run s)) (kd, rows) q' → RQ s (thn σ6 (tCond.run s)) (kd, rows) q') → K4 S := by
        intro S kd q hS hq hup
        have hc : q.code = 0 := by subst ha6; exact hq.code
        have hg := hq.goT hc
        refine hK4 _ ?_; clear hK4
        refine bwp_leads hS ?_
        unfold trS
        refine bwp_seq fun K hK => bwp_region rfl ?_
        simp -implicitDefEqProofs only [go_sem, ↓reduceIte]
        refine go_callK s q rfl ?_
        simp -implicitDefEqProofs only [go_sem, ↓reduceIte, mset]
        refine hK _ ?_; clear hK
        refine bwp_seq fun K hK => bwp_region rfl ?_
        simp -implicitDefEqProofs only [go_sem, ↓reduceIte]
        refine atom2_callK hs4 hg rfl ?_
        intro x q2 hx
        simp -implicitDefEqProofs only [go_sem, ↓reduceIte, mset, atC, Atom.cells]
        refine hK _ ?_; clear hK
        refine bwp_seq fun K5 hK5 => ?_
        refine bwp_block ?_
        refine bwp_leads (S' := taS s nm I T kd [] [x] q2) (Leads.ent [(0, 0), (1, 1), (2, 2), (3, 3), (4, 4), (5, 5), (6, 6), (9, 7)] ⟨by simp [taS, entT, fget, AV.ren, renL, pget], by simp [taS, entM, pinv, mget, mset, renL, AV.ren, pget, renL_append, -List.map_map, rdC, testD0, hir, htr, rowsC, Atom.cells], rfl, rfl⟩) ?_
        refine tr3_loop hs4 hg hx ?_
        intro accs row q7 hacl h7
        have hacl2 : ((rowsC accs).map AV.d).length = accs.length := by rw [List.length_map, rowsC_len]
        have hacr : ∀ π, renL π ((rowsC accs).map AV.d) = (rowsC accs).map .d := fun π => renL_d _ _
        have hb2 : (accs.length + 1) * 24 ≤ 140737488351232 := by omega
        unfold taS
        simp -implicitDefEqProofs only [go_sem, ↓reduceIte]
        refine hK5 _ ?_; clear hK5
        have htk := atom_take row
        have hsn := rowsC_snoc accs row
        generalize hds : row.flatMap Atom.cells = ds at htk
        refine bwp_leads (Leads.frz (S' := ⟨[(8, .d (.sl row.length ds)), (4, .ptr 0 0), (5, .ptr 1 0), (2, .ptr 2 0), (3, .ptr 3 0)], [(0, rdC s q7), (1, [.d (.str nm), .sl 4 2 0 I.length, .sl 5 1 0 T.length, .d (.int .i64 kd), .sl 6 1 0 accs.length]), (2, testD0.map .d), (3, [.d (.int .i64 0), .d (.int .i64 0)]), (4, (I.flatMap Init.cells).map .d), (5, (thrC T).map .d), (6, (rowsC accs).map .d)], 7⟩) [(0, 0), (1, 1), (2, 2), (3, 3), (4, 4), (5, 5), (6, 6)] [(7, ds)] ⟨?_, ?_, rfl, rfl, ?_⟩) ?_
        · simp [frzT, fget, AV.cv, cvL, zget, pget, htk]
        · simp [frzM, pinv, zget, mget, cvL, AV.cv, rdC, testD0, pget, cvL_d]
        · simp [zokFrom, mget, cvL_d]
        refine bwp_seq fun K hK => bwp_region rfl ?_
        simp -implicitDefEqProofs only [go_sem, ↓reduceIte, hacl2, hb2, mset, List.length_append, List.length_map, List.length_cons, List.length_nil]
        refine hK _ ?_; clear hK
        refine bwp_region rfl ?_
        simp -implicitDefEqProofs only [go_sem, ↓reduceIte]
        refine eat2_callK hs' h7.rs [59] rfl ?_
        intro q8 h8
        simp -implicitDefEqProofs only [go_sem, ↓reduceIte, mset]
        refine fin2 _ (kd, accs ++ [row]) q8 (Leads.ent [(0, 0), (1, 1), (2, 2), (3, 3), (4, 4), (5, 5), (8, 6)] ⟨by simp [trS, entT, fget, AV.ren, renL, pget], ?_, rfl, rfl⟩) ?_
        · simp only [trS, hsn, List.map_append]
          simp [entM, pinv, mget, mset, renL, AV.ren, pget, renL_append, -List.map_map, rdC, testD0, hacr, hir, htr, slD, hds]
        · exact hup _ _ (RQ.bind h7 (RQ.bind h8 (RQ.ret h8.rs)))
      refine bwp_seq fun K hK => bwp_region rfl ?_
      simp -implicitDefEqProofs only [go_sem, ↓reduceIte]
      refine is2_callK (r := q) hs' hq.rs wForall rfl ?_
      intro q2 hq2
      rw [hq2.ikV]
      rcases hor with he | ⟨he, hf⟩
      · rw [ikV_two he (y := wForall) (by decide)]
        simp -implicitDefEqProofs only [go_sem, ↓reduceIte, mset]
        refine hK _ ?_; clear hK
        refine bwp_cond false (by simp [ev, fget]) (fun h => nomatch h) (fun _ => ?_)
        refine bwp_skip ?_
        refine rest _ 1 q2 (Leads.ent [(0, 0), (1, 1), (2, 2), (3, 3), (4, 4), (5, 5), (6, 6)] ⟨by simp [trS, entT, fget, AV.ren, renL, pget], by simp [trS, entM, pinv, mget, mset, renL, AV.ren, pget, renL_append, -List.map_map, rdC, testD0, hir, htr, rowsC], rfl, rfl⟩) hq2 ?_
        intro rows q' hr
        exact RQ.take_yes hq2 (by rw [hq2.ikV]; exact he) hr
      · rw [hf]
        simp -implicitDefEqProofs only [go_sem, ↓reduceIte, mset]
        refine hK _ ?_; clear hK
        refine bwp_cond true (by simp [ev, fget]) (fun _ => ?_) (fun h => nomatch h)
        refine bwp_region rfl ?_
        simp -implicitDefEqProofs only [go_sem, ↓reduceIte, mset]
        refine rest _ 2 q2 (Leads.ent [(0, 0), (1, 1), (2, 2), (3, 3), (4, 4), (5, 5), (6, 6)] ⟨by simp [trS, entT, fget, AV.ren, renL, pget], by simp [trS, entM, pinv, mget, mset, renL, AV.ren, pget, renL_append, -List.map_map, rdC, testD0, hir, htr, rowsC], rfl, rfl⟩) hq2 ?_
        intro rows q' hr
        exact RQ.take_no hq2 (by rw [hq2.ikV]; exact he) (RQ.take_yes hq2 (by rw [hq2.ikV]; exact hf) hr)
    refine bwp_region rfl ?_
    simp -implicitDefEqProofs only [go_sem, ↓reduceIte]
    refine is2_callK hs' hr6 wExists rfl ?_
    intro q7 h7
    rw [h7.ikV]
    cases he : ikV s σ6 wExists with
    | true =>
      simp -implicitDefEqProofs only [go_sem, ↓reduceIte, mset]
      refine body _ q7 rfl (Leads.ent [(0, 0), (1, 1), (2, 2), (3, 3), (4, 4), (5, 5), (6, 6)] ⟨by simp [trS, entT, fget, AV.ren, renL, pget], by simp [trS, entM, pinv, mget, mset, renL, AV.ren, pget, renL_append, -List.map_map, rdC, testD0, hir, htr, rowsC], rfl, rfl⟩) h7 (.inl he)
    | false =>
      simp -implicitDefEqProofs only [go_sem, ↓reduceIte, mset]
      refine is2_callK (r := q7) hs' h7.rs wForall rfl ?_
      intro q8 h8
      rw [h8.ikV]
      cases hf : ikV s σ6 wForall with
      | true =>
        simp -implicitDefEqProofs only [go_sem, ↓reduceIte, mset]
        refine body _ q8 rfl (Leads.ent [(0, 0), (1, 1), (2, 2), (3, 3), (4, 4), (5, 5), (6, 6)] ⟨by simp [trS, entT, fget, AV.ren, renL, pget], by simp [trS, entM, pinv, mget, mset, renL, AV.ren, pget, renL_append, -List.map_map, rdC, testD0, hir, htr, rowsC], rfl, rfl⟩) h8 (.inr ⟨he, hf⟩)
      | false =>
        simp -implicitDefEqProofs only [go_sem, ↓reduceIte, mset]
        refine hK3 _ ?_; clear hK3
        refine bwp_cond false (by simp [ev, fget]) (fun h => nomatch h) (fun _ => ?_)
        refine bwp_skip ?_
        refine fin2 _ (0, []) q8 (Leads.ent [(0, 0), (1, 1), (2, 2), (3, 3), (4, 4), (5, 5), (6, 6)] ⟨by simp [trS, entT, fget, AV.ren, renL, pget], by simp [trS, entM, pinv, mget, mset, renL, AV.ren, pget, renL_append, -List.map_map, rdC, testD0, hir, htr, rowsC], rfl, rfl⟩) ?_
        exact RQ.take_no h8 (by rw [h8.ikV]; exact he) (RQ.take_no h8 (by rw [h8.ikV]; exact hf) (RQ.ret h8.rs))
  refine bwp_seq fun K hK => bwp_region rfl ?_
  simp -implicitDefEqProofs only [go_sem, ↓reduceIte]
  refine is2_callK hs' hps4 wInit rfl ?_
  intro q5 h5
  simp -implicitDefEqProofs only [go_sem, ↓reduceIte, mset]
  refine hK _ ?_; clear hK
  cases hb : ikB q5 wInit with
  | false =>
    refine bwp_cond false (by simp [ev, fget]) (fun h => nomatch h) (fun _ => ?_)
    refine bwp_skip ?_
    refine fin1 _ [] q5 (Leads.ent [(0, 0), (1, 1), (2, 2), (3, 3), (4, 4), (5, 5), (6, 6)] ⟨by simp [trS, entT, fget, AV.ren, renL, pget], by simp [trS, entM, pinv, mget, mset, renL, AV.ren, pget, renL_append, -List.map_map, rdC, testD0, thrC, rowsC], rfl, rfl⟩) ?_
    exact RQ.take_no h5 hb (RQ.ret h5.rs)
  | true =>
    have hg := h5.goT (ikB_code hb)
    refine bwp_cond true (by simp [ev, fget]) (fun _ => ?_) (fun h => nomatch h)
    refine bwp_seq fun K hK => bwp_region rfl ?_
    simp -implicitDefEqProofs only [go_sem, ↓reduceIte]
    refine go_callK s q5 rfl ?_
    simp -implicitDefEqProofs only [go_sem, ↓reduceIte, mset]
    refine hK _ ?_; clear hK
    refine bwp_seq fun K hK => bwp_region rfl ?_
    simp -implicitDefEqProofs only [go_sem, ↓reduceIte]
    refine eat2_callK hs' hg [123] rfl ?_
    intro q6 h6
    simp -implicitDefEqProofs only [go_sem, ↓reduceIte, mset]
    refine hK _ ?_; clear hK
    refine bwp_seq fun K2 hK2 => ?_
    refine bwp_block ?_
    refine bwp_leads (S' := trS s nm [] [] 0 [] q6) (Leads.ent [(0, 0), (1, 1), (2, 2), (3, 3), (4, 4), (5, 5), (6, 6)] ⟨by simp [trS, entT, fget, AV.ren, renL, pget], by simp [trS, entM, pinv, mget, mset, renL, AV.ren, pget, renL_append, -List.map_map, rdC, testD0, thrC, rowsC], rfl, rfl⟩) ?_
    refine tr0_loop hs4 h6.rs ?_
    intro I q7 hN
    obtain ⟨hl4, σ1, hr7, hto⟩ := hN
    have hir : ∀ π, renL π ((I.flatMap Init.cells).map AV.d) = (I.flatMap Init.cells).map .d := fun π => renL_d _ _
    unfold trS
    simp -implicitDefEqProofs only [go_sem, ↓reduceIte]
    refine hK2 _ ?_; clear hK2
    refine bwp_region rfl ?_
    simp -implicitDefEqProofs only [go_sem, ↓reduceIte]
    refine eat2_callK hs' hr7 [125] rfl ?_
    intro q8 h8
    have h9 := hto _ h8
    simp -implicitDefEqProofs only [go_sem, ↓reduceIte, mset]
    refine fin1 _ I q8 (Leads.ent [(0, 0), (1, 1), (2, 2), (3, 3), (4, 4), (5, 5), (6, 6)] ⟨by simp [trS, entT, fget, AV.ren, renL, pget], by simp [trS, entM, pinv, mget, mset, renL, AV.ren, pget, renL_append, -List.map_map, rdC, testD0, thrC, rowsC, hir], rfl, rfl⟩) ?_
    exact RQ.take_yes h5 hb (RQ.bind h6 h9)
end Go.Proofs.YtpfbljkfbjjlkaaGreatDoor

/- Two lists held against each other, plain. -/
namespace Go.Proofs.YtpfbljkfbjjlkaaGreatDoor
open Go Go.Jq
set_option maxRecDepth 100000
set_option linter.unusedSimpArgs false
def eqL {α : Type} (e : α → α → Bool) : List α → List α → Bool
  | [], [] => true
  | a :: l, b :: l' => e a b && eqL e l l'
  | _, _ => false
theorem eqL_len {α : Type} (e : α → α → Bool) : ∀ (l l' : List α), l.length ≠ l'.length → eqL e l l' = false
  | [], [], h => absurd rfl h
  | [], _ :: _, _ => rfl
  | _ :: _, [], _ => rfl
  | a :: l, b :: l', h => by
    simp only [eqL, eqL_len e l l' (by simpa using h), Bool.and_false]
theorem eqL_at {α : Type} (e : α → α → Bool) : ∀ (l l' : List α) (i : Nat) (h : i < l.length) (h' : i < l'.length), e l[i] l'[i] = false → eqL e l l' = false
  | [], _, i, h, _, _ => by simp at h
  | _ :: _, [], i, _, h', _ => by simp at h'
  | a :: l, b :: l', 0, _, _, he => by simp only [List.getElem_cons_zero] at he; simp [eqL, he]
  | a :: l, b :: l', i + 1, h, h', he => by
    simp only [List.getElem_cons_succ] at he
    simp [eqL, eqL_at e l l' i (by simpa using h) (by simpa using h') he]
theorem eqL_all {α : Type} (e : α → α → Bool) : ∀ (l l' : List α), l.length = l'.length → (∀ i (h : i < l.length) (h' : i < l'.length), e l[i] l'[i] = true) → eqL e l l' = true
  | [], [], _, _ => rfl
  | [], _ :: _, h, _ => by simp at h
  | _ :: _, [], h, _ => by simp at h
  | a :: l, b :: l', h, he => by
    have h0 := he 0 (by simp) (by simp)
    simp only [List.getElem_cons_zero] at h0
    simp only [eqL, h0, Bool.true_and]
    exact eqL_all e l l' (by simpa using h) fun i hi hi' => by
      have := he (i + 1) (by simpa using hi) (by simpa using hi')
      simpa using this
theorem eqL_iff {α : Type} {e : α → α → Bool} (h : ∀ a b, e a b = true ↔ a = b) : ∀ (l l' : List α), eqL e l l' = true ↔ l = l'
  | [], [] => by simp [eqL]
  | [], _ :: _ => by simp [eqL]
  | _ :: _, [] => by simp [eqL]
  | a :: l, b :: l' => by simp [eqL, h, eqL_iff h l l']
def eqInit (x y : Init) : Bool := decide (x.loc = y.loc) && (decide (x.value = y.value) && true)
def eqAtom (x y : Atom) : Bool := decide (x.thread = y.thread) && (decide (x.reg = y.reg) && (decide (x.loc = y.loc) && (decide (x.value = y.value) && true)))
theorem eqInit_iff (x y : Init) : eqInit x y = true ↔ x = y := by
  cases x; cases y
  simp [eqInit]
theorem eqAtom_iff (x y : Atom) : eqAtom x y = true ↔ x = y := by
  cases x; cases y
  simp [eqAtom]
theorem eqIns_iff (x y : Ins) : eqIns x y = true ↔ x = y := by
  cases x with | mk k r l a o b n => cases y with | mk k' r' l' a' o' b' n' => cases a; cases b; cases a'; cases b'; simp [eqIns, and_assoc]
end Go.Proofs.YtpfbljkfbjjlkaaGreatDoor

/- The document's Same: its loops. -/
namespace Go.Proofs.YtpfbljkfbjjlkaaGreatDoor
open Go Go.Jq
set_option maxRecDepth 100000
set_option linter.unusedSimpArgs false
def rsS (c1 c2 : List DV) (ex : Fr) : St := ⟨ex ++ [(2, .ptr 0 0), (3, .ptr 1 0)], [(0, c1.map .d), (1, c2.map .d)], 2⟩
set_option maxHeartbeats 4000000 in
theorem rs_inAtom {kd kd' : Int} {rows rows' : List (List Atom)} {T T' : DV} (hT : IsSl2 Atom.cells rows T) (hT' : IsSl2 Atom.cells rows' T') {i : Nat} (hi : i < rows.length) (hi' : i < rows'.length) (hln : rows[i].length = rows'[i].length) {Q : Exit → St → Prop}
    (hbad : eqL eqAtom rows[i] rows'[i] = false → ∀ S, fget S.t 4 = .d (.bool false) → Q .ret S) (hgood : eqL eqAtom rows[i] rows'[i] = true → Q (.exit 2) (rsS [.int .i64 kd, T] [.int .i64 kd', T'] [(5, .d (.int .i64 i))])) :
    BWP Tryz.prog (mbound []) 68 (.loop ac48L0) (rsS [.int .i64 kd, T] [.int .i64 kd', T'] [(6, .d (.int .i64 (0 : Nat))), (5, .d (.int .i64 i))]) Q := by
  obtain ⟨ts, d, rest0, hTe, hd1, hjc, hD⟩ := hT.at i hi
  obtain ⟨ts', d', rest0', hTe', hd1', hjc', hD'⟩ := hT'.at i hi'
  have hiT : (i : Int) < rows.length := by omega
  have hiT' : (i : Int) < rows'.length := by omega
  generalize rows[i] = l at *
  generalize rows'[i] = l' at *
  have hb := hD.1
  refine bwp_countI (fun k => rsS [.int .i64 kd, T] [.int .i64 kd', T'] [(6, .d (.int .i64 (k : Nat))), (5, .d (.int .i64 i))]) (fun k => ∀ j (h : j < l.length) (h' : j < l'.length), j < k → eqAtom l[j] l'[j] = true) l.length (fun j _ _ h => absurd h (Nat.not_lt_zero _)) ?_
  intro k hk hp
  unfold ac48L0 rsS
  simp only [List.cons_append, List.nil_append, List.map_cons, List.map_nil]
  refine bwp_seq fun K1 hK1 => ?_
  by_cases hlt : k < l.length
  · have hlt' : (k : Int) < l.length := by omega
    have hlt2 : (k : Int) < l'.length := by omega
    obtain ⟨cs, rest, hDe, hdrop, hcs⟩ := hD.at atom_len (by omega) k hlt
    obtain ⟨cs', rest', hDe', hdrop', hcs'⟩ := hD'.at atom_len (by omega) k (by omega)
    have hw : IntKind.i64.wrap ((k : Int) + 1) = ((k + 1 : Nat) : Int) := by rw [wrap_i64 (by omega) (by omega)]; rfl
    have hno := eqL_at eqAtom l l' k hlt (by omega)
    have hnext : eqAtom l[k] (l'[k]'(by omega)) = true → ∀ j (h : j < l.length) (h' : j < l'.length), j < k + 1 → eqAtom l[j] l'[j] = true := fun he j h h' hj => by
      rcases Nat.lt_succ_iff_lt_or_eq.1 hj with h1 | h1
      · exact hp j h h' h1
      · subst h1; exact he
    generalize l[k] = x at hdrop hno hnext
    generalize l'[k]'(by omega) = y at hdrop' hno hnext
    refine bwp_seq fun K hK => bwp_region rfl ?_
    simp only [go_sem, ↓reduceIte, hTe, hiT, Int.natCast_nonneg, Int.toNat_natCast, hd1, hjc, hD.len, hlt']
    refine hK _ ?_; clear hK
    refine bwp_cond true (by simp [ev, fget, hlt']) (fun _ => ?_) (fun h => nomatch h)
    refine bwp_skip ?_
    refine hK1 _ ?_; clear hK1
    refine bwp_seq fun K1 hK1 => ?_
    refine bwp_block ?_
    refine bwp_seq fun K hK => bwp_region_draw rfl rfl ?_
    simp only [go_sem, ↓reduceIte, hTe, hTe', hiT, hiT', Int.natCast_nonneg, Int.toNat_natCast, hd1, hjc, hd1', hjc', hDe, hDe', hlt', hlt2, hcs, hcs', hdrop, hdrop', Atom.cells]
    refine ⟨rfl, hK _ ?_⟩; clear hK
    cases he : eqAtom x y with
    | false =>
      have he' : ¬ (x.thread = y.thread ∧ x.reg = y.reg ∧ x.loc = y.loc ∧ x.value = y.value) := fun h => by
        have : eqAtom x y = true := by simp [eqAtom, h]
        rw [this] at he
        cases he
      refine bwp_cond true (by simp [ev, fget]; omega) (fun _ => ?_) (fun h => nomatch h)
      refine bwp_seq fun K hK => bwp_region rfl ?_
      simp only [go_sem, ↓reduceIte]
      refine hK _ ?_; clear hK
      refine bwp_ret ?_
      simp only [go_sem, ↓reduceIte]
      exact hbad (hno he) _ rfl
    | true =>
      have he' : x.thread = y.thread ∧ x.reg = y.reg ∧ x.loc = y.loc ∧ x.value = y.value := by simpa [eqAtom, and_assoc] using he
      refine bwp_cond false (by simp [ev, fget]; omega) (fun h => nomatch h) (fun _ => ?_)
      refine bwp_skip ?_
      simp only [go_sem, ↓reduceIte]
      refine hK1 _ ?_; clear hK1
      refine bwp_region rfl ?_
      simp only [go_sem, ↓reduceIte, hw]
      refine ⟨hlt, hnext he, Leads.ent [(0, 0), (1, 1)] ⟨by simp [entT, fget, AV.ren, renL, pget], by simp [entM, pinv, mget, renL, AV.ren, hTe, hTe', pget], rfl, rfl⟩⟩
  · have hlt' : ¬ (k : Int) < l.length := by omega
    have hin : k = l.length := by omega
    refine bwp_seq fun K hK => bwp_region rfl ?_
    simp only [go_sem, ↓reduceIte, hTe, hiT, Int.natCast_nonneg, Int.toNat_natCast, hd1, hjc, hD.len, hlt']
    refine hK _ ?_; clear hK
    refine bwp_cond false (by simp [ev, fget, hlt']) (fun h => nomatch h) (fun _ => ?_)
    refine bwp_leads (S' := rsS [.int .i64 kd, T] [.int .i64 kd', T'] [(5, .d (.int .i64 i))]) (Leads.ent [(0, 0), (1, 1)] ⟨by simp [entT, fget, AV.ren, renL, pget, rsS, hTe, hTe'], by simp [entM, pinv, mget, mset, renL, AV.ren, pget, renL_append, -List.map_map, rsS, hTe, hTe'], rfl, rfl⟩) ?_
    exact bwp_exit (hgood (eqL_all eqAtom l l' hln fun j h h' => hp j h h' (by omega)))
set_option maxHeartbeats 4000000 in
theorem rs_outAtom {kd kd' : Int} {rows rows' : List (List Atom)} {T T' : DV} (hT : IsSl2 Atom.cells rows T) (hT' : IsSl2 Atom.cells rows' T') (hlr : rows.length = rows'.length) {Q : Exit → St → Prop}
    (hbad : eqL (eqL eqAtom) rows rows' = false → ∀ S, fget S.t 4 = .d (.bool false) → Q .ret S) (hgood : eqL (eqL eqAtom) rows rows' = true → Q (.exit 0) (rsS [.int .i64 kd, T] [.int .i64 kd', T'] [])) :
    BWP Tryz.prog (mbound []) 68 (.loop ac48L1) (rsS [.int .i64 kd, T] [.int .i64 kd', T'] [(5, .d (.int .i64 (0 : Nat)))]) Q := by
  have hb := hT.big
  refine bwp_countI (fun k => rsS [.int .i64 kd, T] [.int .i64 kd', T'] [(5, .d (.int .i64 (k : Nat)))]) (fun k => ∀ j (h : j < rows.length) (h' : j < rows'.length), j < k → eqL eqAtom rows[j] rows'[j] = true) rows.length (fun j _ _ h => absurd h (Nat.not_lt_zero _)) ?_
  intro i hi hp
  unfold ac48L1 rsS
  simp only [List.cons_append, List.nil_append, List.map_cons, List.map_nil]
  refine bwp_seq fun K1 hK1 => ?_
  by_cases hlt : i < rows.length
  · have hlt' : (i : Int) < rows.length := by omega
    have hlt2 : (i : Int) < rows'.length := by omega
    have hi2 : i < rows'.length := by omega
    obtain ⟨ts, d, rest0, hTe, hd1, hjc, hD⟩ := hT.at i hlt
    obtain ⟨ts', d', rest0', hTe', hd1', hjc', hD'⟩ := hT'.at i hi2
    have hw : IntKind.i64.wrap ((i : Int) + 1) = ((i + 1 : Nat) : Int) := by rw [wrap_i64 (by omega) (by omega)]; rfl
    have hno := eqL_at (eqL eqAtom) rows rows' i hlt hi2
    have hnext : eqL eqAtom rows[i] rows'[i] = true → ∀ j (h : j < rows.length) (h' : j < rows'.length), j < i + 1 → eqL eqAtom rows[j] rows'[j] = true := fun he j h h' hj => by
      rcases Nat.lt_succ_iff_lt_or_eq.1 hj with h1 | h1
      · exact hp j h h' h1
      · subst h1; exact he
    refine bwp_seq fun K hK => bwp_region rfl ?_
    simp only [go_sem, ↓reduceIte, hT.len, hlt']
    refine hK _ ?_; clear hK
    refine bwp_cond true (by simp [ev, fget, hlt']) (fun _ => ?_) (fun h => nomatch h)
    refine bwp_skip ?_
    refine hK1 _ ?_; clear hK1
    refine bwp_seq fun K1 hK1 => ?_
    refine bwp_block ?_
    refine bwp_seq fun K2 hK2 => ?_
    refine bwp_seq fun K hK => bwp_region_draw rfl rfl ?_
    simp only [go_sem, ↓reduceIte, hTe, hTe', hlt', hlt2, Int.natCast_nonneg, Int.toNat_natCast, hd1, hjc, hd1', hjc', hD.len, hD'.len]
    refine ⟨rfl, hK _ ?_⟩; clear hK
    by_cases hln : rows[i].length = rows'[i].length
    · have hln' : ((rows[i].length : Nat) : Int) = (rows'[i].length : Nat) := by omega
      refine bwp_cond false (by simp [ev, fget, hln']) (fun h => nomatch h) (fun _ => ?_)
      refine bwp_skip ?_
      refine hK2 _ ?_; clear hK2
      refine bwp_seq fun K hK => bwp_region rfl ?_
      simp only [go_sem, ↓reduceIte]
      refine hK _ ?_; clear hK
      refine bwp_block ?_
      refine bwp_leads (S' := rsS [.int .i64 kd, T] [.int .i64 kd', T'] [(6, .d (.int .i64 (0 : Nat))), (5, .d (.int .i64 i))]) (Leads.ent [(0, 0), (1, 1)] ⟨by simp [entT, fget, AV.ren, renL, pget, rsS, hTe, hTe'], by simp [entM, pinv, mget, mset, renL, AV.ren, pget, renL_append, -List.map_map, rsS, hTe, hTe'], rfl, rfl⟩) ?_
      refine rs_inAtom hT hT' hlt hi2 hln ?_ ?_
      · intro he S hS
        simp only [go_sem, ↓reduceIte]
        exact hbad (hno he) S hS
      · intro he
        unfold rsS
        simp only [List.cons_append, List.nil_append, List.map_cons, List.map_nil]
        simp only [go_sem, ↓reduceIte]
        refine hK1 _ ?_; clear hK1
        refine bwp_region rfl ?_
        simp only [go_sem, ↓reduceIte, hw]
        refine ⟨hlt, hnext he, Leads.ent [(0, 0), (1, 1)] ⟨by simp [entT, fget, AV.ren, renL, pget], by simp [entM, pinv, mget, renL, AV.ren, pget], rfl, rfl⟩⟩
    · have hln' : ¬ ((rows[i].length : Nat) : Int) = (rows'[i].length : Nat) := by omega
      refine bwp_cond true (by simp [ev, fget, hln']) (fun _ => ?_) (fun h => nomatch h)
      refine bwp_seq fun K hK => bwp_region rfl ?_
      simp only [go_sem, ↓reduceIte]
      refine hK _ ?_; clear hK
      refine bwp_ret ?_
      simp only [go_sem, ↓reduceIte]
      exact hbad (hno (eqL_len eqAtom _ _ hln)) _ rfl
  · have hlt' : ¬ (i : Int) < rows.length := by omega
    refine bwp_seq fun K hK => bwp_region rfl ?_
    simp only [go_sem, ↓reduceIte, hT.len, hlt']
    refine hK _ ?_; clear hK
    refine bwp_cond false (by simp [ev, fget, hlt']) (fun h => nomatch h) (fun _ => ?_)
    refine bwp_leads (S' := rsS [.int .i64 kd, T] [.int .i64 kd', T'] []) (Leads.ent [(0, 0), (1, 1)] ⟨by simp [entT, fget, AV.ren, renL, pget, rsS], by simp [entM, pinv, mget, mset, renL, AV.ren, pget, renL_append, -List.map_map, rsS], rfl, rfl⟩) ?_
    exact bwp_exit (hgood (eqL_all (eqL eqAtom) rows rows' hlr fun j h h' => hp j h h' (by omega)))
set_option maxHeartbeats 4000000 in
theorem rs_inIns {nm nm' : List UInt8} {kd kd' : Int} {I I' A A' : DV} {rows rows' : List (List Ins)} {T T' : DV} (hT : IsSl2 Ins.cells rows T) (hT' : IsSl2 Ins.cells rows' T') {i : Nat} (hi : i < rows.length) (hi' : i < rows'.length) (hln : rows[i].length = rows'[i].length) {Q : Exit → St → Prop}
    (hbad : eqL eqIns rows[i] rows'[i] = false → ∀ S, fget S.t 4 = .d (.bool false) → Q .ret S) (hgood : eqL eqIns rows[i] rows'[i] = true → Q (.exit 4) (rsS [.str nm, I, T, .int .i64 kd, A] [.str nm', I', T', .int .i64 kd', A'] [(6, .d (.int .i64 i))])) :
    BWP Tryz.prog (mbound []) 104 (.loop ac11L1) (rsS [.str nm, I, T, .int .i64 kd, A] [.str nm', I', T', .int .i64 kd', A'] [(7, .d (.int .i64 (0 : Nat))), (6, .d (.int .i64 i))]) Q := by
  obtain ⟨ts, d, rest0, hTe, hd1, hjc, hD⟩ := hT.at i hi
  obtain ⟨ts', d', rest0', hTe', hd1', hjc', hD'⟩ := hT'.at i hi'
  have hiT : (i : Int) < rows.length := by omega
  have hiT' : (i : Int) < rows'.length := by omega
  generalize rows[i] = l at *
  generalize rows'[i] = l' at *
  have hb := hD.1
  refine bwp_countI (fun k => rsS [.str nm, I, T, .int .i64 kd, A] [.str nm', I', T', .int .i64 kd', A'] [(7, .d (.int .i64 (k : Nat))), (6, .d (.int .i64 i))]) (fun k => ∀ j (h : j < l.length) (h' : j < l'.length), j < k → eqIns l[j] l'[j] = true) l.length (fun j _ _ h => absurd h (Nat.not_lt_zero _)) ?_
  intro k hk hp
  unfold ac11L1 rsS
  simp only [List.cons_append, List.nil_append, List.map_cons, List.map_nil]
  refine bwp_seq fun K1 hK1 => ?_
  by_cases hlt : k < l.length
  · have hlt' : (k : Int) < l.length := by omega
    have hlt2 : (k : Int) < l'.length := by omega
    obtain ⟨cs, rest, hDe, hdrop, hcs⟩ := hD.at ins_len (by omega) k hlt
    obtain ⟨cs', rest', hDe', hdrop', hcs'⟩ := hD'.at ins_len (by omega) k (by omega)
    have hw : IntKind.i64.wrap ((k : Int) + 1) = ((k + 1 : Nat) : Int) := by rw [wrap_i64 (by omega) (by omega)]; rfl
    have hno := eqL_at eqIns l l' k hlt (by omega)
    have hnext : eqIns l[k] (l'[k]'(by omega)) = true → ∀ j (h : j < l.length) (h' : j < l'.length), j < k + 1 → eqIns l[j] l'[j] = true := fun he j h h' hj => by
      rcases Nat.lt_succ_iff_lt_or_eq.1 hj with h1 | h1
      · exact hp j h h' h1
      · subst h1; exact he
    generalize l[k] = x at hdrop hno hnext
    generalize l'[k]'(by omega) = y at hdrop' hno hnext
    refine bwp_seq fun K hK => bwp_region rfl ?_
    simp only [go_sem, ↓reduceIte, hTe, hiT, Int.natCast_nonneg, Int.toNat_natCast, hd1, hjc, hD.len, hlt']
    refine hK _ ?_; clear hK
    refine bwp_cond true (by simp [ev, fget, hlt']) (fun _ => ?_) (fun h => nomatch h)
    refine bwp_skip ?_
    refine hK1 _ ?_; clear hK1
    refine bwp_seq fun K1 hK1 => ?_
    refine bwp_block ?_
    refine bwp_seq fun K hK => bwp_region_draw rfl rfl ?_
    simp only [go_sem, ↓reduceIte, hTe, hTe', hiT, hiT', Int.natCast_nonneg, Int.toNat_natCast, hd1, hjc, hd1', hjc', hDe, hDe', hlt', hlt2, hcs, hcs', hdrop, hdrop', Ins.cells]
    refine ⟨rfl, hK _ ?_⟩; clear hK
    cases he : eqIns x y with
    | false =>
      have he' : ¬ (x.kind = y.kind ∧ x.reg = y.reg ∧ x.loc = y.loc ∧ x.a.reg = y.a.reg ∧ x.a.value = y.a.value ∧ x.op = y.op ∧ x.b.reg = y.b.reg ∧ x.b.value = y.b.value ∧ x.n = y.n) := fun h => by
        have : eqIns x y = true := by simp [eqIns, h]
        rw [this] at he
        cases he
      refine bwp_cond true (by simp [ev, fget]; omega) (fun _ => ?_) (fun h => nomatch h)
      refine bwp_seq fun K hK => bwp_region rfl ?_
      simp only [go_sem, ↓reduceIte]
      refine hK _ ?_; clear hK
      refine bwp_ret ?_
      simp only [go_sem, ↓reduceIte]
      exact hbad (hno he) _ rfl
    | true =>
      have he' : x.kind = y.kind ∧ x.reg = y.reg ∧ x.loc = y.loc ∧ x.a.reg = y.a.reg ∧ x.a.value = y.a.value ∧ x.op = y.op ∧ x.b.reg = y.b.reg ∧ x.b.value = y.b.value ∧ x.n = y.n := by simpa [eqIns, and_assoc] using he
      refine bwp_cond false (by simp [ev, fget]; omega) (fun h => nomatch h) (fun _ => ?_)
      refine bwp_skip ?_
      simp only [go_sem, ↓reduceIte]
      refine hK1 _ ?_; clear hK1
      refine bwp_region rfl ?_
      simp only [go_sem, ↓reduceIte, hw]
      refine ⟨hlt, hnext he, Leads.ent [(0, 0), (1, 1)] ⟨by simp [entT, fget, AV.ren, renL, pget], by simp [entM, pinv, mget, renL, AV.ren, hTe, hTe', pget], rfl, rfl⟩⟩
  · have hlt' : ¬ (k : Int) < l.length := by omega
    have hin : k = l.length := by omega
    refine bwp_seq fun K hK => bwp_region rfl ?_
    simp only [go_sem, ↓reduceIte, hTe, hiT, Int.natCast_nonneg, Int.toNat_natCast, hd1, hjc, hD.len, hlt']
    refine hK _ ?_; clear hK
    refine bwp_cond false (by simp [ev, fget, hlt']) (fun h => nomatch h) (fun _ => ?_)
    refine bwp_leads (S' := rsS [.str nm, I, T, .int .i64 kd, A] [.str nm', I', T', .int .i64 kd', A'] [(6, .d (.int .i64 i))]) (Leads.ent [(0, 0), (1, 1)] ⟨by simp [entT, fget, AV.ren, renL, pget, rsS, hTe, hTe'], by simp [entM, pinv, mget, mset, renL, AV.ren, pget, renL_append, -List.map_map, rsS, hTe, hTe'], rfl, rfl⟩) ?_
    exact bwp_exit (hgood (eqL_all eqIns l l' hln fun j h h' => hp j h h' (by omega)))
set_option maxHeartbeats 4000000 in
theorem rs_outIns {nm nm' : List UInt8} {kd kd' : Int} {I I' A A' : DV} {rows rows' : List (List Ins)} {T T' : DV} (hT : IsSl2 Ins.cells rows T) (hT' : IsSl2 Ins.cells rows' T') (hlr : rows.length = rows'.length) {Q : Exit → St → Prop}
    (hbad : eqL (eqL eqIns) rows rows' = false → ∀ S, fget S.t 4 = .d (.bool false) → Q .ret S) (hgood : eqL (eqL eqIns) rows rows' = true → Q (.exit 2) (rsS [.str nm, I, T, .int .i64 kd, A] [.str nm', I', T', .int .i64 kd', A'] [])) :
    BWP Tryz.prog (mbound []) 104 (.loop ac11L2) (rsS [.str nm, I, T, .int .i64 kd, A] [.str nm', I', T', .int .i64 kd', A'] [(6, .d (.int .i64 (0 : Nat)))]) Q := by
  have hb := hT.big
  refine bwp_countI (fun k => rsS [.str nm, I, T, .int .i64 kd, A] [.str nm', I', T', .int .i64 kd', A'] [(6, .d (.int .i64 (k : Nat)))]) (fun k => ∀ j (h : j < rows.length) (h' : j < rows'.length), j < k → eqL eqIns rows[j] rows'[j] = true) rows.length (fun j _ _ h => absurd h (Nat.not_lt_zero _)) ?_
  intro i hi hp
  unfold ac11L2 rsS
  simp only [List.cons_append, List.nil_append, List.map_cons, List.map_nil]
  refine bwp_seq fun K1 hK1 => ?_
  by_cases hlt : i < rows.length
  · have hlt' : (i : Int) < rows.length := by omega
    have hlt2 : (i : Int) < rows'.length := by omega
    have hi2 : i < rows'.length := by omega
    obtain ⟨ts, d, rest0, hTe, hd1, hjc, hD⟩ := hT.at i hlt
    obtain ⟨ts', d', rest0', hTe', hd1', hjc', hD'⟩ := hT'.at i hi2
    have hw : IntKind.i64.wrap ((i : Int) + 1) = ((i + 1 : Nat) : Int) := by rw [wrap_i64 (by omega) (by omega)]; rfl
    have hno := eqL_at (eqL eqIns) rows rows' i hlt hi2
    have hnext : eqL eqIns rows[i] rows'[i] = true → ∀ j (h : j < rows.length) (h' : j < rows'.length), j < i + 1 → eqL eqIns rows[j] rows'[j] = true := fun he j h h' hj => by
      rcases Nat.lt_succ_iff_lt_or_eq.1 hj with h1 | h1
      · exact hp j h h' h1
      · subst h1; exact he
    refine bwp_seq fun K hK => bwp_region rfl ?_
    simp only [go_sem, ↓reduceIte, hT.len, hlt']
    refine hK _ ?_; clear hK
    refine bwp_cond true (by simp [ev, fget, hlt']) (fun _ => ?_) (fun h => nomatch h)
    refine bwp_skip ?_
    refine hK1 _ ?_; clear hK1
    refine bwp_seq fun K1 hK1 => ?_
    refine bwp_block ?_
    refine bwp_seq fun K2 hK2 => ?_
    refine bwp_seq fun K hK => bwp_region_draw rfl rfl ?_
    simp only [go_sem, ↓reduceIte, hTe, hTe', hlt', hlt2, Int.natCast_nonneg, Int.toNat_natCast, hd1, hjc, hd1', hjc', hD.len, hD'.len]
    refine ⟨rfl, hK _ ?_⟩; clear hK
    by_cases hln : rows[i].length = rows'[i].length
    · have hln' : ((rows[i].length : Nat) : Int) = (rows'[i].length : Nat) := by omega
      refine bwp_cond false (by simp [ev, fget, hln']) (fun h => nomatch h) (fun _ => ?_)
      refine bwp_skip ?_
      refine hK2 _ ?_; clear hK2
      refine bwp_seq fun K hK => bwp_region rfl ?_
      simp only [go_sem, ↓reduceIte]
      refine hK _ ?_; clear hK
      refine bwp_block ?_
      refine bwp_leads (S' := rsS [.str nm, I, T, .int .i64 kd, A] [.str nm', I', T', .int .i64 kd', A'] [(7, .d (.int .i64 (0 : Nat))), (6, .d (.int .i64 i))]) (Leads.ent [(0, 0), (1, 1)] ⟨by simp [entT, fget, AV.ren, renL, pget, rsS, hTe, hTe'], by simp [entM, pinv, mget, mset, renL, AV.ren, pget, renL_append, -List.map_map, rsS, hTe, hTe'], rfl, rfl⟩) ?_
      refine rs_inIns hT hT' hlt hi2 hln ?_ ?_
      · intro he S hS
        simp only [go_sem, ↓reduceIte]
        exact hbad (hno he) S hS
      · intro he
        unfold rsS
        simp only [List.cons_append, List.nil_append, List.map_cons, List.map_nil]
        simp only [go_sem, ↓reduceIte]
        refine hK1 _ ?_; clear hK1
        refine bwp_region rfl ?_
        simp only [go_sem, ↓reduceIte, hw]
        refine ⟨hlt, hnext he, Leads.ent [(0, 0), (1, 1)] ⟨by simp [entT, fget, AV.ren, renL, pget], by simp [entM, pinv, mget, renL, AV.ren, pget], rfl, rfl⟩⟩
    · have hln' : ¬ ((rows[i].length : Nat) : Int) = (rows'[i].length : Nat) := by omega
      refine bwp_cond true (by simp [ev, fget, hln']) (fun _ => ?_) (fun h => nomatch h)
      refine bwp_seq fun K hK => bwp_region rfl ?_
      simp only [go_sem, ↓reduceIte]
      refine hK _ ?_; clear hK
      refine bwp_ret ?_
      simp only [go_sem, ↓reduceIte]
      exact hbad (hno (eqL_len eqIns _ _ hln)) _ rfl
  · have hlt' : ¬ (i : Int) < rows.length := by omega
    refine bwp_seq fun K hK => bwp_region rfl ?_
    simp only [go_sem, ↓reduceIte, hT.len, hlt']
    refine hK _ ?_; clear hK
    refine bwp_cond false (by simp [ev, fget, hlt']) (fun h => nomatch h) (fun _ => ?_)
    refine bwp_leads (S' := rsS [.str nm, I, T, .int .i64 kd, A] [.str nm', I', T', .int .i64 kd', A'] []) (Leads.ent [(0, 0), (1, 1)] ⟨by simp [entT, fget, AV.ren, renL, pget, rsS], by simp [entM, pinv, mget, mset, renL, AV.ren, pget, renL_append, -List.map_map, rsS], rfl, rfl⟩) ?_
    exact bwp_exit (hgood (eqL_all (eqL eqIns) rows rows' hlr fun j h h' => hp j h h' (by omega)))
end Go.Proofs.YtpfbljkfbjjlkaaGreatDoor
