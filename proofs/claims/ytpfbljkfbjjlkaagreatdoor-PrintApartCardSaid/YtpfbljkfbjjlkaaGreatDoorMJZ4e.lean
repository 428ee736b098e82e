/- What the statement's proof leans on, part 5: the layer, the walks, the plain laws. -/
import Derived.Test.YtpfbljkfbjjlkaaGreatDoorMJZ4d
import Derived.Test.YtpfbljkfbjjlkaaGreatDoorMJZ4c
import Derived.Lib.ItoaMem
import Derived.Test.YtpfbljkfbjjlkaaGreatDoorMJZ4b
import Derived.KernelRfl
import Derived.SizedLaws
import Derived.RegionTactic
import Derived.Lib.Strings
import Derived.Lib.Walk
import Derived.Lib.Builder
import Derived.Lib.UnsafeStr
set_option linter.unusedSimpArgs false
set_option linter.unusedVariables false

/- What Parse and Tree come to, as tests; Same of them; what the document fixes. -/
namespace Go.Proofs.YtpfbljkfbjjlkaaGreatDoor
open Go Go.Jq
set_option maxRecDepth 100000
set_option linter.unusedSimpArgs false
def PT.Post {α : Type} (t : PT α) (P : α → Prop) : Prop := ∀ (s : List UInt8) (a : Nat) (x : α) (b : Nat), t.run s a = .ok (x, b) → P x
theorem post_bind {α β : Type} {t : PT α} {f : α → PT β} {P : α → Prop} {Q : β → Prop} (h : t.Post P) (h' : ∀ x, P x → (f x).Post Q) : (t.bind f).Post Q := by
  intro s a y b hr
  rw [PT.run_bind] at hr
  cases ht : t.run s a with
  | error e => rw [ht] at hr; cases hr
  | ok p =>
    obtain ⟨x, c⟩ := p
    rw [ht] at hr
    exact h' x (h s a x c ht) s c y b hr
theorem post_true {α : Type} (t : PT α) : t.Post fun _ => True := fun _ _ _ _ _ => trivial
theorem post_ret {α : Type} {x : α} {P : α → Prop} (h : P x) : (PT.ret x).Post P := by
  intro s a y b hr
  simp only [PT.run, Except.ok.injEq, Prod.mk.injEq] at hr
  rw [← hr.1]; exact h
theorem post_bad {α : Type} {c : Int} {P : α → Prop} : (PT.bad c : PT α).Post P := by
  intro s a y b hr
  cases hr
theorem post_eat {α : Type} {k : PT α} {P : α → Prop} (h : k.Post P) : (PT.eat k).Post P := by
  intro s a y b hr
  simp only [PT.run] at hr
  split at hr
  · exact h _ _ _ _ hr
  · cases hr
theorem post_cur {α : Type} {k : Int → List UInt8 → PT α} {P : α → Prop} (h : ∀ d x, (k d x).Post P) : (PT.cur k).Post P := fun s a y b hr => h _ _ s a y b hr
theorem post_take {α : Type} {x : List UInt8} {yes no : PT α} {P : α → Prop} (h : yes.Post P) (h' : no.Post P) : (tTake x yes no).Post P := by
  refine post_cur fun d y => ?_
  split
  · exact post_eat h
  · exact h'
theorem post_many {α : Type} {one : PT α} {P : α → Prop} (h : one.Post P) : ∀ f, (tMany one f).Post fun l => l.length < f ∧ ∀ x ∈ l, P x
  | 0 => post_bad
  | f + 1 => post_take (post_ret ⟨by simp, by simp⟩) (post_bind h fun x hx => post_bind (post_many h f) fun l hl => post_ret ⟨by simp; exact hl.1, fun y hy => by
      rcases List.mem_cons.1 hy with rfl | hy
      · exact hx
      · exact hl.2 y hy⟩)
theorem post_threads {P : Ins → Prop} (h : tInsE.Post P) : ∀ f, (tThreads f).Post fun l => l.length < f ∧ ∀ t ∈ l, t.length < fuelP ∧ ∀ x ∈ t, P x
  | 0 => post_bad
  | f + 1 => post_take (post_bind (post_bind (post_true _) fun _ _ => post_many h fuelP) fun x hx => post_bind (post_threads h f) fun l hl => post_ret ⟨by simp; exact hl.1, fun y hy => by
      rcases List.mem_cons.1 hy with rfl | hy
      · exact hx
      · exact hl.2 y hy⟩) (post_ret ⟨by simp, by simp⟩)
theorem post_row {P : Atom → Prop} (h : tAtom.Post P) : ∀ f, (tRow f).Post fun l => l.length < f ∧ ∀ x ∈ l, P x
  | 0 => post_bad
  | f + 1 => post_take (post_bind h fun x hx => post_bind (post_row h f) fun l hl => post_ret ⟨by simp; exact hl.1, fun y hy => by
      rcases List.mem_cons.1 hy with rfl | hy
      · exact hx
      · exact hl.2 y hy⟩) (post_ret ⟨by simp, by simp⟩)
theorem post_rows {P : Atom → Prop} (h : tAtom.Post P) : ∀ f, (tRows f).Post fun l => (l.length ≤ f ∧ l ≠ []) ∧ ∀ t ∈ l, (t.length ≤ fuelP ∧ t ≠ []) ∧ ∀ x ∈ t, P x
  | 0 => post_bad
  | f + 1 => post_bind h fun x hx => post_bind (post_row h fuelP) fun l hl => by
      have hxl : ((x :: l).length ≤ fuelP ∧ (x :: l) ≠ []) ∧ ∀ y ∈ x :: l, P y := ⟨⟨by simp only [List.length_cons]; omega, by simp⟩, fun y hy => by
        rcases List.mem_cons.1 hy with rfl | hy
        · exact hx
        · exact hl.2 y hy⟩
      exact post_take (post_bind (post_rows h f) fun r hr => post_ret ⟨⟨by simp only [List.length_cons]; omega, by simp⟩, fun y hy => by
        rcases List.mem_cons.1 hy with rfl | hy
        · exact hxl
        · exact hr.2 y hy⟩) (post_ret ⟨⟨by simp, by simp⟩, fun y hy => by
          simp only [List.mem_cons, List.not_mem_nil, or_false] at hy
          subst hy
          exact hxl⟩)
structure Lens (t : Test) : Prop where
  inits : t.inits.length < fuelP
  threads : t.threads.length < fuelP
  ins : ∀ l ∈ t.threads, l.length < fuelP
  rows : t.rows.length ≤ fuelP
  atoms : ∀ l ∈ t.rows, l.length ≤ fuelP
theorem lens_run : tTest.Post Lens := by
  refine post_bind (post_true _) fun _ _ => post_bind (post_true _) fun n _ => post_bind (post_true _) fun _ _ => ?_
  refine post_bind (P := fun l => l.length < fuelP) (post_take (post_bind (post_true _) fun _ _ => fun s a x b h => (post_many (post_true tInit) fuelP s a x b h).1) (post_ret (by decide))) fun i hi => ?_
  refine post_bind (post_threads (post_true _) fuelP) fun th hth => ?_
  refine post_bind (P := fun c => c.2.length ≤ fuelP ∧ ∀ l ∈ c.2, l.length ≤ fuelP) ?_ fun c hc => post_bind (post_true _) fun _ _ => post_cur fun d y => ?_
  · have ask : ∀ k, (tAsk k).Post fun c => c.2.length ≤ fuelP ∧ ∀ l ∈ c.2, l.length ≤ fuelP := fun k => post_bind (post_rows (post_true _) fuelP) fun r hr => post_bind (post_true _) fun _ _ => post_ret ⟨hr.1.1, fun l hl => (hr.2 l hl).1.1⟩
    exact post_take (ask 1) (post_take (ask 2) (post_ret ⟨by simp, by simp⟩))
  · split
    · exact post_ret ⟨hi, hth.1, fun l hl => (hth.2 l hl).1, hc.1, hc.2⟩
    · exact post_bad
theorem pTest_post {P : Test → Prop} (h : tTest.Post P) {s : List UInt8} {t : Test} (ht : pTest s = .ok t) : P t := by
  unfold pTest at ht
  split at ht
  · cases ht
  · split at ht
    · rename_i a _
      split at ht
      · rename_i t' b hb
        cases ht
        exact h s a t b hb
      · cases ht
    · cases ht
def pT (r : PR Test) : Test := match r with
  | .ok t => t
  | .error _ => ⟨[], [], [], 0, []⟩
def pCells (r : PR Test) : List DV := match r with
  | .ok t => testD t
  | .error _ => testD0
def pCode (r : PR Test) : Int := match r with
  | .ok _ => 0
  | .error e => e.1
def pAt (r : PR Test) : Nat := match r with
  | .ok _ => 0
  | .error e => e.2
theorem parseV_eq (r : PR Test) : parseV r = .tup [.agg ((pCells r).map .d), .agg [.d (.int .i64 (pCode r)), .d (.int .i64 (pAt r))]] := by
  cases r <;> rfl
theorem isSl_d {α : Type} (enc : α → List DV) {l : List α} (h : l.length ≤ fuelP) : IsSl enc l (slD enc l) := ⟨by unfold fuelP at h; omega, .inr rfl⟩
theorem isSls_d {α : Type} (enc : α → List DV) : ∀ {ls : List (List α)}, (∀ l ∈ ls, l.length ≤ fuelP) → IsSls enc ls (ls.map (slD enc))
  | [], _ => trivial
  | l :: ls, h => ⟨isSl_d enc (h l List.mem_cons_self), isSls_d enc fun l' h' => h l' (List.mem_cons_of_mem _ h')⟩
theorem isSl2_d {α : Type} (enc : α → List DV) {ls : List (List α)} (h : ls.length ≤ fuelP) (h' : ∀ l ∈ ls, l.length ≤ fuelP) : IsSl2 enc ls (.sl ls.length (ls.map (slD enc))) := by
  refine ⟨ls.map (slD enc), ⟨by simp; unfold fuelP at h; omega, .inr ?_⟩, isSls_d enc h'⟩
  have e : ∀ l : List DV, l.flatMap (fun d => [d]) = l := by
    intro l
    induction l with
    | nil => rfl
    | cons x l ih => simp [ih]
  rw [e, List.length_map]
theorem Lens.isTest {t : Test} (h : Lens t) : IsTest t (testD t) :=
  ⟨_, _, _, rfl, isSl_d _ (Nat.le_of_lt h.inits), isSl2_d _ (Nat.le_of_lt h.threads) fun l hl => Nat.le_of_lt (h.ins l hl), isSl2_d _ h.rows h.atoms⟩
theorem isTest_p (s : List UInt8) : IsTest (pT (pTest s)) (pCells (pTest s)) := by
  cases h : pTest s with
  | ok t => exact (pTest_post lens_run h).isTest
  | error e =>
    have hN : ∀ {α : Type} (f : α → List DV), IsSl f [] .nsl := fun f => ⟨by simp, .inl ⟨rfl, rfl⟩⟩
    exact ⟨.nsl, .nsl, .nsl, rfl, hN _, ⟨[], hN _, trivial⟩, ⟨[], hN _, trivial⟩⟩
theorem parse2_pure {s : List UInt8} (hs : s.length ≤ maxLen) : Pure Tryz.prog 9 [.d (.str s)] (.tup [.agg ((pCells (pTest s)).map .d), .agg [.d (.int .i64 (pCode (pTest s))), .d (.int .i64 (pAt (pTest s)))]]) := by
  rw [← parseV_eq]; exact parse1_pure hs
theorem pCells_split (r : PR Test) : ∃ I T A, pCells r = [.str (pT r).name, I, T, .int .i64 (pT r).kind, A] := by
  cases r with
  | ok t => exact ⟨_, _, _, rfl⟩
  | error e => exact ⟨_, _, _, rfl⟩
end Go.Proofs.YtpfbljkfbjjlkaaGreatDoor

/- What stands behind an error's token says nothing. -/
namespace Go.Proofs.YtpfbljkfbjjlkaaGreatDoor
open Go Go.Jq
set_option maxRecDepth 100000
set_option linter.unusedSimpArgs false
theorem blank_nots {x : UInt8} (hx : blankB x = true) : alnB x = false ∧ digB x = false ∧ (x ≠ 60 ∧ x ≠ 62 ∧ x ≠ 61) := by
  simp only [blankB, Bool.or_eq_true, beq_iff_eq] at hx
  rcases hx with (rfl | rfl) | rfl <;> exact ⟨rfl, rfl, by decide⟩
theorem runL_cut {x : UInt8} (hx : blankB x = true) : ∀ (r : List UInt8) (k : Nat) (z : List UInt8), runL r ≤ k → k ≤ r.length → runL (r.take k ++ x :: z) = runL r ∧ (r.take k ++ x :: z).take (runL r) = r.take (runL r)
  | [], k, z, _, h => by simp at h; subst h; simp [runL, (blank_nots hx).1]
  | c :: r, 0, z, h, _ => by
    have h0 : runL (c :: r) = 0 := by omega
    rw [h0]
    simp [runL, (blank_nots hx).1]
  | c :: r, k + 1, z, h, h' => by
    simp only [List.length_cons] at h'
    simp only [List.take_succ_cons, List.cons_append, runL] at h ⊢
    split
    · rename_i hc
      rw [if_pos hc] at h
      obtain ⟨h1, h2⟩ := runL_cut hx r k z (by omega) (by omega)
      rw [h1]
      refine ⟨rfl, ?_⟩
      rw [show 1 + runL r = runL r + 1 by omega, List.take_succ_cons, List.take_succ_cons, h2]
    · exact ⟨rfl, by simp⟩
theorem head_cut (x : UInt8) (r : List UInt8) (k : Nat) (z : List UInt8) (h : k ≤ r.length) : (r.take k ++ x :: z).head? = if k = 0 then some x else r.head? := by
  cases k with
  | zero => simp
  | succ k =>
    cases r with
    | nil => simp at h
    | cons c r => simp
theorem runL_head {r : List UInt8} (h : runL r = 0) : (r.head?.map digB).getD false = false := by
  cases r with
  | nil => rfl
  | cons c r =>
    simp only [List.head?_cons, Option.map_some, Option.getD_some]
    cases hd : digB c with
    | false => rfl
    | true =>
      have : runL (c :: r) = 1 + runL r := by rw [runL, if_pos (by simp [alnB, hd])]
      omega
theorem tokAt_cut {x : UInt8} (hx : blankB x = true) (a : Nat) {l : List UInt8} {m : Nat} (h1 : 1 ≤ m) (hm : m ≤ l.length) (h : m = l.length ∨ ((tokAt a l).2.2 = 0 ∧ (tokAt a l).2.1 ≤ a + m)) (z : List UInt8) : tokAt a (l.take m ++ x :: z) = tokAt a l := by
  cases l with
  | nil => simp at hm; omega
  | cons c r =>
    obtain ⟨k, rfl⟩ : ∃ k, m = k + 1 := ⟨m - 1, by omega⟩
    simp only [List.length_cons] at hm h
    have hk : k ≤ r.length := by omega
    have hlen : ∀ r : List UInt8, runL r ≤ r.length := by
      intro r
      induction r with
      | nil => simp [runL]
      | cons c r ih => rw [runL]; simp only [List.length_cons]; split <;> omega
    simp only [List.take_succ_cons, List.cons_append]
    have hh := head_cut x r k z hk
    rw [tokAt] at h ⊢
    rw [tokAt]
    by_cases hc : letB c = true
    · rw [if_pos hc] at h ⊢
      rw [if_pos hc]
      have hr : runL r ≤ k := by
        rcases h with h | h
        · have := hlen r; omega
        · simp only at h; omega
      obtain ⟨e1, e2⟩ := runL_cut hx r k z hr hk
      rw [e1, e2]
    · rw [if_neg hc] at h ⊢
      rw [if_neg hc]
      have hdd : (digB c = true ∨ (c = 45 ∧ ((r.take k ++ x :: z).head?.map digB).getD false = true)) ↔ (digB c = true ∨ (c = 45 ∧ (r.head?.map digB).getD false = true)) := by
        rw [hh]
        by_cases k0 : k = 0
        · rw [if_pos k0]
          have e : (Option.map digB (some x)).getD false = false := (blank_nots hx).2.1
          rw [e]
          constructor
          · rintro (h' | ⟨_, h'⟩)
            · exact .inl h'
            · cases h'
          · rintro (h' | ⟨hc45, h'⟩)
            · exact .inl h'
            · exfalso
              have hr0 : runL r = 0 ∨ r = [] := by
                rcases h with h | h
                · right
                  cases r with
                  | nil => rfl
                  | cons _ _ => simp at h; omega
                · left
                  rw [if_pos (.inr ⟨hc45, h'⟩)] at h
                  split at h
                  · simp only at h; omega
                  · simp at h
              rcases hr0 with h0 | h0
              · rw [runL_head h0] at h'; cases h'
              · subst h0; simp at h'
        · rw [if_neg k0]
      by_cases hd : digB c = true ∨ (c = 45 ∧ (r.head?.map digB).getD false = true)
      · rw [if_pos hd] at h ⊢
        rw [if_pos (hdd.2 hd)]
        have hr : runL r ≤ k := by
          rcases h with h | h
          · have := hlen r; omega
          · split at h
            · simp only at h; omega
            · simp at h
        obtain ⟨e1, e2⟩ := runL_cut hx r k z hr hk
        rw [e1, e2]
      · rw [if_neg hd] at h ⊢
        rw [if_neg (fun h' => hd (hdd.1 h'))]
        have hs : signL (c :: (r.take k ++ x :: z)) = signL (c :: r) ∧ signL (c :: r) ≤ k + 1 := by
          by_cases k0 : k = 0
          · subst k0
            have hne2 : signL (c :: r) ≠ 2 := by
              intro h2
              rcases h with h | h
              · cases r with
                | nil =>
                  rw [signL] at h2
                  simp at h2
                  split at h2 <;> omega
                | cons _ _ => simp at h
              · rw [if_neg (by rw [h2]; decide), h2] at h
                simp only at h
                omega
            rw [signL] at hne2
            rw [signL, signL, hh, if_pos rfl]
            split at hne2
            · exact absurd rfl hne2
            · rename_i hn
              rw [if_neg hn, if_neg (by have := (blank_nots hx).2.2; simp [this])]
              refine ⟨rfl, ?_⟩
              split <;> omega
          · rw [signL, signL, hh, if_neg k0]
            refine ⟨rfl, ?_⟩
            split
            · omega
            · split <;> omega
        rw [hs.1]
        split
        · rfl
        · have ht : (c :: (r.take k ++ x :: z)).take (signL (c :: r)) = (c :: r).take (signL (c :: r)) := by
            rw [show c :: (r.take k ++ x :: z) = (c :: r).take (k + 1) ++ x :: z by simp, List.take_append_of_le_length (by simp only [List.length_take, List.length_cons]; omega), List.take_take, Nat.min_eq_left hs.2]
          rw [ht]
end Go.Proofs.YtpfbljkfbjjlkaaGreatDoor

/- A test's text as rows of words. -/
namespace Go.Proofs.YtpfbljkfbjjlkaaGreatDoor
open Go Go.Jq
def cleanC (b : UInt8) : Bool := b != 10 && b != 32 && b != 59 && b != 123 && b != 125
def Clean (w : List UInt8) : Prop := w ≠ [] ∧ w.all cleanC = true
theorem cleanC_of {b : UInt8} (h : b.toNat ≠ 10 ∧ b.toNat ≠ 32 ∧ b.toNat ≠ 59 ∧ b.toNat ≠ 123 ∧ b.toNat ≠ 125) : cleanC b = true := by
  have key : ∀ k : UInt8, b.toNat ≠ k.toNat → (b != k) = true := fun k hk => by
    rw [bne_iff_ne]
    rintro rfl
    exact hk rfl
  unfold cleanC
  rw [key 10 h.1, key 32 h.2.1, key 59 h.2.2.1, key 123 h.2.2.2.1, key 125 h.2.2.2.2]
  rfl
theorem digit_mem (u : Nat) : ∀ b : UInt8, b ∈ Lib.decDigits u → 48 ≤ b.toNat ∧ b.toNat ≤ 57 := by
  induction u using Nat.strongRecOn with
  | _ u ih =>
    intro b hb
    rw [Lib.decDigits] at hb
    split at hb
    · rename_i hu
      simp only [List.mem_cons, List.not_mem_nil, or_false] at hb
      subst hb
      have : (UInt8.ofNat (48 + u)).toNat = 48 + u := by rw [UInt8.toNat_ofNat']; omega
      omega
    · rename_i hu
      rcases List.mem_append.1 hb with hb | hb
      · exact ih _ (by omega) b hb
      · simp only [List.mem_cons, List.not_mem_nil, or_false] at hb
        subst hb
        have : (UInt8.ofNat (48 + u % 10)).toNat = 48 + u % 10 := by rw [UInt8.toNat_ofNat']; omega
        omega
theorem itoa_mem (n : Int) (b : UInt8) (h : b ∈ Lib.itoa n) : b.toNat = 45 ∨ (48 ≤ b.toNat ∧ b.toNat ≤ 57) := by
  unfold Lib.itoa at h
  split at h
  · rcases List.mem_cons.1 h with h | h
    · subst h; exact .inl rfl
    · exact .inr (digit_mem _ b h)
  · exact .inr (digit_mem _ b h)
theorem itoa_ne (n : Int) : Lib.itoa n ≠ [] := fun h => by
  have := itoa_pos n
  rw [h] at this
  simp at this
theorem itoa_clean (n : Int) : Clean (Lib.itoa n) := ⟨itoa_ne n, List.all_eq_true.2 fun b hb => cleanC_of (by have := itoa_mem n b hb; omega)⟩
theorem regT_clean (n : Int) : Clean (regT n) := ⟨by simp [regT], by
  unfold regT
  rw [List.all_append, (itoa_clean n).2]
  rfl⟩
theorem opT_clean (o : Opnd) : Clean (opT o) := by
  unfold opT
  split
  · exact itoa_clean _
  · exact regT_clean _
theorem locT_ok {n : Int} (h : isLocB n = true) : locT n = [UInt8.ofNat n.toNat] := by
  simp only [isLocB, Bool.and_eq_true, decide_eq_true_eq] at h
  unfold locT
  have hw : IntKind.i32.wrap n = n := by
    unfold IntKind.wrap
    have hm : n % 2 ^ 32 = n := by omega
    simp only [IntKind.signed, IntKind.bits, Bool.true_and, hm]
    split
    · rename_i hc
      have := of_decide_eq_true hc
      omega
    · rfl
  rw [hw]
  unfold Utf8.encode
  have hv : Utf8.valid n = true := by
    unfold Utf8.valid
    simp only [Bool.and_eq_true, Bool.or_eq_true, decide_eq_true_eq]
    omega
  simp only [hv, if_true]
  rw [if_pos (by omega)]
theorem locT_clean {n : Int} (h : isLocB n = true) : Clean (locT n) := by
  rw [locT_ok h]
  simp only [isLocB, Bool.and_eq_true, decide_eq_true_eq] at h
  refine ⟨by simp, ?_⟩
  simp only [List.all_cons, List.all_nil, Bool.and_true]
  refine cleanC_of ?_
  have : (UInt8.ofNat n.toNat).toNat = n.toNat := by rw [UInt8.toNat_ofNat']; omega
  omega
theorem signT_clean {op : Int} (h1 : 1 ≤ op) (h2 : op ≤ 11) : Clean (signT op) := by
  obtain ⟨q, rfl⟩ : ∃ q : Nat, op = q := ⟨op.toNat, by omega⟩
  have : q < 12 := by omega
  have key : ∀ q : Fin 12, 1 ≤ q.1 → (signT (q.1 : Nat) ≠ [] ∧ (signT (q.1 : Nat)).all cleanC = true) := by decide
  exact key ⟨q, this⟩ (by show 1 ≤ q; omega)
theorem parts_clean {x : Ins} (h : okInsB x = true) : ∀ w ∈ partsI x, Clean w := by
  have w1 : Clean [115, 116, 111, 114, 101] := ⟨by simp, by decide⟩
  have w2 : Clean [108, 111, 97, 100] := ⟨by simp, by decide⟩
  have w3 : Clean [102, 101, 110, 99, 101] := ⟨by simp, by decide⟩
  have w4 : Clean [99, 97, 115] := ⟨by simp, by decide⟩
  have w5 : Clean [115, 107, 105, 112] := ⟨by simp, by decide⟩
  have w6 : Clean [105, 102] := ⟨by simp, by decide⟩
  have w7 : Clean [61, 61] := ⟨by simp, by decide⟩
  have w8 : Clean [61] := ⟨by simp, by decide⟩
  unfold okInsB at h
  unfold partsI
  by_cases k1 : x.kind = 1
  · rw [if_pos k1] at h ⊢
    simp only [Bool.and_eq_true] at h
    simp only [List.forall_mem_cons]
    exact ⟨w1, locT_clean h.1.1, opT_clean _, by simp⟩
  rw [if_neg k1] at h ⊢
  by_cases k2 : x.kind = 2
  · rw [if_pos k2] at h ⊢
    simp only [Bool.and_eq_true] at h
    simp only [List.forall_mem_cons]
    exact ⟨regT_clean _, w8, w2, locT_clean h.1.1, by simp⟩
  rw [if_neg k2] at h ⊢
  by_cases k3 : x.kind = 3
  · rw [if_pos k3]
    simp only [List.forall_mem_cons]
    exact ⟨w3, by simp⟩
  rw [if_neg k3] at h ⊢
  by_cases k4 : x.kind = 4
  · rw [if_pos k4] at h ⊢
    simp only [Bool.and_eq_true] at h
    simp only [List.forall_mem_cons]
    exact ⟨regT_clean _, w8, w4, locT_clean h.1.1.1.1, opT_clean _, opT_clean _, by simp⟩
  rw [if_neg k4] at h ⊢
  by_cases k5 : x.kind = 5
  · rw [if_pos k5] at h ⊢
    simp only [Bool.and_eq_true, decide_eq_true_eq] at h
    intro w hw
    rcases List.mem_append.1 hw with hw | hw
    · have hall : ∀ w ∈ [regT x.reg, [61], opT x.a], Clean w := by
        simp only [List.forall_mem_cons]
        exact ⟨regT_clean _, w8, opT_clean _, by simp⟩
      exact hall w hw
    · split at hw
      · rename_i ho
        have hall : ∀ w ∈ [signT x.op, opT x.b], Clean w := by
          simp only [List.forall_mem_cons]
          exact ⟨signT_clean (by omega) h.1.1.2, opT_clean _, by simp⟩
        exact hall w hw
      · simp at hw
  rw [if_neg k5]
  simp only [List.forall_mem_cons]
  exact ⟨w5, itoa_clean _, w6, opT_clean _, w7, opT_clean _, by simp⟩
def insW (x : Ins) : List (List UInt8) := partsI x ++ [[59]]
def atomW (a : Atom) : List (List UInt8) := (if a.thread = -1 then [locT a.loc] else [Lib.itoa a.thread, [58], regT a.reg]) ++ [[61], Lib.itoa a.value]
def sepW (s : List UInt8) : List (List (List UInt8)) → List (List UInt8)
  | [] => []
  | [w] => w
  | w :: r => w ++ [s] ++ sepW s r
def rowW (l : List Atom) : List (List UInt8) := sepW [38] (l.map atomW)
def askW (kind : Int) : List UInt8 := if kind = 2 then [102, 111, 114, 97, 108, 108] else [101, 120, 105, 115, 116, 115]
def condW (kind : Int) (rows : List (List Atom)) : List (List UInt8) := [askW kind] ++ sepW [124] (rows.map rowW) ++ [[59]]
def initW (x : Init) : List (List UInt8) := [locT x.loc, [61], Lib.itoa x.value, [59]]
def threadW (l : List Ins) : List (List (List UInt8)) := [[116, 104, 114, 101, 97, 100], [123]] :: (l.map insW ++ [[[125]]])
def testW (t : Test) : List (List (List UInt8)) :=
  [[116, 101, 115, 116], t.name, [123]] :: ((if t.inits = [] then [] else [[105, 110, 105, 116], [123]] :: (t.inits.map initW ++ [[[125]]])) ++ t.threads.flatMap threadW ++ (if t.kind = 0 then [] else [condW t.kind t.rows]) ++ [[[125]]])
def lineW (r : List (List UInt8)) : List UInt8 := Lib.join r [32] ++ [10]
theorem join_two (x y : List UInt8) (r : List (List UInt8)) (s : List UInt8) : Lib.join (x :: y :: r) s = x ++ s ++ Lib.join (y :: r) s := by
  simp [Lib.join, List.intercalate]
theorem join_app (s : List UInt8) : ∀ (a b : List (List UInt8)), a ≠ [] → b ≠ [] → Lib.join (a ++ b) s = Lib.join a s ++ s ++ Lib.join b s
  | [], _, h, _ => absurd rfl h
  | [x], b, _, hb => by
    obtain ⟨y, r, rfl⟩ := List.exists_cons_of_ne_nil hb
    rw [List.singleton_append, join_two, Lib.join_one]
  | x :: y :: r, b, _, hb => by
    have ih := join_app s (y :: r) b (by simp) hb
    rw [List.cons_append, List.cons_append, join_two, join_two, ← List.cons_append, ih]
    simp
theorem sepW_ne {s : List UInt8} : ∀ {l : List (List (List UInt8))}, l ≠ [] → (∀ w ∈ l, w ≠ []) → sepW s l ≠ []
  | [], h, _ => absurd rfl h
  | [w], _, h => by simpa [sepW] using h w (by simp)
  | w :: w' :: r, _, h => by simp [sepW]
theorem join_sep (s : List UInt8) : ∀ (l : List (List (List UInt8))), (∀ w ∈ l, w ≠ []) → Lib.join (sepW s l) [32] = Lib.join (l.map fun w => Lib.join w [32]) ([32] ++ s ++ [32])
  | [], _ => rfl
  | [w], _ => by simp [sepW, Lib.join_one]
  | w :: w' :: r, h => by
    have ih := join_sep s (w' :: r) (fun x hx => h x (List.mem_cons_of_mem _ hx))
    have hne := sepW_ne (s := s) (l := w' :: r) (by simp) (fun x hx => h x (List.mem_cons_of_mem _ hx))
    simp only [sepW, List.map_cons]
    rw [join_app _ _ _ (by simp) hne, join_app _ _ _ (h w (by simp)) (by simp), Lib.join_one, ih, List.map_cons, join_two]
    simp
theorem atomT_join (a : Atom) : atomT a = Lib.join (atomW a) [32] := by
  unfold atomT atomW
  split <;> simp [Lib.join, List.intercalate]
theorem atomW_ne (a : Atom) : atomW a ≠ [] := by simp [atomW]
theorem rowT_join (l : List Atom) : rowT l = Lib.join (rowW l) [32] := by
  unfold rowT rowW
  rw [join_sep _ _ (fun w hw => by obtain ⟨a, _, rfl⟩ := List.mem_map.1 hw; exact atomW_ne a), List.map_map]
  congr 1
  exact List.map_congr_left fun a _ => atomT_join a
theorem rowW_ne {l : List Atom} (h : l ≠ []) : rowW l ≠ [] := sepW_ne (by simpa using h) (fun w hw => by obtain ⟨a, _, rfl⟩ := List.mem_map.1 hw; exact atomW_ne a)
theorem wordT_eq (kind : Int) : wordT kind = askW kind ++ [32] := by unfold wordT askW; split <;> rfl
theorem rows_ok {kind : Int} {rows : List (List Atom)} (hk : kind ≠ 0) (h : okCondB kind rows = true) : (kind = 1 ∨ kind = 2) ∧ rows ≠ [] ∧ ∀ l ∈ rows, l ≠ [] ∧ ∀ a ∈ l, okAtomB a = true := by
  unfold okCondB at h
  rw [if_neg hk] at h
  simp only [Bool.and_eq_true, Bool.or_eq_true, decide_eq_true_eq, Bool.not_eq_true', List.any_eq_false] at h
  refine ⟨h.1.1, fun e => by rw [e] at h; simp at h, fun l hl => ?_⟩
  have := h.2 l hl
  simp only [badRowB, Bool.or_eq_true, decide_eq_true_eq, List.any_eq_true, Bool.not_eq_true', not_or, not_exists, not_and, Bool.not_eq_false] at this
  exact ⟨fun e => this.1 (by rw [e]; rfl), this.2⟩
theorem condT_join {kind : Int} {rows : List (List Atom)} (hk : kind ≠ 0) (h : okCondB kind rows = true) : condT kind rows = Lib.join (condW kind rows) [32] := by
  obtain ⟨_, h1, h2⟩ := rows_ok hk h
  unfold condT
  rw [if_neg (by simp [hk, h])]
  unfold condW
  have hne : ∀ w ∈ rows.map rowW, w ≠ [] := fun w hw => by obtain ⟨l, hl, rfl⟩ := List.mem_map.1 hw; exact rowW_ne (h2 l hl).1
  have hs := sepW_ne (s := [124]) (l := rows.map rowW) (by simpa using h1) hne
  rw [join_app _ _ _ (by simp) (by simp), join_app _ _ _ (by simp) hs, Lib.join_one, Lib.join_one, join_sep _ _ hne, List.map_map, wordT_eq]
  have : rows.map rowT = rows.map ((fun w => Lib.join w [32]) ∘ rowW) := List.map_congr_left fun l _ => rowT_join l
  rw [this]
  simp
theorem condT_ne {kind : Int} {rows : List (List Atom)} (hk : kind ≠ 0) (h : okCondB kind rows = true) : condT kind rows ≠ [] := by
  unfold condT
  rw [if_neg (by simp [hk, h])]
  simp
theorem initL_line (x : Init) : initL x = lineW (initW x) := by simp [initL, lineW, initW, Lib.join, List.intercalate]
theorem insL_line {x : Ins} (h : okInsB x = true) : insL x = lineW (insW x) := by simp [insL, lineW, insW, insT, h]
theorem flat_congr {α β : Type} {f g : α → List β} : ∀ {l : List α}, (∀ x ∈ l, f x = g x) → l.flatMap f = l.flatMap g
  | [], _ => rfl
  | x :: l, h => by rw [List.flatMap_cons, List.flatMap_cons, h x (by simp), flat_congr fun y hy => h y (List.mem_cons_of_mem _ hy)]
theorem testT_rows {t : Test} (h : okB t = true) : testT t = (testW t).flatMap lineW := by
  have h0 := h
  simp only [okB, Bool.and_eq_true, Bool.not_eq_true', List.any_eq_false] at h
  have hth : ∀ l ∈ t.threads, ∀ x ∈ l, okInsB x = true := fun l hl x hx => by
    have := h.1.2 l hl
    simp only [badThreadB, List.any_eq_true, not_exists, not_and, Bool.not_eq_true', Bool.not_eq_false] at this
    exact this x hx
  have e1 : headL t = lineW [[116, 101, 115, 116], t.name, [123]] := by simp [headL, lineW, Lib.join, List.intercalate]
  have e2 : initsL t.inits = ((if t.inits = [] then [] else [[105, 110, 105, 116], [123]] :: (t.inits.map initW ++ [[[125]]])) : List (List (List UInt8))).flatMap lineW := by
    unfold initsL
    split
    · rfl
    · have : t.inits.flatMap initL = (t.inits.map initW).flatMap lineW := by
        rw [List.flatMap_map]
        congr 1
        funext x
        exact initL_line x
      rw [this]
      simp [lineW, Lib.join, List.intercalate]
  have e3 : t.threads.flatMap threadL = (t.threads.flatMap threadW).flatMap lineW := by
    rw [List.flatMap_assoc]
    refine flat_congr fun l hl => ?_
    have : l.flatMap insL = (l.map insW).flatMap lineW := by
      rw [List.flatMap_map]
      exact flat_congr fun x hx => insL_line (hth l hl x hx)
    simp only [threadL, threadW, this]
    simp [lineW, Lib.join, List.intercalate]
  have e4 : condL t = ((if t.kind = 0 then [] else [condW t.kind t.rows]) : List (List (List UInt8))).flatMap lineW := by
    unfold condL
    by_cases hk : t.kind = 0
    · have : condT t.kind t.rows = [] := by unfold condT; rw [if_pos (.inl hk)]
      rw [if_pos this, if_pos hk]; rfl
    · rw [if_neg (condT_ne hk h.2), if_neg hk, condT_join hk h.2]
      simp [lineW]
  unfold testT testW
  rw [if_pos h0, e1, e2, e3, e4]
  simp [lineW, Lib.join, List.intercalate]
end Go.Proofs.YtpfbljkfbjjlkaaGreatDoor

/- A tree over a row of tokens; what a printed test's tokens come to. -/
namespace Go.Proofs.YtpfbljkfbjjlkaaGreatDoor
open Go Go.Jq
set_option maxRecDepth 100000
set_option linter.unusedSimpArgs false
abbrev KT := Int × List UInt8
def ktT (t : Tok) : KT := (t.kd, t.tx)
namespace PT
variable {α β : Type}
def runK : PT α → List KT → Option (α × List KT)
  | .ret x, l => some (x, l)
  | .bad _, _ => none
  | .cur k, l => match l with
    | [] => none
    | d :: r => (k d.1 d.2).runK (d :: r)
  | .eat k, l => match l with
    | _ :: u :: r => k.runK (u :: r)
    | _ => none
theorem runK_bind (t : PT α) (f : α → PT β) : ∀ l, (t.bind f).runK l = match t.runK l with
    | some (x, r) => (f x).runK r
    | none => none := by
  induction t with
  | ret x => intro l; rfl
  | bad c => intro l; rfl
  | cur k ih =>
    intro l
    cases l with
    | nil => rfl
    | cons d r => exact ih _ _ (d :: r)
  | eat k ih =>
    intro l
    match l with
    | [] => rfl
    | [_] => rfl
    | _ :: u :: r => exact ih (u :: r)
theorem run_of_runK {s : List UInt8} (t : PT α) : ∀ {a : Nat} {l : List Tok} {x : α} {r : List KT}, a ≤ s.length → TL s a l → t.runK (l.map ktT) = some (x, r) →
    ∃ b l', t.run s a = .ok (x, b) ∧ b ≤ s.length ∧ TL s b l' ∧ l'.map ktT = r := by
  induction t with
  | ret x =>
    intro a l y r ha hl h
    simp only [runK, Option.some.injEq, Prod.mk.injEq] at h
    obtain ⟨rfl, rfl⟩ := h
    exact ⟨a, l, rfl, ha, hl, rfl⟩
  | bad c => intro a l y r ha hl h; cases h
  | cur k ih =>
    intro a l y r ha hl h
    cases l with
    | nil => cases h
    | cons d l =>
      have hd : curT s a = d := by
        obtain ⟨e, he, _⟩ := hl
        unfold curT
        rw [he]
      simp only [runK, List.map_cons] at h
      have := ih _ _ ha hl h
      simp only [run, hd]
      exact this
  | eat k ih =>
    intro a l y r ha hl h
    match l, hl, h with
    | [], _, h => cases h
    | [_], _, h => cases h
    | d :: u :: l, hl, h =>
      obtain ⟨e, he, hr⟩ := hl
      split at hr
      · cases hr
      · obtain ⟨e', he', hr'⟩ := id hr
        have hle := nextW_to ha
        rw [he] at hle
        have hg : eatW s a = .ok e := by
          unfold eatW goW
          rw [he, he']
          rfl
        simp only [run, hg]
        exact ih hle.2.1 hr (by simpa [runK] using h)
end PT
def kdOf (w : List UInt8) : Int := match w with
  | [] => 0
  | c :: r => if letB c = true then 1 else if digB c = true ∨ (c = 45 ∧ (r.head?.map digB).getD false = true) then 2 else 3
def kW (w : List UInt8) : KT := (kdOf w, w)
def endK : KT := (4, [])
theorem must_K {w : List UInt8} (h : kdOf w = 3 ∨ kdOf w = 1) (u : KT) (r : List KT) : (tMust w).runK (kW w :: u :: r) = some ((), u :: r) := by
  have : isK (kdOf w) w w = true := by rcases h with h | h <;> simp [isK, h]
  simp [tMust, PT.runK, kW, this]
theorem take_K {α : Type} {w : List UInt8} (h : kdOf w = 3 ∨ kdOf w = 1) (yes no : PT α) (u : KT) (r : List KT) : (tTake w yes no).runK (kW w :: u :: r) = yes.runK (u :: r) := by
  have : isK (kdOf w) w w = true := by rcases h with h | h <;> simp [isK, h]
  simp [tTake, PT.runK, kW, this]
theorem take_no {α : Type} {w : List UInt8} (yes no : PT α) (u : KT) (r : List KT) (h : u.2 ≠ w) : (tTake w yes no).runK (u :: r) = no.runK (u :: r) := by
  simp [tTake, PT.runK, isK, h]
theorem kd_num (n : Int) : kdOf (Lib.itoa n) = 2 := by
  obtain ⟨c, r, h, _, h3⟩ := itoa_form n
  rw [h]
  unfold kdOf
  rcases h3 with h3 | ⟨rfl, d, r', rfl, h4⟩
  · simp [not_let_dig h3, h3]
  · simp [h4, letB]
theorem num_K {n : Int} (hn : I64 n) (u : KT) (r : List KT) : tNum.runK (kW (Lib.itoa n) :: u :: r) = some (n, u :: r) := by
  simp [tNum, PT.runK, kW, kd_num, parseW_itoa hn]
theorem loc_byte {n : Int} (h : isLocB n = true) : locT n = [UInt8.ofNat n.toNat] ∧ (UInt8.ofNat n.toNat).toNat = n.toNat ∧ (n.toNat : Int) = n ∧ letB (UInt8.ofNat n.toNat) = true := by
  have h0 := locT_ok h
  simp only [isLocB, Bool.and_eq_true, decide_eq_true_eq] at h
  have h1 : (UInt8.ofNat n.toNat).toNat = n.toNat := by rw [UInt8.toNat_ofNat']; omega
  refine ⟨h0, h1, by omega, ?_⟩
  simp only [letB, h1, Bool.and_eq_true, decide_eq_true_eq]
  omega
theorem loc_K {n : Int} (h : isLocB n = true) (u : KT) (r : List KT) : (tNamed locN).runK (kW (locT n) :: u :: r) = some (n, u :: r) := by
  obtain ⟨h0, h1, h2, h3⟩ := loc_byte h
  have hk : kdOf (locT n) = 1 := by rw [h0]; simp [kdOf, h3]
  have hl : locN (locT n) = some n := by
    rw [h0]
    unfold locN
    rw [if_pos (by rfl)]
    simp only [List.getD_cons_zero, h1, h2]
  simp [tNamed, PT.runK, kW, hk, hl]
theorem reg_cases {n : Int} (h : isRegB n = true) : n = 0 ∨ n = 1 ∨ n = 2 ∨ n = 3 := by
  simp only [isRegB, Bool.and_eq_true, decide_eq_true_eq] at h
  omega
theorem reg_text {n : Int} (h : isRegB n = true) : regT n = [114, 48 + UInt8.ofNat n.toNat] ∧ regN (regT n) = some n := by
  have key : ∀ k : Nat, k < 4 → Lib.itoa (k : Int) = [48 + UInt8.ofNat k] := by
    intro k hk
    unfold Lib.itoa
    rw [if_neg (by omega)]
    have : (k : Int).natAbs = k := by omega
    rw [show (k : Int).toNat = k by omega, Lib.decDigits_one (by omega)]
    congr 1
    rw [UInt8.ofNat_add]
    rfl
  have e : regT n = [114, 48 + UInt8.ofNat n.toNat] := by
    obtain ⟨k, rfl⟩ : ∃ k : Nat, n = k := ⟨n.toNat, by rcases reg_cases h with rfl | rfl | rfl | rfl <;> rfl⟩
    have hk : k < 4 := by rcases reg_cases h with h | h | h | h <;> omega
    unfold regT
    rw [key k hk]
    rfl
  refine ⟨e, ?_⟩
  rw [e]
  rcases reg_cases h with rfl | rfl | rfl | rfl <;> decide
theorem reg_K {n : Int} (h : isRegB n = true) (u : KT) (r : List KT) : (tNamed regN).runK (kW (regT n) :: u :: r) = some (n, u :: r) := by
  obtain ⟨h0, h1⟩ := reg_text h
  have hk : kdOf (regT n) = 1 := by rw [h0]; simp [kdOf, letB]
  simp [tNamed, PT.runK, kW, hk, h1]
theorem opd_K {o : Opnd} (h : isOpB o = true) (hv : I64 o.value) (u : KT) (r : List KT) : tOpd.runK (kW (opT o) :: u :: r) = some (o, u :: r) := by
  obtain ⟨p, v⟩ := o
  by_cases hp : p = -1
  · subst hp
    have e : opT ⟨-1, v⟩ = Lib.itoa v := by simp [opT]
    have hk := kd_num v
    have h1 : tOpd.runK (kW (Lib.itoa v) :: u :: r) = (tNum.bind fun n => .ret (⟨-1, n⟩ : Opnd)).runK (kW (Lib.itoa v) :: u :: r) := by
      simp [tOpd, PT.runK, kW, hk]
    rw [e, h1, PT.runK_bind, num_K hv]
    rfl
  · have h2 : isRegB p = true ∧ v = 0 := by simpa [isOpB, hp] using h
    obtain ⟨h3, rfl⟩ := h2
    have e : opT ⟨p, 0⟩ = regT p := by simp [opT, hp]
    obtain ⟨h0, _⟩ := reg_text h3
    have hk : kdOf (regT p) = 1 := by rw [h0]; simp [kdOf, letB]
    have h1 : tOpd.runK (kW (regT p) :: u :: r) = ((tNamed regN).bind fun n => .ret (⟨n, 0⟩ : Opnd)).runK (kW (regT p) :: u :: r) := by
      simp [tOpd, PT.runK, kW, hk]
    rw [e, h1, PT.runK_bind, reg_K h3]
    rfl
theorem opW_sign {op : Int} (h1 : 1 ≤ op) (h2 : op ≤ 11) : kdOf (signT op) = 3 ∧ opW (signT op) = (op, true) := by
  obtain ⟨q, rfl⟩ : ∃ q : Nat, op = q := ⟨op.toNat, by omega⟩
  have key : ∀ q : Fin 12, 1 ≤ q.1 → (kdOf (signT ((q.1 : Nat) : Int)) = 3 ∧ opW (signT ((q.1 : Nat) : Int)) = (((q.1 : Nat) : Int), true)) := by decide
  exact key ⟨q, by omega⟩ (by show 1 ≤ q; omega)
theorem reg_word {n : Int} (h : isRegB n = true) {w : List UInt8} (hw : w.length ≠ 2) : (kW (regT n)).2 ≠ w := by
  rintro rfl
  apply hw
  rw [show (kW (regT n)).2 = regT n from rfl, (reg_text h).1]
  rfl
theorem opd_word {o : Opnd} (h : isOpB o = true) {w : List UInt8} (hw : w.length ≠ 2) (hk : kdOf w = 1) : (kW (opT o)).2 ≠ w := by
  intro e
  have e : opT o = w := e
  by_cases hp : o.reg = -1
  · have : opT o = Lib.itoa o.value := by simp [opT, hp]
    rw [this] at e
    have := kd_num o.value
    rw [e, hk] at this
    cases this
  · have h2 : isRegB o.reg = true ∧ o.value = 0 := by simpa [isOpB, hp] using h
    have : opT o = regT o.reg := by simp [opT, hp]
    rw [this, (reg_text h2.1).1] at e
    apply hw
    rw [← e]
    rfl
theorem eqIns_eq {x w : Ins} (h : eqIns x w = true) : x = w := by
  obtain ⟨k, r, l, ⟨a1, a2⟩, o, ⟨b1, b2⟩, n⟩ := x
  obtain ⟨k', r', l', ⟨a1', a2'⟩, o', ⟨b1', b2'⟩, n'⟩ := w
  simp only [eqIns, Bool.and_eq_true, decide_eq_true_eq, and_true] at h
  obtain ⟨rfl, rfl, rfl, rfl, rfl, rfl, rfl, rfl, rfl⟩ := h
  rfl
theorem ins_K {x : Ins} (h : okInsB x = true) (hv : I64i x) (u : KT) (r' : List KT) : tInsE.runK ((insW x).map kW ++ u :: r') = some (x, u :: r') := by
  have m59 : ∀ (u : KT) (r : List KT), (tMust [59]).runK (kW [59] :: u :: r) = some ((), u :: r) := fun u r => must_K (.inl (by decide)) u r
  suffices hs : ∀ q : KT, q.2 = [59] → q.1 = 3 → ∀ r, tIns.runK ((partsI x).map kW ++ q :: r) = some (x, q :: r) by
    unfold tInsE insW
    have e : List.map kW (partsI x ++ [[59]]) ++ u :: r' = List.map kW (partsI x) ++ kW [59] :: u :: r' := by simp
    rw [PT.runK_bind, e, hs (kW [59]) rfl (by decide)]
    simp only [PT.runK_bind, m59]
    rfl
  intro q hq2 hq1 r
  obtain ⟨_, hv1, hv2, hv3, hv4, hv5⟩ := hv
  have t1 : ∀ (yes no : PT Ins) (u : KT) (r : List KT), (tTake wStore yes no).runK (kW wStore :: u :: r) = yes.runK (u :: r) := fun y n u r => take_K (.inr (by decide)) y n u r
  have t2 : ∀ (yes no : PT Ins) (u : KT) (r : List KT), (tTake wFence yes no).runK (kW wFence :: u :: r) = yes.runK (u :: r) := fun y n u r => take_K (.inr (by decide)) y n u r
  have t3 : ∀ (yes no : PT Ins) (u : KT) (r : List KT), (tTake wSkip yes no).runK (kW wSkip :: u :: r) = yes.runK (u :: r) := fun y n u r => take_K (.inr (by decide)) y n u r
  have t4 : ∀ (yes no : PT Ins) (u : KT) (r : List KT), (tTake wLoad yes no).runK (kW wLoad :: u :: r) = yes.runK (u :: r) := fun y n u r => take_K (.inr (by decide)) y n u r
  have t5 : ∀ (yes no : PT Ins) (u : KT) (r : List KT), (tTake wCas yes no).runK (kW wCas :: u :: r) = yes.runK (u :: r) := fun y n u r => take_K (.inr (by decide)) y n u r
  have m61 : ∀ (u : KT) (r : List KT), (tMust [61]).runK (kW [61] :: u :: r) = some ((), u :: r) := fun u r => must_K (.inl (by decide)) u r
  have mif : ∀ (u : KT) (r : List KT), (tMust wIf).runK (kW wIf :: u :: r) = some ((), u :: r) := fun u r => must_K (.inr (by decide)) u r
  have mee : ∀ (u : KT) (r : List KT), (tMust [61, 61]).runK (kW [61, 61] :: u :: r) = some ((), u :: r) := fun u r => must_K (.inl (by decide)) u r
  have regs : ∀ {n : Int}, isRegB n = true → ∀ (u : KT) (r : List KT), tIns.runK (kW (regT n) :: kW [61] :: u :: r) = (tRight n).runK (u :: r) := by
    intro n hn u r
    unfold tIns
    rw [take_no _ _ _ _ (reg_word hn (by decide)), take_no _ _ _ _ (reg_word hn (by decide)), take_no _ _ _ _ (reg_word hn (by decide))]
    simp only [PT.runK_bind, reg_K hn, m61]
  obtain ⟨k, rg, lc, a, o, b, n⟩ := x
  simp only at hv1 hv2 hv3 hv4 hv5
  unfold okInsB at h
  unfold partsI
  simp only at h ⊢
  by_cases k1 : k = 1
  · subst k1
    rw [if_pos rfl] at h ⊢
    simp only [Bool.and_eq_true] at h
    obtain ⟨⟨h1, h2⟩, h3⟩ := h
    rw [eqIns_eq h3]
    show tIns.runK (kW wStore :: kW (locT lc) :: kW (opT a) :: q :: r) = _
    unfold tIns
    rw [t1]
    simp only [PT.runK_bind, loc_K h1, opd_K h2 hv2]
    rfl
  by_cases k2 : k = 2
  · subst k2
    rw [if_neg (by decide), if_pos rfl] at h ⊢
    simp only [Bool.and_eq_true] at h
    obtain ⟨⟨h1, h2⟩, h3⟩ := h
    rw [eqIns_eq h3]
    show tIns.runK (kW (regT rg) :: kW [61] :: kW wLoad :: kW (locT lc) :: q :: r) = _
    rw [regs h2]
    unfold tRight
    rw [t4]
    simp only [PT.runK_bind, loc_K h1]
    rfl
  by_cases k3 : k = 3
  · subst k3
    rw [if_neg (by decide), if_neg (by decide), if_pos rfl] at h ⊢
    rw [eqIns_eq h]
    show tIns.runK (kW wFence :: q :: r) = _
    unfold tIns
    rw [take_no _ _ _ _ (by decide), t2]
    rfl
  by_cases k4 : k = 4
  · subst k4
    rw [if_neg (by decide), if_neg (by decide), if_neg (by decide), if_pos rfl] at h ⊢
    simp only [Bool.and_eq_true] at h
    obtain ⟨⟨⟨⟨h1, h2⟩, h3⟩, h4⟩, h5⟩ := h
    rw [eqIns_eq h5]
    show tIns.runK (kW (regT rg) :: kW [61] :: kW wCas :: kW (locT lc) :: kW (opT a) :: kW (opT b) :: q :: r) = _
    rw [regs h2]
    unfold tRight
    rw [take_no _ _ _ _ (by decide), t5]
    simp only [PT.runK_bind, loc_K h1, opd_K h3 hv2, opd_K h4 hv4]
    rfl
  by_cases k5 : k = 5
  · subst k5
    rw [if_neg (by decide), if_neg (by decide), if_neg (by decide), if_neg (by decide), if_pos rfl] at h ⊢
    simp only [Bool.and_eq_true, decide_eq_true_eq] at h
    obtain ⟨⟨⟨⟨⟨⟨h1, h2⟩, h3⟩, h4⟩, h5⟩, h6⟩, h7⟩ := h
    have hx := eqIns_eq h7
    simp only [Ins.mk.injEq] at hx
    obtain ⟨_, _, rfl, _, _, _, rfl⟩ := hx
    by_cases ho : 0 < o
    · rw [if_pos ho]
      obtain ⟨s1, s2⟩ := opW_sign (by omega) h5
      show tIns.runK (kW (regT rg) :: kW [61] :: kW (opT a) :: kW (signT o) :: kW (opT b) :: q :: r) = _
      rw [regs h1]
      unfold tRight
      rw [take_no _ _ _ _ (opd_word h2 (by decide) (by decide)), take_no _ _ _ _ (opd_word h2 (by decide) (by decide))]
      simp only [PT.runK_bind, opd_K h2 hv2]
      simp only [PT.runK, kW, s1, s2, and_self, if_true, PT.runK_bind]
      have := opd_K h3 hv4 q r
      unfold kW at this
      rw [this]
    · rw [if_neg ho]
      have ho0 : o = 0 := by omega
      subst ho0
      have hb : b = ⟨-1, 0⟩ := by
        obtain ⟨b1, b2⟩ := b
        have : b1 = -1 ∧ b2 = 0 := by simpa using h6
        rw [this.1, this.2]
      subst hb
      show tIns.runK (kW (regT rg) :: kW [61] :: kW (opT a) :: q :: r) = _
      rw [regs h1]
      unfold tRight
      rw [take_no _ _ _ _ (opd_word h2 (by decide) (by decide)), take_no _ _ _ _ (opd_word h2 (by decide) (by decide))]
      simp only [PT.runK_bind, opd_K h2 hv2]
      have hop : (opW [59]).2 = false := by decide
      simp [PT.runK, hq1, hq2, hop]
  by_cases k6 : k = 6
  · subst k6
    rw [if_neg (by decide), if_neg (by decide), if_neg (by decide), if_neg (by decide), if_neg (by decide)] at h ⊢
    rw [if_pos rfl] at h
    simp only [Bool.and_eq_true, decide_eq_true_eq] at h
    obtain ⟨⟨⟨h1, h2⟩, h3⟩, h4⟩ := h
    rw [eqIns_eq h4]
    show tIns.runK (kW wSkip :: kW (Lib.itoa n) :: kW wIf :: kW (opT a) :: kW [61, 61] :: kW (opT b) :: q :: r) = _
    unfold tIns
    rw [take_no _ _ _ _ (by decide), take_no _ _ _ _ (by decide), t3]
    have hp : (parseW (Lib.itoa n)).1 = n := by rw [parseW_itoa hv5]
    have e1 : ∀ (t : PT Ins) (u : KT) (r : List KT), PT.runK (.cur fun d y => if d = 2 ∧ (parseW y).1 < 0 then .bad 6 else t) (kW (Lib.itoa n) :: u :: r) = t.runK (kW (Lib.itoa n) :: u :: r) := by
      intro t u r
      have hc : ¬ ((kW (Lib.itoa n)).1 = 2 ∧ (parseW (kW (Lib.itoa n)).2).1 < 0) := by
        rintro ⟨_, h'⟩
        have h2 : (parseW (Lib.itoa n)).1 < 0 := h'
        rw [hp] at h2
        omega
      show PT.runK (if (kW (Lib.itoa n)).1 = 2 ∧ (parseW (kW (Lib.itoa n)).2).1 < 0 then .bad 6 else t) (kW (Lib.itoa n) :: u :: r) = _
      rw [if_neg hc]
    rw [e1]
    simp only [PT.runK_bind, num_K hv5, mif, opd_K h2 hv2, mee, opd_K h3 hv4]
    rfl
  · rw [if_neg k1, if_neg k2, if_neg k3, if_neg k4, if_neg k5, if_neg k6] at h
    cases h
theorem must_W {w : List UInt8} (h : kdOf w = 3 ∨ kdOf w = 1) : ∀ (u : KT) (r : List KT), (tMust w).runK (kW w :: u :: r) = some ((), u :: r) := fun u r => must_K h u r
theorem many_K {α : Type} {one : PT α} {f : α → List (List UInt8)} {p : α → Prop} (hone : ∀ a, p a → ∀ (u : KT) (r : List KT), one.runK ((f a).map kW ++ u :: r) = some (a, u :: r)) (hf : ∀ a, p a → ∃ w ws, f a = w :: ws ∧ w ≠ [125]) :
    ∀ (l : List α) (n : Nat), (∀ a ∈ l, p a) → l.length < n → ∀ (u : KT) (r : List KT), (tMany one n).runK ((l.flatMap f).map kW ++ kW [125] :: u :: r) = some (l, u :: r)
  | _, 0, _, h, _, _ => absurd h (Nat.not_lt_zero _)
  | [], n + 1, _, _, u, r => by
    simp only [List.flatMap_nil, List.map_nil, List.nil_append, tMany]
    rw [take_K (.inl (by decide))]
    rfl
  | a :: l, n + 1, hp, hl, u, r => by
    obtain ⟨w, ws, hw, hne⟩ := hf a (hp a List.mem_cons_self)
    have h1 := hone a (hp a List.mem_cons_self)
    have ih := many_K hone hf l n (fun b hb => hp b (List.mem_cons_of_mem _ hb)) (by simp at hl; omega) u r
    simp only [List.flatMap_cons, List.map_append, List.append_assoc, tMany]
    obtain ⟨v, vs, hv⟩ : ∃ v vs, (l.flatMap f).map kW ++ kW [125] :: u :: r = v :: vs := by
      cases h : (l.flatMap f).map kW with
      | nil => exact ⟨_, _, rfl⟩
      | cons v vs => exact ⟨_, _, rfl⟩
    have e : (f a).map kW ++ ((l.flatMap f).map kW ++ kW [125] :: u :: r) = kW w :: (ws.map kW ++ ((l.flatMap f).map kW ++ kW [125] :: u :: r)) := by rw [hw]; rfl
    rw [e, take_no _ _ _ _ hne, ← e, PT.runK_bind, hv, h1, ← hv]
    simp only [PT.runK_bind, ih]
    rfl
theorem init_K {x : Init} (h : isLocB x.loc = true) (hv : I64 x.value) (u : KT) (r : List KT) : tInit.runK ((initW x).map kW ++ u :: r) = some (x, u :: r) := by
  show tInit.runK (kW (locT x.loc) :: kW [61] :: kW (Lib.itoa x.value) :: kW [59] :: u :: r) = _
  unfold tInit
  simp only [PT.runK_bind, loc_K h, must_W (w := [61]) (.inl (by decide)), num_K hv, must_W (w := [59]) (.inl (by decide))]
  rfl
theorem atom_K {x : Atom} (h : okAtomB x = true) (hv : I64a x) (u : KT) (r : List KT) : tAtom.runK ((atomW x).map kW ++ u :: r) = some (x, u :: r) := by
  obtain ⟨th, rg, lc, vl⟩ := x
  obtain ⟨v1, _, v3⟩ := hv
  simp only at v1 v3
  unfold okAtomB at h
  simp only at h
  by_cases ht : th = -1
  · subst ht
    rw [if_pos rfl] at h
    simp only [Bool.and_eq_true, decide_eq_true_eq] at h
    obtain ⟨rfl, h2⟩ := h
    show tAtom.runK (kW (locT lc) :: kW [61] :: kW (Lib.itoa vl) :: u :: r) = _
    obtain ⟨h0, _, _, h3⟩ := loc_byte h2
    have hk : kdOf (locT lc) = 1 := by rw [h0]; simp [kdOf, h3]
    have h1 : ∀ (u : KT) (r : List KT), tWho.runK (kW (locT lc) :: u :: r) = ((tNamed locN).bind fun l => .ret (⟨-1, 0, l, 0⟩ : Atom)).runK (kW (locT lc) :: u :: r) := by
      intro u r
      simp [tWho, PT.runK, kW, hk]
    unfold tAtom
    simp only [PT.runK_bind, h1, loc_K h2]
    simp only [PT.runK, PT.runK_bind, must_W (w := [61]) (.inl (by decide)), num_K v3]
  · rw [if_neg ht] at h
    simp only [Bool.and_eq_true, decide_eq_true_eq] at h
    obtain ⟨⟨⟨h1, h2⟩, rfl⟩, h4⟩ := h
    have e : atomW ⟨th, rg, 0, vl⟩ = [Lib.itoa th, [58], regT rg, [61], Lib.itoa vl] := by simp [atomW, ht]
    rw [e]
    show tAtom.runK (kW (Lib.itoa th) :: kW [58] :: kW (regT rg) :: kW [61] :: kW (Lib.itoa vl) :: u :: r) = _
    have hp : (parseW (Lib.itoa th)).1 = th := by rw [parseW_itoa v1]
    have h5 : ∀ (u : KT) (r : List KT), tWho.runK (kW (Lib.itoa th) :: u :: r) = ((tMust [58]).bind fun _ => (tNamed regN).bind fun q => .ret (⟨th, q, 0, 0⟩ : Atom)).runK (u :: r) := by
      intro u r
      have hk := kd_num th
      have hc : ¬ (th < 0 ∨ 9 < th) := by omega
      simp only [tWho, PT.runK, kW, hk, if_true, hp, if_neg hc]
    unfold tAtom
    simp only [PT.runK_bind, h5, must_W (w := [58]) (.inl (by decide)), reg_K h4]
    simp only [PT.runK, PT.runK_bind, must_W (w := [61]) (.inl (by decide)), num_K v3]
end Go.Proofs.YtpfbljkfbjjlkaaGreatDoor

/- What the test made of numbers comes to (its reader of numbers), told without a heap. -/
namespace Go.Proofs.YtpfbljkfbjjlkaaGreatDoor
open Go Go.Jq
set_option maxRecDepth 100000
set_option linter.unusedSimpArgs false
end Go.Proofs.YtpfbljkfbjjlkaaGreatDoor

/- What the test made of numbers comes to, told without a heap: its model. -/
namespace Go.Proofs.YtpfbljkfbjjlkaaGreatDoor
open Go Go.Jq
set_option maxRecDepth 100000
set_option linter.unusedSimpArgs false
end Go.Proofs.YtpfbljkfbjjlkaaGreatDoor

/- What the test made of numbers comes to, told without a heap: its threads. -/
namespace Go.Proofs.YtpfbljkfbjjlkaaGreatDoor
open Go Go.Jq
set_option maxRecDepth 100000
set_option linter.unusedSimpArgs false
end Go.Proofs.YtpfbljkfbjjlkaaGreatDoor

/- What the test made of numbers comes to, told without a heap. -/
namespace Go.Proofs.YtpfbljkfbjjlkaaGreatDoor
open Go Go.Jq
set_option maxRecDepth 100000
set_option linter.unusedSimpArgs false
end Go.Proofs.YtpfbljkfbjjlkaaGreatDoor

/- The test made of numbers is a good one: plain Lean, no program in sight. -/
namespace Go.Proofs.YtpfbljkfbjjlkaaGreatDoor
open Go Go.Jq
end Go.Proofs.YtpfbljkfbjjlkaaGreatDoor

/- The test made of numbers has a short text. -/
namespace Go.Proofs.YtpfbljkfbjjlkaaGreatDoor
open Go Go.Jq
end Go.Proofs.YtpfbljkfbjjlkaaGreatDoor

/- A test's text: what stands where. -/
namespace Go.Proofs.YtpfbljkfbjjlkaaGreatDoor
open Go Go.Jq
def isEnd (b : UInt8) : Bool := b == 123 || b == 59 || b == 125
def GoodRow (r : List (List UInt8)) : Prop := ∃ ws e, r = ws ++ [[e]] ∧ (∀ w ∈ ws, Clean w) ∧ isEnd e = true
theorem word_clean {s : List UInt8} (h : isWordB s = true) : Clean s := by
  unfold isWordB at h
  simp only [Bool.and_eq_true, List.all_eq_true, List.mem_range, decide_eq_true_eq] at h
  refine ⟨h.2, List.all_eq_true.2 fun b hb => ?_⟩
  obtain ⟨i, hi, rfl⟩ := List.getElem_of_mem hb
  have := h.1 i hi
  simp only [wordAt, Bool.or_eq_true, Bool.and_eq_true, decide_eq_true_eq] at this
  have e : s.getD i 0 = s[i] := by simp [hi]
  rw [e] at this
  exact cleanC_of (by omega)
theorem atomW_clean {a : Atom} (h : okAtomB a = true) : ∀ w ∈ atomW a, Clean w := by
  have w1 : Clean [58] := ⟨by simp, by decide⟩
  have w2 : Clean [61] := ⟨by simp, by decide⟩
  unfold atomW
  unfold okAtomB at h
  split
  · rename_i ht
    rw [if_pos ht] at h
    simp only [Bool.and_eq_true] at h
    simp only [List.cons_append, List.nil_append, List.forall_mem_cons]
    exact ⟨locT_clean h.2, w2, itoa_clean _, by simp⟩
  · simp only [List.cons_append, List.nil_append, List.forall_mem_cons]
    exact ⟨itoa_clean _, w1, regT_clean _, w2, itoa_clean _, by simp⟩
theorem sepW_clean {s : List UInt8} (hs : Clean s) : ∀ {l : List (List (List UInt8))}, (∀ r ∈ l, ∀ w ∈ r, Clean w) → ∀ w ∈ sepW s l, Clean w
  | [], _ => by simp [sepW]
  | [r], h => by simpa [sepW] using h
  | r :: r' :: l, h => by
    intro w hw
    simp only [sepW, List.mem_append, List.mem_singleton] at hw
    rcases hw with (hw | rfl) | hw
    · exact h r (by simp) w hw
    · exact hs
    · exact sepW_clean hs (fun x hx => h x (List.mem_cons_of_mem _ hx)) w hw
theorem testW_good {t : Test} (h : okB t = true) : ∀ r ∈ testW t, GoodRow r := by
  simp only [okB, Bool.and_eq_true, Bool.not_eq_true', List.any_eq_false] at h
  have hth : ∀ l ∈ t.threads, ∀ x ∈ l, okInsB x = true := fun l hl x hx => by
    have := h.1.2 l hl
    simp only [badThreadB, List.any_eq_true, not_exists, not_and, Bool.not_eq_true', Bool.not_eq_false] at this
    exact this x hx
  have hin : ∀ x ∈ t.inits, isLocB x.loc = true := fun x hx => by
    have := h.1.1.2
    simp only [badInitB, List.any_eq_false, Bool.not_eq_true', Bool.not_eq_false] at this
    exact this x hx
  have w1 : Clean [116, 101, 115, 116] := ⟨by simp, by decide⟩
  have w2 : Clean [105, 110, 105, 116] := ⟨by simp, by decide⟩
  have w3 : Clean [116, 104, 114, 101, 97, 100] := ⟨by simp, by decide⟩
  have w4 : Clean [61] := ⟨by simp, by decide⟩
  have gE : GoodRow [[125]] := ⟨[], 125, rfl, by simp, rfl⟩
  intro r hr
  simp only [testW, List.mem_cons, List.mem_append, List.mem_flatMap, List.not_mem_nil, or_false] at hr
  rcases hr with rfl | ((hr | ⟨l, hl, hr⟩) | hr) | rfl
  · exact ⟨[[116, 101, 115, 116], t.name], 123, rfl, by simp only [List.forall_mem_cons]; exact ⟨w1, word_clean h.1.1.1, by simp⟩, rfl⟩
  · split at hr
    · simp at hr
    · simp only [List.mem_cons, List.mem_append, List.mem_map, List.not_mem_nil, or_false] at hr
      rcases hr with rfl | ⟨x, hx, rfl⟩ | rfl
      · exact ⟨[[105, 110, 105, 116]], 123, rfl, by simp only [List.forall_mem_cons]; exact ⟨w2, by simp⟩, rfl⟩
      · exact ⟨[locT x.loc, [61], Lib.itoa x.value], 59, rfl, by simp only [List.forall_mem_cons]; exact ⟨locT_clean (hin x hx), w4, itoa_clean _, by simp⟩, rfl⟩
      · exact gE
  · simp only [threadW, List.mem_cons, List.mem_append, List.mem_map, List.not_mem_nil, or_false] at hr
    rcases hr with rfl | ⟨x, hx, rfl⟩ | rfl
    · exact ⟨[[116, 104, 114, 101, 97, 100]], 123, rfl, by simp only [List.forall_mem_cons]; exact ⟨w3, by simp⟩, rfl⟩
    · exact ⟨partsI x, 59, rfl, parts_clean (hth l hl x hx), rfl⟩
    · exact gE
  · split at hr
    · simp at hr
    · rename_i hk
      simp only [List.mem_cons, List.not_mem_nil, or_false] at hr
      subst hr
      obtain ⟨_, h1, h2⟩ := rows_ok hk h.2
      refine ⟨[askW t.kind] ++ sepW [124] (t.rows.map rowW), 59, rfl, ?_, rfl⟩
      intro w hw
      rcases List.mem_append.1 hw with hw | hw
      · simp only [List.mem_singleton] at hw
        subst hw
        unfold askW
        split <;> exact ⟨by simp, by decide⟩
      · refine sepW_clean (s := [124]) ⟨by simp, by decide⟩ ?_ w hw
        intro r hr
        obtain ⟨l, hl, rfl⟩ := List.mem_map.1 hr
        refine sepW_clean (s := [38]) ⟨by simp, by decide⟩ ?_
        intro r hr
        obtain ⟨a, ha, rfl⟩ := List.mem_map.1 hr
        exact atomW_clean ((h2 l hl).2 a ha)
  · exact gE
end Go.Proofs.YtpfbljkfbjjlkaaGreatDoor

/- A printed test's words are read as it is. -/
namespace Go.Proofs.YtpfbljkfbjjlkaaGreatDoor
open Go Go.Jq
set_option maxRecDepth 100000
set_option linter.unusedSimpArgs false
theorem sepW_cons (s : List UInt8) (w : List (List UInt8)) : ∀ ws : List (List (List UInt8)), sepW s (w :: ws) = w ++ ws.flatMap fun v => s :: v
  | [] => by simp [sepW]
  | v :: ws => by
    have ih := sepW_cons s v ws
    simp only [sepW, ih, List.flatMap_cons, List.append_assoc, List.cons_append, List.nil_append]
theorem app_K {α : Type} (t : PT α) (ws : List (List UInt8)) (u : KT) (r : List KT) {x : α} (h : ∀ u r, t.runK (ws.map kW ++ u :: r) = some (x, u :: r)) (vs : List (List UInt8)) : ∃ v w, vs.map kW ++ u :: r = v :: w ∧ t.runK ((ws ++ vs).map kW ++ u :: r) = some (x, vs.map kW ++ u :: r) := by
  obtain ⟨v, w, hv⟩ : ∃ v w, vs.map kW ++ u :: r = v :: w := by
    cases vs with
    | nil => exact ⟨_, _, rfl⟩
    | cons v vs => exact ⟨_, _, rfl⟩
  refine ⟨v, w, hv, ?_⟩
  rw [List.map_append, List.append_assoc, hv]
  exact h v w
theorem row_K : ∀ (l : List Atom) (n : Nat), (∀ a ∈ l, okAtomB a = true ∧ I64a a) → l.length < n → ∀ (u : KT) (r : List KT), u.2 ≠ [38] →
    (tRow n).runK ((l.flatMap fun a => [38] :: atomW a).map kW ++ u :: r) = some (l, u :: r)
  | _, 0, _, h, _, _, _ => absurd h (Nat.not_lt_zero _)
  | [], n + 1, _, _, u, r, hu => by
    simp only [List.flatMap_nil, List.map_nil, List.nil_append, tRow]
    rw [take_no _ _ _ _ hu]
    rfl
  | a :: l, n + 1, hp, hl, u, r, hu => by
    have ih := row_K l n (fun b hb => hp b (List.mem_cons_of_mem _ hb)) (by simp at hl; omega) u r hu
    obtain ⟨ha, hv⟩ := hp a List.mem_cons_self
    obtain ⟨v, w, hvw, h1⟩ := app_K tAtom (atomW a) u r (atom_K ha hv) (l.flatMap fun a => [38] :: atomW a)
    have e : ((a :: l).flatMap fun a => [38] :: atomW a).map kW ++ u :: r = kW [38] :: ((atomW a ++ l.flatMap fun a => [38] :: atomW a).map kW ++ u :: r) := by simp
    obtain ⟨v', w', hvw'⟩ : ∃ v' w', (atomW a ++ l.flatMap fun a => [38] :: atomW a).map kW ++ u :: r = v' :: w' := by
      obtain ⟨y, ys, hy⟩ := List.exists_cons_of_ne_nil (atomW_ne a)
      rw [hy]
      exact ⟨_, _, rfl⟩
    rw [e, tRow, hvw', take_K (.inl (by decide)), ← hvw', PT.runK_bind, h1]
    simp only [PT.runK_bind, ih]
    rfl
theorem rowW_cons (a : Atom) (l : List Atom) : rowW (a :: l) = atomW a ++ l.flatMap fun a => [38] :: atomW a := by
  unfold rowW
  rw [List.map_cons, sepW_cons, List.flatMap_map]
theorem rows_K : ∀ (l : List Atom) (ls : List (List Atom)) (n : Nat), (∀ l' ∈ l :: ls, l' ≠ [] ∧ l'.length ≤ fuelP ∧ ∀ a ∈ l', okAtomB a = true ∧ I64a a) → ls.length < n → ∀ (u : KT) (r : List KT), u.2 ≠ [38] → u.2 ≠ [124] →
    (tRows n).runK ((rowW l ++ ls.flatMap fun l => [124] :: rowW l).map kW ++ u :: r) = some (l :: ls, u :: r)
  | _, _, 0, _, h, _, _, _, _ => absurd h (Nat.not_lt_zero _)
  | l, ls, n + 1, hp, hl, u, r, h38, h124 => by
    obtain ⟨hne, hlen, hok⟩ := hp l List.mem_cons_self
    obtain ⟨a, l', rfl⟩ := List.exists_cons_of_ne_nil hne
    obtain ⟨ha, hv⟩ := hok a List.mem_cons_self
    have hrow := row_K l' fuelP (fun b hb => hok b (List.mem_cons_of_mem _ hb)) (by simp at hlen; omega)
    rw [rowW_cons, List.append_assoc]
    obtain ⟨v, w, hvw, h1⟩ := app_K tAtom (atomW a) u r (atom_K ha hv) ((l'.flatMap fun a => [38] :: atomW a) ++ ls.flatMap fun l => [124] :: rowW l)
    rw [tRows, PT.runK_bind, h1]
    simp only [PT.runK_bind]
    rw [List.map_append, List.append_assoc]
    cases ls with
    | nil =>
      simp only [List.flatMap_nil, List.map_nil, List.nil_append]
      rw [hrow u r h38]
      simp only
      rw [take_no _ _ _ _ h124]
      rfl
    | cons l2 ls =>
      have ih := rows_K l2 ls n (fun x hx => hp x (List.mem_cons_of_mem _ hx)) (by simp at hl; omega) u r h38 h124
      have e : (((l2 :: ls).flatMap fun l => [124] :: rowW l)).map kW ++ u :: r = kW [124] :: ((rowW l2 ++ ls.flatMap fun l => [124] :: rowW l).map kW ++ u :: r) := by simp
      rw [e, hrow (kW [124]) _ (by decide)]
      simp only
      obtain ⟨v', w', hvw'⟩ : ∃ v' w', (rowW l2 ++ ls.flatMap fun l => [124] :: rowW l).map kW ++ u :: r = v' :: w' := by
        obtain ⟨y, ys, hy⟩ := List.exists_cons_of_ne_nil (rowW_ne (hp l2 (by simp)).1)
        rw [hy]
        exact ⟨_, _, rfl⟩
      rw [hvw', take_K (.inl (by decide)), ← hvw', PT.runK_bind, ih]
      rfl
structure FitT (t : Test) : Prop where
  ok : okB t = true
  inits : ∀ x ∈ t.inits, I64 x.value
  ins : ∀ l ∈ t.threads, ∀ x ∈ l, I64i x
  atoms : ∀ l ∈ t.rows, ∀ a ∈ l, I64a a
  ni : t.inits.length < fuelP
  nt : t.threads.length < fuelP
  nl : ∀ l ∈ t.threads, l.length < fuelP
  nr : t.rows.length < fuelP
  na : ∀ l ∈ t.rows, l.length < fuelP
theorem FitT.parts {t : Test} (h : FitT t) : isWordB t.name = true ∧ (∀ x ∈ t.inits, isLocB x.loc = true) ∧ (∀ l ∈ t.threads, ∀ x ∈ l, okInsB x = true) ∧ okCondB t.kind t.rows = true := by
  have h := h.ok
  simp only [okB, Bool.and_eq_true, Bool.not_eq_true', List.any_eq_false] at h
  refine ⟨h.1.1.1, fun x hx => ?_, fun l hl x hx => ?_, h.2⟩
  · have := h.1.1.2
    simp only [badInitB, List.any_eq_false, Bool.not_eq_true', Bool.not_eq_false] at this
    exact this x hx
  · have := h.1.2 l hl
    simp only [badThreadB, List.any_eq_true, not_exists, not_and, Bool.not_eq_true', Bool.not_eq_false] at this
    exact this x hx
theorem insW_head {x : Ins} (h : okInsB x = true) : ∃ w ws, insW x = w :: ws ∧ w ≠ [125] := by
  have hc := parts_clean h
  unfold insW
  cases hp : partsI x with
  | nil => exact ⟨[59], [], rfl, by decide⟩
  | cons w ws =>
    refine ⟨w, ws ++ [[59]], rfl, ?_⟩
    rintro rfl
    have := (hc [125] (by rw [hp]; simp)).2
    revert this
    decide
theorem threads_K : ∀ (ls : List (List Ins)) (n : Nat), (∀ l ∈ ls, l.length < fuelP ∧ ∀ x ∈ l, okInsB x = true ∧ I64i x) → ls.length < n → ∀ (u : KT) (r : List KT), u.2 ≠ wThread →
    (tThreads n).runK ((ls.flatMap fun l => (threadW l).flatten).map kW ++ u :: r) = some (ls, u :: r)
  | _, 0, _, h, _, _, _ => absurd h (Nat.not_lt_zero _)
  | [], n + 1, _, _, u, r, hu => by
    simp only [List.flatMap_nil, List.map_nil, List.nil_append, tThreads]
    rw [take_no _ _ _ _ hu]
    rfl
  | l :: ls, n + 1, hp, hl, u, r, hu => by
    have ih := threads_K ls n (fun b hb => hp b (List.mem_cons_of_mem _ hb)) (by simp at hl; omega) u r hu
    obtain ⟨hlen, hok⟩ := hp l List.mem_cons_self
    have hm := many_K (one := tInsE) (f := insW) (p := fun x => okInsB x = true ∧ I64i x) (fun a ha u r => ins_K ha.1 ha.2 u r) (fun a ha => insW_head ha.1) l fuelP hok hlen
    have e : ((l :: ls).flatMap fun l => (threadW l).flatten).map kW ++ u :: r = kW wThread :: kW [123] :: ((l.flatMap insW).map kW ++ kW [125] :: ((ls.flatMap fun l => (threadW l).flatten).map kW ++ u :: r)) := by
      simp [threadW, wThread, List.flatMap]
    obtain ⟨v, w, hv⟩ : ∃ v w, (ls.flatMap fun l => (threadW l).flatten).map kW ++ u :: r = v :: w := by
      cases h : (ls.flatMap fun l => (threadW l).flatten).map kW with
      | nil => exact ⟨_, _, rfl⟩
      | cons v vs => exact ⟨_, _, rfl⟩
    obtain ⟨v', w', hv'⟩ : ∃ v' w', (l.flatMap insW).map kW ++ kW [125] :: ((ls.flatMap fun l => (threadW l).flatten).map kW ++ u :: r) = v' :: w' := by
      cases h : (l.flatMap insW).map kW with
      | nil => exact ⟨_, _, rfl⟩
      | cons v vs => exact ⟨_, _, rfl⟩
    rw [e, tThreads, take_K (.inr (by decide)), PT.runK_bind]
    unfold tThread
    rw [hv', PT.runK_bind, must_K (.inl (by decide))]
    simp only
    rw [← hv', hv, hm, ← hv]
    simp only [PT.runK_bind, ih]
    rfl
theorem name_K {s : List UInt8} (h : isWordB s = true) (u : KT) (r : List KT) : tWord.runK (kW s :: u :: r) = some (s, u :: r) := by
  have hk : kdOf s = 1 := by
    unfold isWordB at h
    simp only [Bool.and_eq_true, List.all_eq_true, List.mem_range, decide_eq_true_eq] at h
    cases s with
    | nil => exact absurd rfl h.2
    | cons c r =>
      have := h.1 0 (by simp)
      simp only [wordAt, List.getD_cons_zero, Bool.or_eq_true, Bool.and_eq_true, decide_eq_true_eq] at this
      have hl : letB c = true := by
        simp only [letB, Bool.and_eq_true, decide_eq_true_eq]
        rcases this with h1 | h1
        · exact h1
        · exact absurd rfl h1.1.1
      simp [kdOf, hl]
  simp [tWord, PT.runK, kW, hk]
theorem cond_K {kind : Int} {rows : List (List Atom)} (h : okCondB kind rows = true) (hv : ∀ l ∈ rows, ∀ a ∈ l, I64a a) (hn : rows.length < fuelP) (hl : ∀ l ∈ rows, l.length < fuelP) (r : List KT) :
    tCond.runK (((if kind = 0 then [] else [condW kind rows]).flatten).map kW ++ kW [125] :: r) = some ((kind, rows), kW [125] :: r) := by
  by_cases h0 : kind = 0
  · subst h0
    have : rows = [] := by
      unfold okCondB at h
      rw [if_pos rfl] at h
      simpa using h
    subst this
    simp only [if_true, List.flatten_nil, List.map_nil, List.nil_append]
    unfold tCond
    rw [take_no _ _ _ _ (by decide), take_no _ _ _ _ (by decide)]
    rfl
  · obtain ⟨hk, hne, hrows⟩ := rows_ok h0 h
    obtain ⟨l, ls, rfl⟩ := List.exists_cons_of_ne_nil hne
    have hr := rows_K l ls fuelP (fun l' hl' => ⟨(hrows l' hl').1, Nat.le_of_lt (hl l' hl'), fun a ha => ⟨(hrows l' hl').2 a ha, hv l' hl' a ha⟩⟩) (by simp at hn; omega) (kW [59]) (kW [125] :: r) (by decide) (by decide)
    have e : ((if kind = 0 then [] else [condW kind (l :: ls)]).flatten).map kW ++ kW [125] :: r = kW (askW kind) :: ((rowW l ++ ls.flatMap fun l => [124] :: rowW l).map kW ++ kW [59] :: kW [125] :: r) := by
      rw [if_neg h0]
      simp [condW, sepW_cons, List.flatMap_map]
    obtain ⟨v, w, hvw⟩ : ∃ v w, (rowW l ++ ls.flatMap fun l => [124] :: rowW l).map kW ++ kW [59] :: kW [125] :: r = v :: w := by
      obtain ⟨y, ys, hy⟩ := List.exists_cons_of_ne_nil (rowW_ne (hrows l (by simp)).1)
      rw [hy]
      exact ⟨_, _, rfl⟩
    rw [e]
    unfold tCond
    rcases hk with rfl | rfl
    · have : askW 1 = wExists := rfl
      rw [this, hvw, take_K (.inr (by decide)), ← hvw]
      unfold tAsk
      rw [PT.runK_bind, hr]
      simp only [PT.runK_bind, must_W (w := [59]) (.inl (by decide))]
      rfl
    · have : askW 2 = wForall := rfl
      rw [this, take_no _ _ _ _ (by decide), hvw, take_K (.inr (by decide)), ← hvw]
      unfold tAsk
      rw [PT.runK_bind, hr]
      simp only [PT.runK_bind, must_W (w := [59]) (.inl (by decide))]
      rfl
def wordsT (t : Test) : List (List UInt8) := (testW t).flatten
theorem head_cons (vs : List (List UInt8)) (u : KT) (r : List KT) : ∃ v w, vs.map kW ++ u :: r = v :: w := by
  cases vs with
  | nil => exact ⟨_, _, rfl⟩
  | cons v vs => exact ⟨_, _, rfl⟩
theorem first_not {P : List UInt8 → Prop} (ws : List (List UInt8)) (h : ∀ w ∈ ws.head?, P w) (u : KT) (hu : P u.2) (r : List KT) : ∃ v w, ws.map kW ++ u :: r = v :: w ∧ P v.2 := by
  cases ws with
  | nil => exact ⟨u, r, rfl, hu⟩
  | cons w ws => exact ⟨kW w, _, rfl, h w rfl⟩
set_option maxHeartbeats 1000000 in
theorem test_K {t : Test} (h : FitT t) : tTest.runK ((wordsT t).map kW ++ [endK]) = some (t, [endK]) := by
  obtain ⟨hn, hi, hx, hc⟩ := h.parts
  have k1 := threads_K t.threads fuelP (fun l hl => ⟨h.nl l hl, fun x hxl => ⟨hx l hl x hxl, h.ins l hl x hxl⟩⟩) h.nt
  have k2 := cond_K hc h.atoms h.nr h.na [endK]
  have k3 := many_K (one := tInit) (f := initW) (p := fun x => isLocB x.loc = true ∧ I64 x.value) (fun a ha u r => init_K ha.1 ha.2 u r) (fun a ha => ⟨locT a.loc, _, rfl, by
    obtain ⟨h0, h1, _, _⟩ := loc_byte ha.1
    rw [h0]
    intro e
    have e1 : UInt8.ofNat a.loc.toNat = 125 := by simpa using e
    have h2 := ha.1
    simp only [isLocB, Bool.and_eq_true, decide_eq_true_eq] at h2
    rw [e1] at h1
    have e2 : (125 : UInt8).toNat = 125 := rfl
    rw [e2] at h1
    omega⟩) t.inits fuelP (fun x hx => ⟨hi x hx, h.inits x hx⟩) h.ni
  -- the parts, from behind
  generalize hC : (if t.kind = 0 then [] else [condW t.kind t.rows]).flatten = C at k2
  generalize hT : (t.threads.flatMap fun l => (threadW l).flatten) = T at k1
  have hCh : ∀ w ∈ C.head?, w ≠ wThread ∧ w ≠ wInit := by
    rw [← hC]
    split
    · simp
    · rename_i h0
      intro w hw
      have : w = askW t.kind := by
        simp [condW] at hw
        exact hw.symm
      rw [this]
      unfold askW
      split <;> decide
  have hTh : ∀ w ∈ T.head?, w ≠ wInit := by
    rw [← hT]
    cases t.threads with
    | nil => simp
    | cons l ls =>
      intro w hw
      have : w = wThread := by
        simp [threadW, wThread] at hw
        exact hw.symm
      rw [this]
      decide
  obtain ⟨c1, cr, hcr, hc1⟩ := first_not (P := fun w => w ≠ wThread ∧ w ≠ wInit) C hCh (kW [125]) (by decide) [endK]
  have k1' : (tThreads fuelP).runK (T.map kW ++ (C.map kW ++ kW [125] :: [endK])) = some (t.threads, C.map kW ++ kW [125] :: [endK]) := by
    rw [hcr]
    exact k1 c1 cr hc1.1
  obtain ⟨d1, dr, hdr, hd1⟩ := first_not (P := fun w => w ≠ wInit) T hTh c1 hc1.2 cr
  rw [← hcr] at hdr
  have kI : (tTake wInit tInits (.ret [])).runK (((if t.inits = [] then [] else [[105, 110, 105, 116], [123]] :: (t.inits.map initW ++ [[[125]]])).flatten).map kW ++ (T.map kW ++ (C.map kW ++ kW [125] :: [endK]))) = some (t.inits, T.map kW ++ (C.map kW ++ kW [125] :: [endK])) := by
    by_cases h0 : t.inits = []
    · rw [if_pos h0, h0]
      simp only [List.flatten_nil, List.map_nil, List.nil_append]
      rw [hdr, take_no _ _ _ _ hd1]
      rfl
    · rw [if_neg h0]
      have e : (([[105, 110, 105, 116], [123]] :: (t.inits.map initW ++ [[[125]]])).flatten).map kW ++ (T.map kW ++ (C.map kW ++ kW [125] :: [endK])) = kW wInit :: kW [123] :: ((t.inits.flatMap initW).map kW ++ kW [125] :: (T.map kW ++ (C.map kW ++ kW [125] :: [endK]))) := by
        simp [wInit, List.flatMap]
      obtain ⟨e1, er, her⟩ : ∃ v w, (t.inits.flatMap initW).map kW ++ kW [125] :: (T.map kW ++ (C.map kW ++ kW [125] :: [endK])) = v :: w := by
        cases hh : (t.inits.flatMap initW).map kW with
        | nil => exact ⟨_, _, rfl⟩
        | cons v vs => exact ⟨_, _, rfl⟩
      rw [e, take_K (.inr (by decide))]
      unfold tInits
      rw [her, PT.runK_bind, must_K (.inl (by decide))]
      simp only
      rw [← her, hdr, k3]
  generalize hI : (if t.inits = [] then [] else [[105, 110, 105, 116], [123]] :: (t.inits.map initW ++ [[[125]]])).flatten = I at kI
  obtain ⟨i1, ir, hir⟩ : ∃ v w, I.map kW ++ (T.map kW ++ (C.map kW ++ kW [125] :: [endK])) = v :: w := by
    rw [hdr]
    exact head_cons I d1 dr
  have e : (wordsT t).map kW ++ [endK] = kW wTest :: kW t.name :: kW [123] :: (I.map kW ++ (T.map kW ++ (C.map kW ++ kW [125] :: [endK]))) := by
    unfold wordsT testW
    rw [← hI, ← hT, ← hC]
    simp [wTest, List.flatMap, List.flatten_append, Function.comp_def]
    rw [List.flatten_flatten, List.map_map]
    rfl
  rw [e]
  unfold tTest
  rw [PT.runK_bind, must_K (.inr (by decide))]
  simp only
  rw [PT.runK_bind, name_K hn]
  simp only
  rw [hir, PT.runK_bind, must_K (.inl (by decide))]
  simp only
  rw [← hir, PT.runK_bind, kI]
  simp only
  rw [PT.runK_bind, k1']
  simp only
  rw [PT.runK_bind, k2]
  simp only
  rw [PT.runK_bind, must_K (.inl (by decide))]
  simp only [PT.runK, endK, if_true]
end Go.Proofs.YtpfbljkfbjjlkaaGreatDoor

/- A text of words with blanks between them is read as its words. -/
namespace Go.Proofs.YtpfbljkfbjjlkaaGreatDoor
open Go Go.Jq
set_option maxRecDepth 100000
set_option linter.unusedSimpArgs false
def GoodTk (w : List UInt8) : Prop := (∃ c r, w = c :: r ∧ blankB c = false ∧ c ≠ 35) ∧ ∀ a, tokAt a w = (⟨kdOf w, w, a⟩, a + w.length, 0)
def Blanks (z : List UInt8) : Prop := z.all blankB = true
def laceT : List (List UInt8 × List UInt8) → List UInt8
  | [] => []
  | p :: l => p.1 ++ p.2 ++ laceT l
def GoodLace (l : List (List UInt8 × List UInt8)) : Prop := ∀ p ∈ l, GoodTk p.1 ∧ p.2 ≠ [] ∧ Blanks p.2
theorem skipN_blanks : ∀ (z l : List UInt8), Blanks z → skipN false (z ++ l) = z.length + skipN false l
  | [], l, _ => by simp
  | c :: z, l, h => by
    unfold Blanks at h
    rw [List.all_cons, Bool.and_eq_true] at h
    rw [List.cons_append, skipN, if_pos h.1, skipN_blanks z l h.2, List.length_cons]
    omega
theorem kdOf_ne {w : List UInt8} : kdOf w ≠ 4 := by
  unfold kdOf
  split
  · decide
  · split
    · decide
    · split <;> decide
theorem tl_lace : ∀ (l : List (List UInt8 × List UInt8)) (pre z : List UInt8), GoodLace l → Blanks z → ∃ toks, TL (pre ++ z ++ laceT l) pre.length toks ∧ toks.map ktT = l.map (fun p => kW p.1) ++ [endK]
  | [], pre, z, _, hz => by
    have hd : (pre ++ z ++ laceT []).drop pre.length = z := by simp [laceT]
    have hs : skipA (pre ++ z ++ laceT []) pre.length = pre.length + z.length := by
      unfold skipA
      rw [hd]
      have := skipN_blanks z [] hz
      rw [List.append_nil] at this
      rw [this]; rfl
    have hn : nextW (pre ++ z ++ laceT []) pre.length = (⟨4, [], pre.length + z.length⟩, pre.length + z.length, 0) := by
      unfold nextW
      rw [hs, List.drop_of_length_le (by simp [laceT])]
      rfl
    exact ⟨[⟨4, [], pre.length + z.length⟩], ⟨_, hn, by rw [if_pos rfl]⟩, rfl⟩
  | p :: l, pre, z, hg, hz => by
    obtain ⟨w, y⟩ := p
    obtain ⟨⟨⟨c, r, hw, hc, h35⟩, ht⟩, hy, hyb⟩ := hg _ List.mem_cons_self
    simp only at hw ht hy hyb
    obtain ⟨toks, h1, h2⟩ := tl_lace l (pre ++ z ++ w) y (fun q hq => hg q (List.mem_cons_of_mem _ hq)) hyb
    obtain ⟨x, y', rfl⟩ := List.exists_cons_of_ne_nil hy
    have hx : blankB x = true := by
      simp only [Blanks, List.all_cons, Bool.and_eq_true] at hyb
      exact hyb.1
    have hd : (pre ++ z ++ laceT ((w, x :: y') :: l)).drop pre.length = z ++ (w ++ x :: (y' ++ laceT l)) := by simp [laceT]
    have hsk : skipN false (w ++ x :: (y' ++ laceT l)) = 0 := by
      rw [hw, List.cons_append, skipN, if_neg (by rw [hc]; decide), if_neg h35]
    have hs : skipA (pre ++ z ++ laceT ((w, x :: y') :: l)) pre.length = pre.length + z.length := by
      unfold skipA
      rw [hd, skipN_blanks z _ hz, hsk]
      rfl
    have hn : nextW (pre ++ z ++ laceT ((w, x :: y') :: l)) pre.length = (⟨kdOf w, w, pre.length + z.length⟩, pre.length + z.length + w.length, 0) := by
      unfold nextW
      have hd2 : (pre ++ z ++ laceT ((w, x :: y') :: l)).drop (pre.length + z.length) = w ++ x :: (y' ++ laceT l) := by
        rw [← List.drop_drop, hd, List.drop_left]
      rw [hs, hd2]
      have := tokAt_cut hx (pre.length + z.length) (l := w) (m := w.length) (by rw [hw]; simp) (Nat.le_refl _) (.inl rfl) (y' ++ laceT l)
      rw [List.take_length] at this
      rw [this, ht]
    refine ⟨⟨kdOf w, w, pre.length + z.length⟩ :: toks, ⟨_, hn, ?_⟩, ?_⟩
    · rw [if_neg kdOf_ne]
      have e1 : pre ++ z ++ w ++ (x :: y') ++ laceT l = pre ++ z ++ laceT ((w, x :: y') :: l) := by simp [laceT]
      have e2 : (pre ++ z ++ w).length = pre.length + z.length + w.length := by simp only [List.length_append]
      rw [← e1, ← e2]
      exact h1
    · rw [List.map_cons, h2]
      rfl
theorem lace_reads {t : Test} (h : FitT t) {l : List (List UInt8 × List UInt8)} (hg : GoodLace l) (hl : l.map (·.1) = wordsT t) (hlen : (laceT l).length ≤ 4000) : pTest (laceT l) = .ok t := by
  obtain ⟨toks, h1, h2⟩ := tl_lace l [] [] hg rfl
  simp only [List.nil_append, List.length_nil] at h1
  have hk := test_K h
  have e : l.map (fun p => kW p.1) = (wordsT t).map kW := by rw [← hl, List.map_map]; rfl
  rw [e] at h2
  rw [← h2] at hk
  obtain ⟨b, l', hr, _⟩ := tTest.run_of_runK (Nat.zero_le _) h1 hk
  have hgo : goW (laceT l) 0 = .ok 0 := by
    cases toks with
    | nil => cases h1
    | cons d r =>
      obtain ⟨e, he, _⟩ := h1
      unfold goW
      rw [he]; rfl
  unfold pTest
  rw [if_neg (by omega), hgo]
  simp only [hr]
theorem tk_word {c : UInt8} {r : List UInt8} (hc : letB c = true) (hr : r.all alnB = true) : GoodTk (c :: r) := by
  refine ⟨⟨c, r, rfl, ?_, ?_⟩, fun a => ?_⟩
  · cases hb : blankB c with
    | false => rfl
    | true =>
      have := (blank_nots hb).1
      simp [alnB, hc] at this
  · rintro rfl
    revert hc
    decide
  · have h1 := runL_all r hr
    have hk : kdOf (c :: r) = 1 := by simp only [kdOf]; rw [if_pos hc]
    rw [tokAt, if_pos hc, h1, List.take_length, hk]
    simp only [List.length_cons]
    rw [Nat.add_comm 1]
theorem tk_num {n : Int} (h : I64 n) : GoodTk (Lib.itoa n) := by
  obtain ⟨c, r, h1, h2, h3⟩ := itoa_form n
  refine ⟨⟨c, r, h1, ?_, ?_⟩, fun a => ?_⟩
  · rcases h3 with h3 | ⟨rfl, _⟩
    · cases hb : blankB c with
      | false => rfl
      | true => rw [(blank_nots hb).2.1] at h3; cases h3
    · rfl
  · rintro rfl
    rcases h3 with h3 | ⟨h3, _⟩
    · revert h3; decide
    · revert h3; decide
  · have := num_tok a n [] rfl
    rw [List.append_nil] at this
    rw [this, parseW_itoa h, if_pos rfl, kd_num]
theorem tk_const {w : List UInt8} (h : w ∈ ([[123], [125], [59], [58], [61], [43], [45], [42], [38], [124], [94], [60, 60], [62, 62], [61, 61], [33, 61], [60]] : List (List UInt8))) : GoodTk w := by
  simp only [List.mem_cons, List.not_mem_nil, or_false] at h
  rcases h with rfl | rfl | rfl | rfl | rfl | rfl | rfl | rfl | rfl | rfl | rfl | rfl | rfl | rfl | rfl | rfl
  all_goals exact ⟨⟨_, _, rfl, rfl, by decide⟩, fun a => rfl⟩
end Go.Proofs.YtpfbljkfbjjlkaaGreatDoor

/- A printed test's text as words and blanks; with more blanks it is read as it was. -/
namespace Go.Proofs.YtpfbljkfbjjlkaaGreatDoor
open Go Go.Jq
set_option maxRecDepth 100000
set_option linter.unusedSimpArgs false
theorem tk_loc {n : Int} (h : isLocB n = true) : GoodTk (locT n) := by
  obtain ⟨h0, _, _, h3⟩ := loc_byte h
  rw [h0]
  exact tk_word h3 rfl
theorem tk_reg {n : Int} (h : isRegB n = true) : GoodTk (regT n) := by
  rw [(reg_text h).1]
  rcases reg_cases h with rfl | rfl | rfl | rfl <;> exact tk_word (by decide) (by decide)
theorem tk_opd {o : Opnd} (h : isOpB o = true) (hv : I64 o.value) : GoodTk (opT o) := by
  unfold opT
  split
  · exact tk_num hv
  · rename_i hr
    unfold isOpB at h
    simp only [Bool.or_eq_true, Bool.and_eq_true, decide_eq_true_eq] at h
    rcases h with h | h
    · exact absurd h hr
    · exact tk_reg h.1
theorem tk_sign {op : Int} (h1 : 1 ≤ op) (h2 : op ≤ 11) : GoodTk (signT op) := by
  have hm : ∀ q : Fin 12, 1 ≤ q.1 → signsT.getD q.1 [] ∈ ([[123], [125], [59], [58], [61], [43], [45], [42], [38], [124], [94], [60, 60], [62, 62], [61, 61], [33, 61], [60]] : List (List UInt8)) := by decide
  have key : ∀ q : Fin 12, 1 ≤ q.1 → GoodTk (signsT.getD q.1 []) := fun q hq => tk_const (hm q hq)
  unfold signT
  rw [if_pos ⟨h1, h2⟩]
  exact key ⟨op.toNat, by omega⟩ (by show 1 ≤ op.toNat; omega)
theorem tk_name {s : List UInt8} (h : isWordB s = true) : GoodTk s := by
  unfold isWordB at h
  simp only [Bool.and_eq_true, List.all_eq_true, List.mem_range, decide_eq_true_eq] at h
  cases s with
  | nil => exact absurd rfl h.2
  | cons c r =>
    have h0 := h.1 0 (by simp)
    simp only [wordAt, List.getD_cons_zero, Bool.or_eq_true, Bool.and_eq_true, decide_eq_true_eq] at h0
    refine tk_word ?_ (List.all_eq_true.2 fun b hb => ?_)
    · simp only [letB, Bool.and_eq_true, decide_eq_true_eq]
      rcases h0 with h1 | h1
      · exact h1
      · exact absurd rfl h1.1.1
    · obtain ⟨i, hi, rfl⟩ := List.getElem_of_mem hb
      have := h.1 (i + 1) (by simp; exact hi)
      have e : (c :: r).getD (i + 1) 0 = r[i] := by simp [hi]
      rw [e] at this
      simp only [wordAt, Bool.or_eq_true, Bool.and_eq_true, decide_eq_true_eq] at this
      simp only [alnB, letB, digB, Bool.or_eq_true, Bool.and_eq_true, decide_eq_true_eq]
      rcases this with h1 | h1
      · exact .inl h1
      · exact .inr ⟨h1.1.2, h1.2⟩
theorem tk_ins {x : Ins} (h : okInsB x = true) (hv : I64i x) : ∀ w ∈ insW x, GoodTk w := by
  have w1 : GoodTk [115, 116, 111, 114, 101] := tk_word (by decide) (by decide)
  have w2 : GoodTk [108, 111, 97, 100] := tk_word (by decide) (by decide)
  have w3 : GoodTk [102, 101, 110, 99, 101] := tk_word (by decide) (by decide)
  have w4 : GoodTk [99, 97, 115] := tk_word (by decide) (by decide)
  have w5 : GoodTk [115, 107, 105, 112] := tk_word (by decide) (by decide)
  have w6 : GoodTk [105, 102] := tk_word (by decide) (by decide)
  have w7 : GoodTk [61, 61] := tk_const (by decide)
  have w8 : GoodTk [61] := tk_const (by decide)
  have w9 : GoodTk [59] := tk_const (by decide)
  obtain ⟨_, _, v2, _, v4, v5⟩ := hv
  intro w hw
  unfold insW at hw
  rcases List.mem_append.1 hw with hw | hw
  rotate_left
  · simp only [List.mem_cons, List.not_mem_nil, or_false] at hw
    subst hw
    exact w9
  unfold okInsB at h
  unfold partsI at hw
  by_cases k1 : x.kind = 1
  · rw [if_pos k1] at h hw
    simp only [Bool.and_eq_true] at h
    have hall : ∀ w ∈ [[115, 116, 111, 114, 101], locT x.loc, opT x.a], GoodTk w := by
      simp only [List.forall_mem_cons]
      exact ⟨w1, tk_loc h.1.1, tk_opd h.1.2 v2, by simp⟩
    exact hall w hw
  rw [if_neg k1] at h hw
  by_cases k2 : x.kind = 2
  · rw [if_pos k2] at h hw
    simp only [Bool.and_eq_true] at h
    have hall : ∀ w ∈ [regT x.reg, [61], [108, 111, 97, 100], locT x.loc], GoodTk w := by
      simp only [List.forall_mem_cons]
      exact ⟨tk_reg h.1.2, w8, w2, tk_loc h.1.1, by simp⟩
    exact hall w hw
  rw [if_neg k2] at h hw
  by_cases k3 : x.kind = 3
  · rw [if_pos k3] at hw
    simp only [List.mem_cons, List.not_mem_nil, or_false] at hw
    subst hw
    exact w3
  rw [if_neg k3] at h hw
  by_cases k4 : x.kind = 4
  · rw [if_pos k4] at h hw
    simp only [Bool.and_eq_true] at h
    have hall : ∀ w ∈ [regT x.reg, [61], [99, 97, 115], locT x.loc, opT x.a, opT x.b], GoodTk w := by
      simp only [List.forall_mem_cons]
      exact ⟨tk_reg h.1.1.1.2, w8, w4, tk_loc h.1.1.1.1, tk_opd h.1.1.2 v2, tk_opd h.1.2 v4, by simp⟩
    exact hall w hw
  rw [if_neg k4] at h hw
  by_cases k5 : x.kind = 5
  · rw [if_pos k5] at h hw
    simp only [Bool.and_eq_true, decide_eq_true_eq] at h
    rcases List.mem_append.1 hw with hw | hw
    · have hall : ∀ w ∈ [regT x.reg, [61], opT x.a], GoodTk w := by
        simp only [List.forall_mem_cons]
        exact ⟨tk_reg h.1.1.1.1.1.1, w8, tk_opd h.1.1.1.1.1.2 v2, by simp⟩
      exact hall w hw
    · split at hw
      · rename_i ho
        have hall : ∀ w ∈ [signT x.op, opT x.b], GoodTk w := by
          simp only [List.forall_mem_cons]
          exact ⟨tk_sign (by omega) h.1.1.2, tk_opd h.1.1.1.1.2 v4, by simp⟩
        exact hall w hw
      · simp at hw
  rw [if_neg k5] at h hw
  by_cases k6 : x.kind = 6
  · rw [if_pos k6] at h
    simp only [Bool.and_eq_true] at h
    have hall : ∀ w ∈ [[115, 107, 105, 112], Lib.itoa x.n, [105, 102], opT x.a, [61, 61], opT x.b], GoodTk w := by
      simp only [List.forall_mem_cons]
      exact ⟨w5, tk_num v5, w6, tk_opd h.1.1.2 v2, w7, tk_opd h.1.2 v4, by simp⟩
    exact hall w hw
  · rw [if_neg k6] at h
    cases h
theorem tk_atom {a : Atom} (h : okAtomB a = true) (hv : I64a a) : ∀ w ∈ atomW a, GoodTk w := by
  have w1 : GoodTk [58] := tk_const (by decide)
  have w2 : GoodTk [61] := tk_const (by decide)
  obtain ⟨v1, _, v3⟩ := hv
  unfold atomW
  unfold okAtomB at h
  split
  · rename_i ht
    rw [if_pos ht] at h
    simp only [Bool.and_eq_true] at h
    simp only [List.cons_append, List.nil_append, List.forall_mem_cons]
    exact ⟨tk_loc h.2, w2, tk_num v3, by simp⟩
  · rename_i ht
    rw [if_neg ht] at h
    simp only [Bool.and_eq_true] at h
    simp only [List.cons_append, List.nil_append, List.forall_mem_cons]
    exact ⟨tk_num v1, w1, tk_reg h.2, w2, tk_num v3, by simp⟩
theorem tk_sep {s : List UInt8} (hs : GoodTk s) : ∀ {l : List (List (List UInt8))}, (∀ r ∈ l, ∀ w ∈ r, GoodTk w) → ∀ w ∈ sepW s l, GoodTk w
  | [], _ => by simp [sepW]
  | [r], h => by simpa [sepW] using h
  | r :: r' :: l, h => by
    intro w hw
    simp only [sepW, List.mem_append, List.mem_singleton] at hw
    rcases hw with (hw | rfl) | hw
    · exact h r (by simp) w hw
    · exact hs
    · exact tk_sep hs (fun x hx => h x (List.mem_cons_of_mem _ hx)) w hw
structure ValT (t : Test) : Prop where
  ok : okB t = true
  inits : ∀ x ∈ t.inits, I64 x.value
  ins : ∀ l ∈ t.threads, ∀ x ∈ l, I64i x
  atoms : ∀ l ∈ t.rows, ∀ a ∈ l, I64a a
theorem ValT.parts {t : Test} (h : ValT t) : isWordB t.name = true ∧ (∀ x ∈ t.inits, isLocB x.loc = true) ∧ (∀ l ∈ t.threads, ∀ x ∈ l, okInsB x = true) ∧ okCondB t.kind t.rows = true := by
  have h := h.ok
  simp only [okB, Bool.and_eq_true, Bool.not_eq_true', List.any_eq_false] at h
  refine ⟨h.1.1.1, fun x hx => ?_, fun l hl x hx => ?_, h.2⟩
  · have := h.1.1.2
    simp only [badInitB, List.any_eq_false, Bool.not_eq_true', Bool.not_eq_false] at this
    exact this x hx
  · have := h.1.2 l hl
    simp only [badThreadB, List.any_eq_true, not_exists, not_and, Bool.not_eq_true', Bool.not_eq_false] at this
    exact this x hx
theorem tk_test {t : Test} (h : ValT t) : ∀ r ∈ testW t, ∀ w ∈ r, GoodTk w := by
  obtain ⟨hn, hi, hx, hc⟩ := h.parts
  have c1 : GoodTk [123] := tk_const (by decide)
  have c2 : GoodTk [125] := tk_const (by decide)
  have c3 : GoodTk [59] := tk_const (by decide)
  have c4 : GoodTk [61] := tk_const (by decide)
  intro r hr
  unfold testW at hr
  rcases List.mem_cons.1 hr with rfl | hr
  · simp only [List.forall_mem_cons]
    exact ⟨tk_word (by decide) (by decide), tk_name hn, c1, by simp⟩
  rcases List.mem_append.1 hr with hr | hr
  rotate_left
  · simp only [List.mem_cons, List.not_mem_nil, or_false] at hr
    subst hr
    simp only [List.forall_mem_cons]
    exact ⟨c2, by simp⟩
  rcases List.mem_append.1 hr with hr | hr
  rotate_left
  · split at hr
    · cases hr
    · rename_i h0
      simp only [List.mem_cons, List.not_mem_nil, or_false] at hr
      subst hr
      obtain ⟨_, _, hrows⟩ := rows_ok h0 hc
      intro w hw
      unfold condW at hw
      rcases List.mem_append.1 hw with hw | hw
      rotate_left
      · simp only [List.mem_cons, List.not_mem_nil, or_false] at hw
        subst hw; exact c3
      rcases List.mem_append.1 hw with hw | hw
      · simp only [List.mem_cons, List.not_mem_nil, or_false] at hw
        subst hw
        unfold askW
        split <;> exact tk_word (by decide) (by decide)
      · refine tk_sep (tk_const (by decide)) ?_ w hw
        intro q hq
        obtain ⟨l, hl, rfl⟩ := List.mem_map.1 hq
        unfold rowW
        refine tk_sep (tk_const (by decide)) ?_
        intro q' hq'
        obtain ⟨a, ha, rfl⟩ := List.mem_map.1 hq'
        exact tk_atom ((hrows l hl).2 a ha) (h.atoms l hl a ha)
  rcases List.mem_append.1 hr with hr | hr
  · split at hr
    · cases hr
    · rcases List.mem_cons.1 hr with rfl | hr
      · simp only [List.forall_mem_cons]
        exact ⟨tk_word (by decide) (by decide), c1, by simp⟩
      · rcases List.mem_append.1 hr with hr | hr
        · obtain ⟨x, hxm, rfl⟩ := List.mem_map.1 hr
          unfold initW
          simp only [List.forall_mem_cons]
          exact ⟨tk_loc (hi x hxm), c4, tk_num (h.inits x hxm), c3, by simp⟩
        · simp only [List.mem_cons, List.not_mem_nil, or_false] at hr
          subst hr
          simp only [List.forall_mem_cons]
          exact ⟨c2, by simp⟩
  · obtain ⟨l, hl, hr⟩ := List.mem_flatMap.1 hr
    unfold threadW at hr
    rcases List.mem_cons.1 hr with rfl | hr
    · simp only [List.forall_mem_cons]
      exact ⟨tk_word (by decide) (by decide), c1, by simp⟩
    · rcases List.mem_append.1 hr with hr | hr
      · obtain ⟨x, hxm, rfl⟩ := List.mem_map.1 hr
        exact tk_ins (hx l hl x hxm) (h.ins l hl x hxm)
      · simp only [List.mem_cons, List.not_mem_nil, or_false] at hr
        subst hr
        simp only [List.forall_mem_cons]
        exact ⟨c2, by simp⟩
theorem lace_append : ∀ (a b : List (List UInt8 × List UInt8)), laceT (a ++ b) = laceT a ++ laceT b
  | [], b => rfl
  | p :: a, b => by simp only [List.cons_append, laceT, lace_append a b, List.append_assoc]
theorem line_lace : ∀ (r : List (List UInt8)), r ≠ [] → ∃ l, lineW r = laceT l ∧ l.map (·.1) = r ∧ ∀ p ∈ l, p.2 ≠ [] ∧ Blanks p.2
  | [], h => absurd rfl h
  | [w], _ => ⟨[(w, [10])], by simp [lineW, laceT, Lib.join_one], rfl, fun p hp => by simp at hp; subst hp; exact ⟨by simp, rfl⟩⟩
  | w :: v :: r, _ => by
    obtain ⟨l, h1, h2, h3⟩ := line_lace (v :: r) (by simp)
    refine ⟨(w, [32]) :: l, ?_, by rw [List.map_cons, h2], fun p hp => ?_⟩
    · unfold lineW at h1 ⊢
      rw [join_two]
      simp only [laceT, ← h1, List.append_assoc]
    · rcases List.mem_cons.1 hp with rfl | hp
      · exact ⟨by simp, rfl⟩
      · exact h3 p hp
theorem rows_lace : ∀ (rs : List (List (List UInt8))), (∀ r ∈ rs, r ≠ []) → ∃ l, rs.flatMap lineW = laceT l ∧ l.map (·.1) = rs.flatten ∧ ∀ p ∈ l, p.2 ≠ [] ∧ Blanks p.2
  | [], _ => ⟨[], rfl, rfl, by simp⟩
  | r :: rs, h => by
    obtain ⟨l1, a1, a2, a3⟩ := line_lace r (h r List.mem_cons_self)
    obtain ⟨l2, b1, b2, b3⟩ := rows_lace rs fun q hq => h q (List.mem_cons_of_mem _ hq)
    refine ⟨l1 ++ l2, ?_, ?_, fun p hp => ?_⟩
    · rw [List.flatMap_cons, a1, b1, lace_append]
    · rw [List.map_append, a2, b2, List.flatten_cons]
    · rcases List.mem_append.1 hp with hp | hp
      · exact a3 p hp
      · exact b3 p hp
theorem test_lace {t : Test} (h : ValT t) : ∃ l, testT t = laceT l ∧ l.map (·.1) = wordsT t ∧ GoodLace l := by
  obtain ⟨l, h1, h2, h3⟩ := rows_lace (testW t) (fun r hr => by
    obtain ⟨ws, e, rfl, _⟩ := testW_good h.ok r hr
    simp)
  refine ⟨l, by rw [testT_rows h.ok, h1], h2, fun p hp => ⟨?_, h3 p hp⟩⟩
  have hm : p.1 ∈ (testW t).flatten := by rw [← h2]; exact List.mem_map_of_mem hp
  obtain ⟨r, hr, hw⟩ := List.mem_flatten.1 hm
  exact tk_test h r hr p.1 hw
theorem lace_len : ∀ {l : List (List UInt8 × List UInt8)}, GoodLace l → 2 * l.length ≤ (laceT l).length
  | [], _ => by simp [laceT]
  | p :: l, h => by
    have := lace_len (l := l) fun q hq => h q (List.mem_cons_of_mem _ hq)
    obtain ⟨⟨⟨c, r, hw, _⟩, _⟩, hz, _⟩ := h p List.mem_cons_self
    have h1 : 1 ≤ p.1.length := by rw [hw]; simp
    have h2 : 1 ≤ p.2.length := List.length_pos_iff.2 hz
    simp only [laceT, List.length_append, List.length_cons]
    omega
theorem flat_ge {α β : Type} {f : α → List β} (hf : ∀ a, 1 ≤ (f a).length) : ∀ l : List α, l.length ≤ (l.flatMap f).length
  | [] => by simp
  | a :: l => by
    have := flat_ge hf l
    have := hf a
    simp only [List.flatMap_cons, List.length_append, List.length_cons]
    omega
theorem flat_mem {α β : Type} {f : α → List β} {a : α} : ∀ {l : List α}, a ∈ l → (f a).length ≤ (l.flatMap f).length
  | b :: l, h => by
    simp only [List.flatMap_cons, List.length_append]
    rcases List.mem_cons.1 h with rfl | h
    · omega
    · have := flat_mem (f := f) h
      omega
theorem sep_ge (s : List UInt8) : ∀ (l : List (List (List UInt8))), (∀ r ∈ l, 1 ≤ r.length) → l.length ≤ (sepW s l).length ∧ ∀ r ∈ l, r.length ≤ (sepW s l).length
  | [], _ => by simp [sepW]
  | [r], h => by simpa [sepW] using h
  | r :: r' :: l, h => by
    obtain ⟨h1, h2⟩ := sep_ge s (r' :: l) fun x hx => h x (List.mem_cons_of_mem _ hx)
    have hr := h r (by simp)
    simp only [sepW, List.length_append, List.length_cons, List.length_nil] at h1 ⊢
    refine ⟨by omega, fun x hx => ?_⟩
    rcases List.mem_cons.1 hx with rfl | hx
    · omega
    · have := h2 x hx
      omega
theorem insW_ge (x : Ins) : 1 ≤ (insW x).length := by simp [insW]
theorem initW_ge (x : Init) : 1 ≤ (initW x).length := by simp [initW]
theorem atomW_ge (a : Atom) : 1 ≤ (atomW a).length := by simp [atomW]
theorem words_ge {t : Test} (h : okB t = true) : t.inits.length ≤ (wordsT t).length ∧ t.threads.length ≤ (wordsT t).length ∧ (∀ l ∈ t.threads, l.length ≤ (wordsT t).length) ∧ t.rows.length ≤ (wordsT t).length ∧ ∀ l ∈ t.rows, l.length ≤ (wordsT t).length := by
  have hc : okCondB t.kind t.rows = true := by
    simp only [okB, Bool.and_eq_true] at h
    exact h.2
  have e : (wordsT t).length = 3 + ((if t.inits = [] then [] else [[105, 110, 105, 116], [123]] :: (t.inits.map initW ++ [[[125]]])).flatten).length + (t.threads.flatMap fun l => (threadW l).flatten).length + ((if t.kind = 0 then [] else [condW t.kind t.rows]).flatten).length + 1 := by
    unfold wordsT testW
    simp only [List.flatten_cons, List.flatten_append, List.length_append, List.length_cons, List.length_nil, List.flatten_nil, List.flatMap]
    rw [List.flatten_flatten, List.map_map]
    simp only [Function.comp_def]
    omega
  have h1 : t.inits.length ≤ ((if t.inits = [] then [] else [[105, 110, 105, 116], [123]] :: (t.inits.map initW ++ [[[125]]])).flatten).length := by
    split
    · rename_i h0; rw [h0]; simp
    · have := flat_ge initW_ge t.inits
      simp only [List.flatMap] at this
      simp only [List.flatten_cons, List.flatten_append, List.length_append]
      omega
  have hth : ∀ l : List Ins, l.length ≤ ((threadW l).flatten).length ∧ 1 ≤ ((threadW l).flatten).length := by
    intro l
    have := flat_ge insW_ge l
    simp only [List.flatMap] at this
    unfold threadW
    simp only [List.flatten_cons, List.flatten_append, List.length_append, List.length_cons, List.length_nil]
    omega
  have h2 := flat_ge (f := fun l => (threadW l).flatten) (fun l => (hth l).2) t.threads
  have h3 : ∀ l ∈ t.threads, l.length ≤ (t.threads.flatMap fun l => (threadW l).flatten).length := fun l hl => Nat.le_trans (hth l).1 (flat_mem (f := fun l => (threadW l).flatten) hl)
  have h4 : t.rows.length ≤ ((if t.kind = 0 then [] else [condW t.kind t.rows]).flatten).length ∧ ∀ l ∈ t.rows, l.length ≤ ((if t.kind = 0 then [] else [condW t.kind t.rows]).flatten).length := by
    by_cases h0 : t.kind = 0
    · unfold okCondB at hc
      rw [if_pos h0] at hc
      have : t.rows = [] := List.eq_nil_of_length_eq_zero (of_decide_eq_true hc)
      rw [this]
      simp
    · obtain ⟨_, _, hrows⟩ := rows_ok h0 hc
      rw [if_neg h0]
      have hrow : ∀ l ∈ t.rows, l.length ≤ (rowW l).length ∧ 1 ≤ (rowW l).length := by
        intro l hl
        have := (sep_ge [38] (l.map atomW) fun r hr => by
          obtain ⟨a, _, rfl⟩ := List.mem_map.1 hr
          exact atomW_ge a).1
        rw [List.length_map] at this
        have h0 : 1 ≤ l.length := List.length_pos_iff.2 (hrows l hl).1
        unfold rowW
        omega
      obtain ⟨s1, s2⟩ := sep_ge [124] (t.rows.map rowW) fun r hr => by
        obtain ⟨l, hl, rfl⟩ := List.mem_map.1 hr
        exact (hrow l hl).2
      rw [List.length_map] at s1
      unfold condW
      simp only [List.flatten_cons, List.flatten_nil, List.append_nil, List.length_append, List.length_cons, List.length_nil]
      refine ⟨by omega, fun l hl => ?_⟩
      have := s2 _ (List.mem_map_of_mem hl)
      have := (hrow l hl).1
      omega
  refine ⟨by omega, by omega, fun l hl => ?_, by omega, fun l hl => ?_⟩
  · have := h3 l hl; omega
  · have := h4.2 l hl; omega
theorem ValT.fit {t : Test} (h : ValT t) (hl : (testT t).length ≤ 8000) : FitT t := by
  obtain ⟨l, h1, h2, h3⟩ := test_lace h
  have h4 := lace_len h3
  rw [← h1] at h4
  have h5 : l.length = (wordsT t).length := by rw [← h2, List.length_map]
  obtain ⟨w1, w2, w3, w4, w5⟩ := words_ge h.ok
  exact ⟨h.ok, h.inits, h.ins, h.atoms, by unfold fuelP; omega, by unfold fuelP; omega, fun l hl => by have := w3 l hl; unfold fuelP; omega, by unfold fuelP; omega, fun l hl => by have := w5 l hl; unfold fuelP; omega⟩
theorem text_reads {t : Test} (h : ValT t) (hl : (testT t).length ≤ 4000) : pTest (testT t) = .ok t := by
  obtain ⟨l, h1, h2, h3⟩ := test_lace h
  have hf := h.fit (by omega)
  rw [h1] at hl ⊢
  exact lace_reads hf h3 h2 hl
end Go.Proofs.YtpfbljkfbjjlkaaGreatDoor

/- A test that a text parses to may be: its words are words, its numbers numbers. -/
namespace Go.Proofs.YtpfbljkfbjjlkaaGreatDoor
open Go Go.Jq
set_option maxRecDepth 100000
set_option linter.unusedSimpArgs false
def PT.PostL {α : Type} (t : PT α) (P : α → Prop) : Prop := ∀ (s : List UInt8) (a : Nat) (x : α) (b : Nat), s.length ≤ 4000 → t.run s a = .ok (x, b) → P x
def WordK (y : List UInt8) : Prop := (∃ c r, y = c :: r ∧ letB c = true ∧ r.all alnB = true) ∧ y.length ≤ 4000
theorem runL_alls : ∀ r : List UInt8, (r.take (runL r)).all alnB = true
  | [] => rfl
  | c :: r => by
    simp only [runL]
    split
    · rename_i h
      rw [Nat.add_comm, List.take_succ_cons, List.all_cons, h, runL_alls r]; rfl
    · rfl
theorem cur_word {s : List UInt8} {a : Nat} (hs : s.length ≤ 4000) (h : (curT s a).kd = 1) : WordK (curT s a).tx := by
  unfold curT nextW at h ⊢
  have hl : (s.drop (skipA s a)).length ≤ 4000 := by rw [List.length_drop]; omega
  generalize s.drop (skipA s a) = l at h hl ⊢
  cases l with
  | nil => simp only [tokAt] at h; cases h
  | cons c r =>
    simp only [tokAt] at h ⊢
    split at h
    · rename_i hc
      rw [if_pos hc]
      refine ⟨⟨c, _, rfl, hc, runL_alls r⟩, ?_⟩
      have := runL_le r
      simp only [List.length_cons, List.length_take] at hl ⊢
      omega
    · split at h
      · split at h
        · cases h
        · cases h
      · split at h
        · cases h
        · cases h
theorem WordK.word {y : List UInt8} (h : WordK y) : isWordB y = true := by
  obtain ⟨⟨c, r, rfl, hc, hr⟩, _⟩ := h
  rw [isWord_all]
  · simp
  · intro i hi
    cases i with
    | zero =>
      simp only [letB, Bool.and_eq_true, decide_eq_true_eq] at hc
      simp only [List.getD_cons_zero, wordAt, Bool.or_eq_true, Bool.and_eq_true, decide_eq_true_eq]
      exact .inl hc
    | succ i =>
      have hi' : i < r.length := by simpa using hi
      have e : (c :: r).getD (i + 1) 0 = r[i] := by simp [hi']
      have := List.all_eq_true.1 hr r[i] (List.getElem_mem hi')
      rw [e]
      simp only [alnB, letB, digB, Bool.or_eq_true, Bool.and_eq_true, decide_eq_true_eq] at this
      simp only [wordAt, Bool.or_eq_true, Bool.and_eq_true, decide_eq_true_eq]
      rcases this with h1 | h1
      · exact .inl h1
      · exact .inr ⟨⟨by omega, h1.1⟩, h1.2⟩
theorem postL_bind {α β : Type} {t : PT α} {f : α → PT β} {P : α → Prop} {Q : β → Prop} (h : t.PostL P) (h' : ∀ x, P x → (f x).PostL Q) : (t.bind f).PostL Q := by
  intro s a y b hs hr
  rw [PT.run_bind] at hr
  cases ht : t.run s a with
  | error e => rw [ht] at hr; cases hr
  | ok p =>
    obtain ⟨x, c⟩ := p
    rw [ht] at hr
    exact h' x (h s a x c hs ht) s c y b hs hr
theorem postL_of {α : Type} {t : PT α} {P : α → Prop} (h : t.Post P) : t.PostL P := fun s a x b _ hr => h s a x b hr
theorem postL_true {α : Type} (t : PT α) : t.PostL fun _ => True := fun _ _ _ _ _ _ => trivial
theorem postL_ret {α : Type} {x : α} {P : α → Prop} (h : P x) : (PT.ret x).PostL P := postL_of (post_ret h)
theorem postL_bad {α : Type} {c : Int} {P : α → Prop} : (PT.bad c : PT α).PostL P := postL_of post_bad
theorem postL_eat {α : Type} {k : PT α} {P : α → Prop} (h : k.PostL P) : (PT.eat k).PostL P := by
  intro s a x b hs hr
  simp only [PT.run] at hr
  split at hr
  · exact h _ _ _ _ hs hr
  · cases hr
theorem postL_cur {α : Type} {k : Int → List UInt8 → PT α} {P : α → Prop} (h : ∀ d y, (d = 1 → WordK y) → (k d y).PostL P) : (PT.cur k).PostL P :=
  fun s a x b hs hr => h _ _ (fun hd => cur_word hs hd) s a x b hs hr
theorem postL_take {α : Type} {x : List UInt8} {yes no : PT α} {P : α → Prop} (h : yes.PostL P) (h' : no.PostL P) : (tTake x yes no).PostL P := by
  refine postL_cur fun d y _ => ?_
  split
  · exact postL_eat h
  · exact h'
theorem postL_many {α : Type} {one : PT α} {P : α → Prop} (h : one.PostL P) : ∀ f, (tMany one f).PostL fun l => ∀ x ∈ l, P x
  | 0 => postL_bad
  | f + 1 => postL_take (postL_ret (by simp)) (postL_bind h fun x hx => postL_bind (postL_many h f) fun l hl => postL_ret (fun y hy => by
      rcases List.mem_cons.1 hy with rfl | hy
      · exact hx
      · exact hl y hy))
theorem postL_threads {P : Ins → Prop} (h : tInsE.PostL P) : ∀ f, (tThreads f).PostL fun l => ∀ t ∈ l, ∀ x ∈ t, P x
  | 0 => postL_bad
  | f + 1 => postL_take (postL_bind (postL_bind (postL_true _) fun _ _ => postL_many h fuelP) fun x hx => postL_bind (postL_threads h f) fun l hl => postL_ret (fun y hy => by
      rcases List.mem_cons.1 hy with rfl | hy
      · exact hx
      · exact hl y hy)) (postL_ret (by simp))
theorem postL_row {P : Atom → Prop} (h : tAtom.PostL P) : ∀ f, (tRow f).PostL fun l => ∀ x ∈ l, P x
  | 0 => postL_bad
  | f + 1 => postL_take (postL_bind h fun x hx => postL_bind (postL_row h f) fun l hl => postL_ret (fun y hy => by
      rcases List.mem_cons.1 hy with rfl | hy
      · exact hx
      · exact hl y hy)) (postL_ret (by simp))
theorem postL_rows {P : Atom → Prop} (h : tAtom.PostL P) : ∀ f, (tRows f).PostL fun l => l ≠ [] ∧ ∀ t ∈ l, t ≠ [] ∧ ∀ x ∈ t, P x
  | 0 => postL_bad
  | f + 1 => postL_bind h fun x hx => postL_bind (postL_row h fuelP) fun l hl => by
      have hxl : x :: l ≠ [] ∧ ∀ y ∈ x :: l, P y := ⟨by simp, fun y hy => by
        rcases List.mem_cons.1 hy with rfl | hy
        · exact hx
        · exact hl y hy⟩
      exact postL_take (postL_bind (postL_rows h f) fun r hr => postL_ret ⟨by simp, fun y hy => by
        rcases List.mem_cons.1 hy with rfl | hy
        · exact hxl
        · exact hr.2 y hy⟩) (postL_ret ⟨by simp, fun y hy => by
          simp only [List.mem_cons, List.not_mem_nil, or_false] at hy
          subst hy
          exact hxl⟩)
theorem postL_word : tWord.PostL WordK := postL_cur fun d y hy => by
  split
  · rename_i h; exact postL_eat (postL_ret (hy h))
  · exact postL_bad
theorem postL_num : tNum.PostL I64 := postL_cur fun d y _ => by
  split
  · exact postL_eat (postL_ret (parseW_I64 y))
  · exact postL_bad
theorem postL_loc : (tNamed locN).PostL fun n => isLocB n = true := postL_cur fun d y hy => by
  split
  · rename_i hd
    obtain ⟨⟨c, r, rfl, hc, _⟩, _⟩ := hy hd
    split
    · rename_i n hn
      refine postL_eat (postL_ret ?_)
      unfold locN at hn
      split at hn
      · have e := Option.some.inj hn
        simp only [List.getD_cons_zero] at e
        simp only [letB, Bool.and_eq_true, decide_eq_true_eq] at hc
        simp only [isLocB, Bool.and_eq_true, decide_eq_true_eq]
        omega
      · cases hn
    · exact postL_bad
  · exact postL_bad
theorem postL_reg : (tNamed regN).PostL fun n => isRegB n = true := postL_cur fun d y _ => by
  split
  · split
    · rename_i n hn
      refine postL_eat (postL_ret ?_)
      unfold regN at hn
      split at hn
      · rename_i hh
        have e := Option.some.inj hn
        simp only [isRegB, Bool.and_eq_true, decide_eq_true_eq]
        omega
      · cases hn
    · exact postL_bad
  · exact postL_bad
def OpdK (o : Opnd) : Prop := isOpB o = true ∧ I64 o.reg ∧ I64 o.value
theorem reg_i64 {n : Int} (h : isRegB n = true) : I64 n := by
  simp only [isRegB, Bool.and_eq_true, decide_eq_true_eq] at h
  unfold I64; omega
theorem i64_0 : I64 0 := by unfold I64; omega
theorem i64_m1 : I64 (-1) := by unfold I64; omega
theorem postL_opd : tOpd.PostL OpdK := postL_cur fun d y _ => by
  split
  · exact postL_bind postL_num fun n hn => postL_ret ⟨by simp [isOpB], i64_m1, hn⟩
  · exact postL_bind postL_reg fun n hn => postL_ret ⟨by simp [isOpB, hn], reg_i64 hn, i64_0⟩
def InsK (x : Ins) : Prop := okInsB x = true ∧ I64i x
theorem opFrom_range (s : List UInt8) : ∀ (f i : Nat), i + f ≤ 12 → 0 ≤ (opFrom s i f).1 ∧ (opFrom s i f).1 ≤ 11
  | 0, i, _ => by simp [opFrom]
  | f + 1, i, h => by
    have ih := opFrom_range s f (i + 1) (by omega)
    unfold opFrom
    repeat' split
    all_goals first
      | exact ih
      | (simp only; omega)
theorem opFrom_pos (s : List UInt8) : ∀ (f i : Nat), (opFrom s i f).2 = true → 0 < (opFrom s i f).1
  | 0, i, h => by simp [opFrom] at h
  | f + 1, i, h => by
    by_cases hh : 0 < i ∧ signsT.getD i [] = s
    · rw [opFrom, if_pos hh]
      show (0 : Int) < (i : Int)
      omega
    · rw [opFrom, if_neg hh] at h ⊢
      exact opFrom_pos s f (i + 1) h
theorem insK_store {l : Int} {x : Opnd} (hl : isLocB l = true) (hx : OpdK x) : InsK ⟨1, 0, l, x, 0, ⟨0, 0⟩, 0⟩ := by
  refine ⟨?_, i64_0, hx.2.1, hx.2.2, i64_0, i64_0, i64_0⟩
  simp [okInsB, hl, hx.1, eqIns]
theorem insK_load {r l : Int} (hr : isRegB r = true) (hl : isLocB l = true) : InsK ⟨2, r, l, ⟨0, 0⟩, 0, ⟨0, 0⟩, 0⟩ := by
  refine ⟨?_, reg_i64 hr, i64_0, i64_0, i64_0, i64_0, i64_0⟩
  simp [okInsB, hl, hr, eqIns]
theorem insK_cas {r l : Int} {x y : Opnd} (hr : isRegB r = true) (hl : isLocB l = true) (hx : OpdK x) (hy : OpdK y) : InsK ⟨4, r, l, x, 0, y, 0⟩ := by
  refine ⟨?_, reg_i64 hr, hx.2.1, hx.2.2, hy.2.1, hy.2.2, i64_0⟩
  simp [okInsB, hl, hr, hx.1, hy.1, eqIns]
theorem insK_set {r op : Int} {x y : Opnd} (hr : isRegB r = true) (hx : OpdK x) (hy : OpdK y) (h0 : 0 < op) (h1 : op ≤ 11) : InsK ⟨5, r, 0, x, op, y, 0⟩ := by
  refine ⟨?_, reg_i64 hr, hx.2.1, hx.2.2, hy.2.1, hy.2.2, i64_0⟩
  have h2 : 0 ≤ op := by omega
  simp [okInsB, hr, hx.1, hy.1, eqIns, h0, h1, h2]
theorem insK_mov {r : Int} {x : Opnd} (hr : isRegB r = true) (hx : OpdK x) : InsK ⟨5, r, 0, x, 0, ⟨-1, 0⟩, 0⟩ := by
  refine ⟨?_, reg_i64 hr, hx.2.1, hx.2.2, i64_m1, i64_0, i64_0⟩
  have h1 : isOpB ⟨-1, 0⟩ = true := by decide
  simp [okInsB, hr, hx.1, eqIns, h1]
theorem insK_skip {n : Int} {x y : Opnd} (hn : 0 ≤ n) (hi : I64 n) (hx : OpdK x) (hy : OpdK y) : InsK ⟨6, 0, 0, x, 0, y, n⟩ := by
  refine ⟨?_, i64_0, hx.2.1, hx.2.2, hy.2.1, hy.2.2, hi⟩
  simp [okInsB, hn, hx.1, hy.1, eqIns]
theorem postL_right {r : Int} (hr : isRegB r = true) : (tRight r).PostL InsK := by
  refine postL_take (postL_bind postL_loc fun l hl => postL_ret (insK_load hr hl)) ?_
  refine postL_take (postL_bind postL_loc fun l hl => postL_bind postL_opd fun x hx => postL_bind postL_opd fun y hy => postL_ret (insK_cas hr hl hx hy)) ?_
  refine postL_bind postL_opd fun x hx => postL_cur fun d y _ => ?_
  split
  · rename_i h
    refine postL_eat (postL_bind postL_opd fun z hz => postL_ret (insK_set hr hx hz ?_ ?_))
    · exact opFrom_pos y 12 0 h.2
    · exact (opFrom_range y 12 0 (by omega)).2
  · exact postL_ret (insK_mov hr hx)
theorem postL_ins : tIns.PostL InsK := by
  refine postL_take (postL_bind postL_loc fun l hl => postL_bind postL_opd fun x hx => postL_ret (insK_store hl hx)) ?_
  refine postL_take (postL_ret ⟨by decide, i64_0, i64_0, i64_0, i64_0, i64_0, i64_0⟩) ?_
  refine postL_take ?_ (postL_bind postL_reg fun r hr => postL_bind (postL_true _) fun _ _ => postL_right hr)
  intro s a x b hs hrun
  rw [PT.run] at hrun
  split at hrun
  · cases hrun
  · rename_i hd
    rw [PT.run_bind] at hrun
    cases hn : tNum.run s a with
    | error e => rw [hn] at hrun; cases hrun
    | ok p =>
      obtain ⟨n, c⟩ := p
      rw [hn] at hrun
      have hn0 : 0 ≤ n ∧ I64 n := by
        unfold tNum at hn
        rw [PT.run] at hn
        split at hn
        · rename_i h2
          rw [PT.run] at hn
          split at hn
          · simp only [PT.run, Except.ok.injEq, Prod.mk.injEq] at hn
            rw [← hn.1]
            refine ⟨?_, parseW_I64 _⟩
            rcases Int.lt_or_le (parseW (curT s a).tx).1 0 with h | h
            · exact absurd ⟨h2, h⟩ hd
            · exact h
          · cases hn
        · cases hn
      have key : ((tMust wIf).bind fun _ => tOpd.bind fun x => (tMust [61, 61]).bind fun _ => tOpd.bind fun y => (PT.ret (⟨6, 0, 0, x, 0, y, n⟩ : Ins))).PostL InsK :=
        postL_bind (postL_true _) fun _ _ => postL_bind postL_opd fun x hx => postL_bind (postL_true _) fun _ _ => postL_bind postL_opd fun y hy => postL_ret (insK_skip hn0.1 hn0.2 hx hy)
      exact key s c x b hs hrun
theorem postL_insE : tInsE.PostL InsK := postL_bind postL_ins fun x hx => postL_bind (postL_true _) fun _ _ => postL_ret hx
def AtomK (a : Atom) : Prop := okAtomB a = true ∧ I64a a
theorem postL_who : tWho.PostL fun x => ∀ n, I64 n → AtomK { x with value := n } := postL_cur fun d y _ => by
  split
  · split
    · exact postL_bad
    · rename_i hr
      refine postL_eat (postL_bind (postL_true _) fun _ _ => postL_bind postL_reg fun r hreg => postL_ret fun n hn => ?_)
      have h0 : 0 ≤ (parseW y).1 ∧ (parseW y).1 ≤ 9 := by omega
      generalize (parseW y).1 = m at h0
      have hm : ¬ m = -1 := by omega
      refine ⟨?_, by unfold I64; simp only; omega, reg_i64 hreg, hn⟩
      simp [okAtomB, hm, h0.1, h0.2, hreg]
  · refine postL_bind postL_loc fun l hl => postL_ret fun n hn => ⟨?_, i64_m1, i64_0, hn⟩
    simp [okAtomB, hl]
theorem postL_atom : tAtom.PostL AtomK := postL_bind postL_who fun x hx => postL_bind (postL_true _) fun _ _ => postL_bind postL_num fun n hn => postL_ret (hx n hn)
def InitK (x : Init) : Prop := isLocB x.loc = true ∧ I64 x.value
theorem postL_init : tInit.PostL InitK := postL_bind postL_loc fun l hl => postL_bind (postL_true _) fun _ _ => postL_bind postL_num fun n hn => postL_bind (postL_true _) fun _ _ => postL_ret ⟨hl, hn⟩
structure ParsedT (t : Test) : Prop where
  val : ValT t
  name : t.name.length ≤ 4000
  lens : Lens t
theorem parsed_run : tTest.PostL ParsedT := by
  refine fun s a t b hs hr => ?_
  have hl := lens_run s a t b hr
  have key : tTest.PostL fun t => ValT t ∧ t.name.length ≤ 4000 := by
    refine postL_bind (postL_true _) fun _ _ => postL_bind postL_word fun n hn => postL_bind (postL_true _) fun _ _ => ?_
    refine postL_bind (P := fun l => ∀ x ∈ l, InitK x) (postL_take (postL_bind (postL_true _) fun _ _ => postL_many postL_init fuelP) (postL_ret (by simp))) fun i hi => ?_
    refine postL_bind (postL_threads postL_insE fuelP) fun th hth => ?_
    refine postL_bind (P := fun c => okCondB c.1 c.2 = true ∧ ∀ l ∈ c.2, ∀ x ∈ l, AtomK x) ?_ fun c hc => postL_bind (postL_true _) fun _ _ => postL_cur fun d y _ => ?_
    · have ask : ∀ k, k = 1 ∨ k = 2 → (tAsk k).PostL fun c => okCondB c.1 c.2 = true ∧ ∀ l ∈ c.2, ∀ x ∈ l, AtomK x := fun k hk => postL_bind (postL_rows postL_atom fuelP) fun r hr => postL_bind (postL_true _) fun _ _ => postL_ret (by
        refine ⟨?_, fun l hl => (hr.2 l hl).2⟩
        have hk0 : ¬ k = 0 := by omega
        have hb : r.any badRowB = false := by
          rw [List.any_eq_false]
          intro l hl
          obtain ⟨h1, h2⟩ := hr.2 l hl
          unfold badRowB
          simp only [Bool.or_eq_true, decide_eq_true_eq, List.any_eq_true, not_or, not_exists, not_and]
          exact ⟨fun h => h1 (List.eq_nil_of_length_eq_zero h), fun a ha => by simp [(h2 a ha).1]⟩
        have hp : 0 < r.length := List.length_pos_iff.2 hr.1
        simp only [okCondB, if_neg hk0, hb, Bool.not_false, Bool.and_true, Bool.and_eq_true, Bool.or_eq_true, decide_eq_true_eq]
        exact ⟨hk, hp⟩)
      exact postL_take (ask 1 (.inl rfl)) (postL_take (ask 2 (.inr rfl)) (postL_ret ⟨by decide, by simp⟩))
    · split
      · refine postL_ret ⟨⟨?_, fun x hx => (hi x hx).2, fun l hl x hx => (hth l hl x hx).2, fun l hl a ha => (hc.2 l hl a ha).2⟩, hn.2⟩
        have h1 : badInitB i = false := by
          unfold badInitB
          rw [List.any_eq_false]
          intro x hx
          simp [(hi x hx).1]
        have h2 : th.any badThreadB = false := by
          rw [List.any_eq_false]
          intro l hl
          unfold badThreadB
          simp only [List.any_eq_true, not_exists, not_and]
          intro x hx
          simp [(hth l hl x hx).1]
        simp only [okB, hn.word, h1, h2, hc.1]
        rfl
      · exact postL_bad
  obtain ⟨h1, h2⟩ := key s a t b hs hr
  exact ⟨h1, h2, hl⟩
theorem pTest_parsed {s : List UInt8} {t : Test} (ht : pTest s = .ok t) : ParsedT t := by
  unfold pTest at ht
  split at ht
  · cases ht
  · rename_i hs
    split at ht
    · rename_i a _
      split at ht
      · rename_i t' b hb
        cases ht
        exact parsed_run s a t b (by omega) hb
      · cases ht
    · cases ht
end Go.Proofs.YtpfbljkfbjjlkaaGreatDoor

/- Which parts of a test may be, told without a heap: words, locations, registers, operands. -/
namespace Go.Proofs.YtpfbljkfbjjlkaaGreatDoor
open Go Go.Jq
set_option maxRecDepth 100000
set_option linter.unusedSimpArgs false
theorem isLoc_pure (n : Int) : Pure Tryz.prog 76 [.d (.int .i64 n)] (.d (.bool (isLocB n))) := by
  refine acalls_of Tryz.func76 ac76_ok Tryz.ntmps76 Tryz.results76 rfl ?_
  unfold ac76
  refine bwp_seq fun K hK => bwp_region rfl ?_
  simp only [go_sem, ↓reduceIte]
  refine hK _ ?_; clear hK
  by_cases h : 97 ≤ n
  · refine bwp_seq fun K hK => bwp_region rfl ?_
    simp only [go_sem, ↓reduceIte, h]
    refine hK _ ?_; clear hK
    refine bwp_ret ?_
    simp only [go_sem]
    refine aend_ret _ rfl rfl ⟨?_, rfl⟩
    simp [fget, isLocB, h]
  · refine bwp_seq fun K hK => bwp_region rfl ?_
    simp only [go_sem, ↓reduceIte, h]
    refine hK _ ?_; clear hK
    refine bwp_ret ?_
    simp only [go_sem]
    refine aend_ret _ rfl rfl ⟨?_, rfl⟩
    simp [fget, isLocB, h]
theorem isReg_pure (n : Int) : Pure Tryz.prog 138 [.d (.int .i64 n)] (.d (.bool (isRegB n))) := by
  refine acalls_of Tryz.func138 ac138_ok Tryz.ntmps138 Tryz.results138 rfl ?_
  unfold ac138
  refine bwp_seq fun K hK => bwp_region rfl ?_
  simp only [go_sem, ↓reduceIte]
  refine hK _ ?_; clear hK
  by_cases h : 0 ≤ n
  · refine bwp_seq fun K hK => bwp_region rfl ?_
    simp only [go_sem, ↓reduceIte, h]
    refine hK _ ?_; clear hK
    refine bwp_ret ?_
    simp only [go_sem]
    refine aend_ret _ rfl rfl ⟨?_, rfl⟩
    simp [fget, isRegB, h]
  · refine bwp_seq fun K hK => bwp_region rfl ?_
    simp only [go_sem, ↓reduceIte, h]
    refine hK _ ?_; clear hK
    refine bwp_ret ?_
    simp only [go_sem]
    refine aend_ret _ rfl rfl ⟨?_, rfl⟩
    simp [fget, isRegB, h]
theorem isOp_pure (o : Opnd) : Pure Tryz.prog 137 [.agg (o.cells.map .d)] (.d (.bool (isOpB o))) := by
  refine acalls_of Tryz.func137 ac137_ok Tryz.ntmps137 Tryz.results137 rfl ?_
  unfold ac137
  refine bwp_seq fun K hK => bwp_region rfl ?_
  simp only [go_sem, ↓reduceIte, Opnd.cells]
  refine hK _ ?_; clear hK
  by_cases h : o.reg = -1
  · refine bwp_seq fun K hK => bwp_region rfl ?_
    simp only [go_sem, ↓reduceIte, h]
    refine hK _ ?_; clear hK
    refine bwp_ret ?_
    simp only [go_sem]
    refine aend_ret _ rfl rfl ⟨?_, rfl⟩
    simp [fget, isOpB, h]
  · refine bwp_seq fun K hK => bwp_region rfl ?_
    simp only [go_sem, ↓reduceIte, h]
    refine callK_pure (isReg_pure o.reg) rfl rfl ?_
    cases h2 : isRegB o.reg
    · simp only [go_sem, ↓reduceIte]
      refine hK _ ?_; clear hK
      refine bwp_ret ?_
      simp only [go_sem]
      refine aend_ret _ rfl rfl ⟨?_, rfl⟩
      simp [fget, isOpB, h, h2]
    · simp only [go_sem, ↓reduceIte]
      refine hK _ ?_; clear hK
      refine bwp_ret ?_
      simp only [go_sem]
      refine aend_ret _ rfl rfl ⟨?_, rfl⟩
      simp [fget, isOpB, h, h2]
def wdS (s : List UInt8) (i : Nat) : St := ⟨[(7, .d (.int .i64 i)), (6, .d (.int .i64 s.length)), (0, .d (.str s)), (2, .d (.bool false))], [], 0⟩
theorem isWord_pure (s : List UInt8) (hs : s.length ≤ 9223372036854775807) : Pure Tryz.prog 73 [.d (.str s)] (.d (.bool (isWordB s))) := by
  refine acalls_of Tryz.func73 ac73_ok Tryz.ntmps73 Tryz.results73 rfl ?_
  unfold ac73
  refine bwp_seq fun K hK => bwp_region rfl ?_
  simp only [go_sem, ↓reduceIte]
  refine hK _ ?_; clear hK
  refine bwp_seq fun K1 hK1 => ?_
  refine bwp_seq fun K2 hK2 => ?_
  refine bwp_region rfl ?_
  simp only [go_sem, ↓reduceIte]
  refine hK2 _ ?_; clear hK2
  refine bwp_block ?_
  refine bwp_leads (S' := wdS s 0) (Leads.ent [] ⟨by simp [entT, fget, AV.ren, renL, pget, wdS], by simp [entM, pinv, mget, mset, renL, AV.ren, pget, renL_append, -List.map_map, wdS], rfl, rfl⟩) ?_
  refine bwp_countI (fun i => wdS s i) (fun i => ∀ j, j < i → wordAt j (s.getD j 0) = true) s.length (fun j h => by omega) ?_
  intro i hi hp
  unfold ac73L0 wdS
  by_cases hlt : i < s.length
  · have hlt' : (i : Int) < s.length := by omega
    refine bwp_seq fun K hK => bwp_region rfl ?_
    simp only [go_sem, ↓reduceIte, hlt']
    refine hK _ ?_; clear hK
    refine bwp_seq fun K2 hK2 => ?_
    refine bwp_cond true (by simp [ev, fget]) (fun _ => ?_) (fun h => nomatch h)
    refine bwp_skip ?_
    refine hK2 _ ?_; clear hK2
    refine bwp_seq fun K2 hK2 => ?_
    refine bwp_block ?_
    refine bwp_seq fun K hK => bwp_region rfl ?_
    simp only [go_sem, ↓reduceIte]
    refine hK _ ?_; clear hK
    refine bwp_seq fun K hK => bwp_region rfl ?_
    simp only [go_sem, ↓reduceIte, Int.natCast_nonneg, hlt', Int.toNat_natCast]
    refine hK _ ?_; clear hK
    have hc := (s.getD i 0).toNat_lt
    generalize hcd : s.getD i 0 = c at hc
    refine bwp_seq fun K3 hK3 => ?_
    have bad : ∀ t : Fr, fget t 30 = .d (.bool true) → wordAt i c = false → K3 ⟨t, [], 0⟩ := by
      intro t h30 hw
      refine hK3 _ ?_; clear hK3
      refine bwp_cond true (by simp [ev, fget, h30]) (fun _ => ?_) (fun h => nomatch h)
      refine bwp_seq fun K hK => bwp_region rfl ?_
      simp only [go_sem, ↓reduceIte]
      refine hK _ ?_; clear hK
      refine bwp_ret ?_
      simp only [go_sem]
      refine aend_ret _ rfl rfl ⟨?_, rfl⟩
      simp [fget, isWord_at s hlt (by rw [hcd]; exact hw)]
    have good : ∀ t : Fr, fget t 30 = .d (.bool false) → fget t 0 = .d (.str s) → fget t 6 = .d (.int .i64 s.length) → fget t 7 = .d (.int .i64 i) → fget t 2 = .d (.bool false) → wordAt i c = true → K3 ⟨t, [], 0⟩ := by
      intro t h30 h0 h6 h7 h2 hw
      refine hK3 _ ?_; clear hK3
      refine bwp_cond false (by simp [ev, fget, h30]) (fun h => nomatch h) (fun _ => ?_)
      refine bwp_skip ?_
      simp only [go_sem, ↓reduceIte]
      refine hK2 _ ?_; clear hK2
      have hwi : IntKind.i64.wrap ((i : Int) + 1) = ((i + 1 : Nat) : Int) := by rw [wrap_i64 (by omega) (by omega)]; rfl
      refine bwp_region rfl ?_
      simp only [go_sem, ↓reduceIte, h7, hwi]
      refine ⟨hlt, fun j hj => ?_, Leads.ent [] ⟨by simp [wdS, entT, fget, AV.ren, pget, h0, h6, h7, h2], by simp [wdS, entM], rfl, rfl⟩⟩
      by_cases hji : j = i
      · subst hji; rw [hcd]; exact hw
      · exact hp j (by omega)
    have hz : ((i : Int) = 0) = (i = 0) := by apply propext; omega
    by_cases h1 : (c.toNat : Int) < 97
    · by_cases h2 : i = 0
      · have h2' : ((i : Nat) : Int) = 0 := by omega
        refine bwp_region rfl ?_
        simp only [go_sem, ↓reduceIte, h1, h2']
        exact bad _ rfl (by unfold wordAt; have : ¬ 97 ≤ c.toNat := by omega
                            simp [h2, this])
      · have h2' : ¬ ((i : Nat) : Int) = 0 := by omega
        by_cases h3 : (c.toNat : Int) < 48
        · refine bwp_region rfl ?_
          simp only [go_sem, ↓reduceIte, h1, h2', h3]
          exact bad _ rfl (by unfold wordAt; have e1 : ¬ 97 ≤ c.toNat := by omega
                              have e2 : ¬ 48 ≤ c.toNat := by omega
                              simp [e1, e2])
        · by_cases h4 : (57 : Int) < c.toNat
          · refine bwp_region rfl ?_
            simp only [go_sem, ↓reduceIte, h1, h2', h3, h4]
            exact bad _ rfl (by unfold wordAt; have e1 : ¬ 97 ≤ c.toNat := by omega
                                have e2 : ¬ c.toNat ≤ 57 := by omega
                                simp [e1, e2])
          · refine bwp_region rfl ?_
            simp only [go_sem, ↓reduceIte, h1, h2', h3, h4]
            exact good _ rfl rfl rfl rfl rfl (by unfold wordAt; have e1 : 48 ≤ c.toNat := by omega
                                                 have e2 : c.toNat ≤ 57 := by omega
                                                 simp [e1, e2, h2])
    · by_cases h5 : (122 : Int) < c.toNat
      · by_cases h2 : i = 0
        · have h2' : ((i : Nat) : Int) = 0 := by omega
          refine bwp_region rfl ?_
          simp only [go_sem, ↓reduceIte, h1, h5, h2']
          exact bad _ rfl (by unfold wordAt; have : ¬ c.toNat ≤ 122 := by omega
                              simp [h2, this])
        · have h2' : ¬ ((i : Nat) : Int) = 0 := by omega
          have h3 : ¬ (c.toNat : Int) < 48 := by omega
          have h4 : (57 : Int) < c.toNat := by omega
          refine bwp_region rfl ?_
          simp only [go_sem, ↓reduceIte, h1, h5, h2', h3, h4]
          exact bad _ rfl (by unfold wordAt; have e1 : ¬ c.toNat ≤ 122 := by omega
                              have e2 : ¬ c.toNat ≤ 57 := by omega
                              simp [e1, e2])
      · refine bwp_region rfl ?_
        simp only [go_sem, ↓reduceIte, h1, h5]
        exact good _ rfl rfl rfl rfl rfl (by unfold wordAt; have e1 : 97 ≤ c.toNat := by omega
                                             have e2 : c.toNat ≤ 122 := by omega
                                             simp [e1, e2])
  · have hlt' : ¬ (i : Int) < s.length := by omega
    refine bwp_seq fun K hK => bwp_region rfl ?_
    simp only [go_sem, ↓reduceIte, hlt']
    refine hK _ ?_; clear hK
    refine bwp_seq fun K2 hK2 => ?_
    refine bwp_cond false (by simp [ev, fget]) (fun h => nomatch h) (fun _ => ?_)
    refine bwp_exit ?_
    simp only [go_sem, ↓reduceIte]
    refine hK1 _ ?_; clear hK1
    have hall := isWord_all s fun j hj => hp j (by omega)
    refine bwp_seq fun K hK => bwp_region rfl ?_
    simp only [go_sem, ↓reduceIte]
    refine hK _ ?_; clear hK
    refine bwp_ret ?_
    simp only [go_sem]
    refine aend_ret _ rfl rfl ⟨?_, rfl⟩
    simp [fget, hall]
end Go.Proofs.YtpfbljkfbjjlkaaGreatDoor

/- Which instructions may be, told without a heap. -/
namespace Go.Proofs.YtpfbljkfbjjlkaaGreatDoor
open Go Go.Jq
set_option maxRecDepth 100000
set_option linter.unusedSimpArgs false
set_option maxHeartbeats 4000000 in
theorem fields_pure (x : Ins) : Pure Tryz.prog 109 [.agg (x.cells.map .d), .fn 76 []] (.d (.bool (okInsB x))) := by
  refine acalls_of Tryz.func109 ac109_ok Tryz.ntmps109 Tryz.results109 rfl ?_
  unfold ac109
  refine bwp_seq fun K hK => bwp_region rfl ?_
  simp only [go_sem, ↓reduceIte, Ins.cells]
  refine hK _ ?_; clear hK
  refine bwp_seq fun K hK => bwp_region rfl ?_
  simp only [go_sem, ↓reduceIte]
  refine hK _ ?_; clear hK
  refine bwp_seq fun K hK => bwp_region rfl ?_
  simp only [go_sem, ↓reduceIte]
  refine hK _ ?_; clear hK
  refine bwp_seq fun K1 hK1 => ?_
  have tail : ∀ (t : Fr) (n : Nat) (w : Ins) (ok : Bool), fget t 6 = .d (.bool ok) → fget t 2 = .ptr 0 0 → fget t 5 = .ptr 1 0 → okInsB x = (ok && eqIns x w) → K1 ⟨t, [(0, x.cells.map .d), (1, w.cells.map .d)], n⟩ := by
    intro t n w ok h6 h2 h5 hok
    refine hK1 _ ?_; clear hK1
    refine bwp_seq fun K hK => bwp_region (by simp [mbound]) ?_
    cases ok
    · simp only [go_sem, ↓reduceIte, h6, h2, h5, Ins.cells]
      refine hK _ ?_; clear hK
      refine bwp_ret ?_
      simp only [go_sem]
      refine aend_ret _ rfl rfl ⟨?_, rfl⟩
      simp [fget, hok]
    · simp only [go_sem, ↓reduceIte, h6, h2, h5, Ins.cells]
      refine hK _ ?_; clear hK
      refine bwp_ret ?_
      simp only [go_sem]
      refine aend_ret _ rfl rfl ⟨?_, rfl⟩
      simp [fget, hok, eqIns]
  refine bwp_seq fun K hK => bwp_region rfl ?_
  simp only [go_sem, ↓reduceIte]
  refine hK _ ?_; clear hK
  refine bwp_block ?_
  refine bwp_seq fun K hK => bwp_region rfl ?_
  simp only [go_sem, ↓reduceIte]
  refine hK _ ?_; clear hK
  by_cases h1 : x.kind = 1
  · refine bwp_cond true (by simp [ev, fget, h1]) (fun _ => ?_) (fun h => nomatch h)
    refine bwp_seq fun K hK => bwp_region_draw rfl rfl ?_
    simp only [go_sem, ↓reduceIte]
    refine ⟨rfl, hK _ ?_⟩; clear hK
    refine bwp_region rfl ?_
    simp only [go_sem, ↓reduceIte]
    refine ⟨rfl, callK_pure (isLoc_pure x.loc) rfl rfl ?_⟩
    cases hb : isLocB x.loc
    · simp only [go_sem, ↓reduceIte]
      exact tail _ _ ⟨x.kind, 0, x.loc, x.a, 0, ⟨0, 0⟩, 0⟩ false rfl rfl rfl (by simp [okInsB, h1, hb])
    · simp only [go_sem, ↓reduceIte]
      refine callK_pure (isOp_pure x.a) rfl rfl ?_
      simp only [go_sem, ↓reduceIte]
      exact tail _ _ ⟨x.kind, 0, x.loc, x.a, 0, ⟨0, 0⟩, 0⟩ (isOpB x.a) (by simp [fget]) rfl rfl (by simp [okInsB, h1, hb])
  refine bwp_cond false (by simp [ev, fget, h1]) (fun h => nomatch h) (fun _ => ?_)
  refine bwp_seq fun K hK => bwp_region rfl ?_
  simp only [go_sem, ↓reduceIte]
  refine hK _ ?_; clear hK
  by_cases h2 : x.kind = 2
  · refine bwp_cond true (by simp [ev, fget, h2]) (fun _ => ?_) (fun h => nomatch h)
    refine bwp_seq fun K hK => bwp_region_draw rfl rfl ?_
    simp only [go_sem, ↓reduceIte]
    refine ⟨rfl, hK _ ?_⟩; clear hK
    refine bwp_region rfl ?_
    simp only [go_sem, ↓reduceIte]
    refine ⟨rfl, callK_pure (isLoc_pure x.loc) rfl rfl ?_⟩
    cases hb : isLocB x.loc
    · simp only [go_sem, ↓reduceIte]
      exact tail _ _ ⟨x.kind, x.reg, x.loc, ⟨0, 0⟩, 0, ⟨0, 0⟩, 0⟩ false rfl rfl rfl (by simp [okInsB, h2, hb])
    · simp only [go_sem, ↓reduceIte]
      refine callK_pure (isReg_pure x.reg) rfl rfl ?_
      simp only [go_sem, ↓reduceIte]
      exact tail _ _ ⟨x.kind, x.reg, x.loc, ⟨0, 0⟩, 0, ⟨0, 0⟩, 0⟩ (isRegB x.reg) (by simp [fget]) rfl rfl (by simp [okInsB, h2, hb])
  refine bwp_cond false (by simp [ev, fget, h2]) (fun h => nomatch h) (fun _ => ?_)
  refine bwp_seq fun K hK => bwp_region rfl ?_
  simp only [go_sem, ↓reduceIte]
  refine hK _ ?_; clear hK
  by_cases h3 : x.kind = 3
  · refine bwp_cond true (by simp [ev, fget, h3]) (fun _ => ?_) (fun h => nomatch h)
    refine bwp_skip ?_
    simp only [go_sem, ↓reduceIte]
    exact tail _ _ ⟨x.kind, 0, 0, ⟨0, 0⟩, 0, ⟨0, 0⟩, 0⟩ true rfl rfl rfl (by simp [okInsB, h3])
  refine bwp_cond false (by simp [ev, fget, h3]) (fun h => nomatch h) (fun _ => ?_)
  refine bwp_seq fun K hK => bwp_region rfl ?_
  simp only [go_sem, ↓reduceIte]
  refine hK _ ?_; clear hK
  by_cases h4 : x.kind = 4
  · refine bwp_cond true (by simp [ev, fget, h4]) (fun _ => ?_) (fun h => nomatch h)
    refine bwp_seq fun K hK => bwp_region_draw rfl rfl ?_
    simp only [go_sem, ↓reduceIte]
    refine ⟨rfl, hK _ ?_⟩; clear hK
    refine bwp_region rfl ?_
    simp only [go_sem, ↓reduceIte]
    refine ⟨rfl, callK_pure (isLoc_pure x.loc) rfl rfl ?_⟩
    cases hb : isLocB x.loc
    · simp only [go_sem, ↓reduceIte]
      exact tail _ _ ⟨x.kind, x.reg, x.loc, x.a, 0, x.b, 0⟩ false rfl rfl rfl (by simp [okInsB, h4, hb])
    · simp only [go_sem, ↓reduceIte]
      refine callK_pure (isReg_pure x.reg) rfl rfl ?_
      cases hb2 : isRegB x.reg
      · simp only [go_sem, ↓reduceIte]
        exact tail _ _ ⟨x.kind, x.reg, x.loc, x.a, 0, x.b, 0⟩ false rfl rfl rfl (by simp [okInsB, h4, hb2])
      · simp only [go_sem, ↓reduceIte]
        refine callK_pure (isOp_pure x.a) rfl rfl ?_
        cases hb3 : isOpB x.a
        · simp only [go_sem, ↓reduceIte]
          exact tail _ _ ⟨x.kind, x.reg, x.loc, x.a, 0, x.b, 0⟩ false rfl rfl rfl (by simp [okInsB, h4, hb3])
        · simp only [go_sem, ↓reduceIte]
          refine callK_pure (isOp_pure x.b) rfl rfl ?_
          simp only [go_sem, ↓reduceIte]
          exact tail _ _ ⟨x.kind, x.reg, x.loc, x.a, 0, x.b, 0⟩ (isOpB x.b) (by simp [fget]) rfl rfl (by simp [okInsB, h4, hb, hb2, hb3])
  refine bwp_cond false (by simp [ev, fget, h4]) (fun h => nomatch h) (fun _ => ?_)
  refine bwp_seq fun K hK => bwp_region rfl ?_
  simp only [go_sem, ↓reduceIte]
  refine hK _ ?_; clear hK
  by_cases h5 : x.kind = 5
  · refine bwp_cond true (by simp [ev, fget, h5]) (fun _ => ?_) (fun h => nomatch h)
    refine bwp_seq fun K hK => bwp_region_draw rfl rfl ?_
    simp only [go_sem, ↓reduceIte]
    refine ⟨rfl, hK _ ?_⟩; clear hK
    refine bwp_region rfl ?_
    simp only [go_sem, ↓reduceIte]
    refine callK_pure (isReg_pure x.reg) rfl rfl ?_
    cases hb : isRegB x.reg
    · simp only [go_sem, ↓reduceIte]
      exact tail _ _ ⟨x.kind, x.reg, 0, x.a, x.op, x.b, 0⟩ false rfl rfl rfl (by simp [okInsB, h5, hb])
    · simp only [go_sem, ↓reduceIte]
      refine callK_pure (isOp_pure x.a) rfl rfl ?_
      cases hb3 : isOpB x.a
      · simp only [go_sem, ↓reduceIte]
        exact tail _ _ ⟨x.kind, x.reg, 0, x.a, x.op, x.b, 0⟩ false rfl rfl rfl (by simp [okInsB, h5, hb3])
      · simp only [go_sem, ↓reduceIte]
        refine callK_pure (isOp_pure x.b) rfl rfl ?_
        cases hb4 : isOpB x.b
        · simp only [go_sem, ↓reduceIte]
          exact tail _ _ ⟨x.kind, x.reg, 0, x.a, x.op, x.b, 0⟩ false rfl rfl rfl (by simp [okInsB, h5, hb4])
        · by_cases g1 : 0 ≤ x.op
          · by_cases g2 : x.op ≤ 11
            · by_cases g3 : 0 < x.op
              · simp only [go_sem, ↓reduceIte, g1, g2, g3]
                exact tail _ _ ⟨x.kind, x.reg, 0, x.a, x.op, x.b, 0⟩ true rfl rfl rfl (by simp [okInsB, h5, hb, hb3, hb4, g1, g2, g3])
              · simp only [go_sem, ↓reduceIte, g1, g2, g3]
                exact tail _ _ ⟨x.kind, x.reg, 0, x.a, x.op, x.b, 0⟩ (decide (x.b.reg = -1) && decide (x.b.value = 0)) (by simp [fget]) rfl rfl (by simp [okInsB, h5, hb, hb3, hb4, g1, g2, g3])
            · simp only [go_sem, ↓reduceIte, g1, g2]
              exact tail _ _ ⟨x.kind, x.reg, 0, x.a, x.op, x.b, 0⟩ false rfl rfl rfl (by simp [okInsB, h5, g2])
          · simp only [go_sem, ↓reduceIte, g1]
            exact tail _ _ ⟨x.kind, x.reg, 0, x.a, x.op, x.b, 0⟩ false rfl rfl rfl (by simp [okInsB, h5, g1])
  refine bwp_cond false (by simp [ev, fget, h5]) (fun h => nomatch h) (fun _ => ?_)
  refine bwp_seq fun K hK => bwp_region rfl ?_
  simp only [go_sem, ↓reduceIte]
  refine hK _ ?_; clear hK
  by_cases h6 : x.kind = 6
  · refine bwp_cond true (by simp [ev, fget, h6]) (fun _ => ?_) (fun h => nomatch h)
    refine bwp_seq fun K hK => bwp_region_draw rfl rfl ?_
    simp only [go_sem, ↓reduceIte]
    refine ⟨rfl, hK _ ?_⟩; clear hK
    by_cases g1 : 0 ≤ x.n
    · refine bwp_region rfl ?_
      simp only [go_sem, ↓reduceIte, g1]
      refine callK_pure (isOp_pure x.a) rfl rfl ?_
      cases hb3 : isOpB x.a
      · simp only [go_sem, ↓reduceIte]
        exact tail _ _ ⟨x.kind, 0, 0, x.a, 0, x.b, x.n⟩ false rfl rfl rfl (by simp [okInsB, h6, hb3])
      · simp only [go_sem, ↓reduceIte]
        refine callK_pure (isOp_pure x.b) rfl rfl ?_
        simp only [go_sem, ↓reduceIte]
        exact tail _ _ ⟨x.kind, 0, 0, x.a, 0, x.b, x.n⟩ (isOpB x.b) (by simp [fget]) rfl rfl (by simp [okInsB, h6, hb3, g1])
    · refine bwp_region rfl ?_
      simp only [go_sem, ↓reduceIte, g1]
      exact tail _ _ ⟨x.kind, 0, 0, x.a, 0, x.b, x.n⟩ false rfl rfl rfl (by simp [okInsB, h6, g1])
  refine bwp_cond false (by simp [ev, fget, h6]) (fun h => nomatch h) (fun _ => ?_)
  refine bwp_seq fun K hK => bwp_region rfl ?_
  simp only [go_sem, ↓reduceIte]
  refine hK _ ?_; clear hK
  refine bwp_ret ?_
  simp only [go_sem]
  refine aend_ret _ rfl rfl ⟨?_, rfl⟩
  simp [fget, okInsB, h1, h2, h3, h4, h5, h6]
theorem okIns_pure (x : Ins) : Pure Tryz.prog 72 [.agg (x.cells.map .d)] (.d (.bool (okInsB x))) := by
  refine acalls_of Tryz.func72 ac72_ok Tryz.ntmps72 Tryz.results72 rfl ?_
  unfold ac72
  refine bwp_seq fun K hK => bwp_region rfl ?_
  simp only [go_sem, ↓reduceIte, Ins.cells]
  refine hK _ ?_; clear hK
  refine bwp_seq fun K hK => bwp_region rfl ?_
  simp only [go_sem, ↓reduceIte]
  refine callK_pure (fields_pure x) rfl rfl ?_
  simp only [go_sem, ↓reduceIte]
  refine hK _ ?_; clear hK
  refine bwp_ret ?_
  simp only [go_sem]
  refine aend_ret _ rfl rfl ⟨?_, rfl⟩
  rfl
end Go.Proofs.YtpfbljkfbjjlkaaGreatDoor

/- Which tests may be, told without a heap. -/
namespace Go.Proofs.YtpfbljkfbjjlkaaGreatDoor
open Go Go.Jq
set_option maxRecDepth 100000
set_option linter.unusedSimpArgs false
theorem anyAtoms {gf : Nat} {caps : List AV} (hg : goesB Tryz.prog gf = true) (hcap : inL (fun _ => none) caps = true) {l : List Atom} {X : DV} (hX : IsSl Atom.cells l X) (q : Atom → Bool)
    (hq : ∀ a ∈ l, Pure Tryz.prog gf (.agg ((Atom.cells a).map .d) :: caps) (.d (.bool (q a)))) : Pure Tryz.prog 54 [.d X, .fn gf caps] (.d (.bool (l.any q))) := by
  have h1 : Pure Tryz.prog 100 [.d X, .fn gf caps] _ := indexFunc Tryz.func100 ac100_ok Tryz.ntmps100 rfl Tryz.results100
    (slE_agg (k := 4) atom_len (by omega) hX) hg hcap (fun i hi => by simp [eltA, hi, inB, inL_data]) (p := fun i => (l[i]?.map q).getD false)
    (fun i hi => by simp only [eltA, List.getElem?_eq_getElem hi, Option.map_some, Option.getD_some]; exact hq _ (List.getElem_mem hi))
  have h2 := containsFunc Tryz.func54 ac54_ok Tryz.ntmps54 rfl Tryz.results54 hcap h1
  rw [any_idx] at h2
  exact h2
theorem anyInss {gf : Nat} {caps : List AV} (hg : goesB Tryz.prog gf = true) (hcap : inL (fun _ => none) caps = true) {l : List Ins} {X : DV} (hX : IsSl Ins.cells l X) (q : Ins → Bool)
    (hq : ∀ a ∈ l, Pure Tryz.prog gf (.agg ((Ins.cells a).map .d) :: caps) (.d (.bool (q a)))) : Pure Tryz.prog 70 [.d X, .fn gf caps] (.d (.bool (l.any q))) := by
  have h1 : Pure Tryz.prog 108 [.d X, .fn gf caps] _ := indexFunc Tryz.func108 ac108_ok Tryz.ntmps108 rfl Tryz.results108
    (slE_agg (k := 9) ins_len (by omega) hX) hg hcap (fun i hi => by simp [eltA, hi, inB, inL_data]) (p := fun i => (l[i]?.map q).getD false)
    (fun i hi => by simp only [eltA, List.getElem?_eq_getElem hi, Option.map_some, Option.getD_some]; exact hq _ (List.getElem_mem hi))
  have h2 := containsFunc Tryz.func70 ac70_ok Tryz.ntmps70 rfl Tryz.results70 hcap h1
  rw [any_idx] at h2
  exact h2
theorem anyInits {gf : Nat} {caps : List AV} (hg : goesB Tryz.prog gf = true) (hcap : inL (fun _ => none) caps = true) {l : List Init} {X : DV} (hX : IsSl Init.cells l X) (q : Init → Bool)
    (hq : ∀ a ∈ l, Pure Tryz.prog gf (.agg ((Init.cells a).map .d) :: caps) (.d (.bool (q a)))) : Pure Tryz.prog 74 [.d X, .fn gf caps] (.d (.bool (l.any q))) := by
  have h1 : Pure Tryz.prog 110 [.d X, .fn gf caps] _ := indexFunc Tryz.func110 ac110_ok Tryz.ntmps110 rfl Tryz.results110
    (slE_agg (k := 2) init_len (by omega) hX) hg hcap (fun i hi => by simp [eltA, hi, inB, inL_data]) (p := fun i => (l[i]?.map q).getD false)
    (fun i hi => by simp only [eltA, List.getElem?_eq_getElem hi, Option.map_some, Option.getD_some]; exact hq _ (List.getElem_mem hi))
  have h2 := containsFunc Tryz.func74 ac74_ok Tryz.ntmps74 rfl Tryz.results74 hcap h1
  rw [any_idx] at h2
  exact h2
theorem anyRows {gf : Nat} {caps : List AV} (hg : goesB Tryz.prog gf = true) (hcap : inL (fun _ => none) caps = true) {ls : List (List Atom)} {X : DV} (hX : IsSl2 Atom.cells ls X) (q : List Atom → Bool)
    (hq : ∀ l ∈ ls, ∀ d, IsSl Atom.cells l d → Pure Tryz.prog gf (.d d :: caps) (.d (.bool (q l)))) : Pure Tryz.prog 98 [.d X, .fn gf caps] (.d (.bool (ls.any q))) := by
  obtain ⟨ds, h1, h2⟩ := hX
  have hl := h2.length
  have h3 : Pure Tryz.prog 131 [.d X, .fn gf caps] _ := indexFunc Tryz.func131 ac131_ok Tryz.ntmps131 rfl Tryz.results131
    (slE_one h1) hg hcap (fun i hi => by simp [eltD, hi, inB]) (p := fun i => (ls[i]?.map q).getD false)
    (fun i hi => by
      have hi' : i < ls.length := by omega
      obtain ⟨d, h4, h5⟩ := h2.get i _ (List.getElem?_eq_getElem hi')
      simp only [eltD, h4, List.getElem?_eq_getElem hi', Option.map_some, Option.getD_some]
      exact hq _ (List.getElem_mem hi') _ h5)
  have h4 := containsFunc Tryz.func98 ac98_ok Tryz.ntmps98 rfl Tryz.results98 hcap h3
  rw [hl, any_idx] at h4
  exact h4
theorem anyThreads {gf : Nat} {caps : List AV} (hg : goesB Tryz.prog gf = true) (hcap : inL (fun _ => none) caps = true) {ls : List (List Ins)} {X : DV} (hX : IsSl2 Ins.cells ls X) (q : List Ins → Bool)
    (hq : ∀ l ∈ ls, ∀ d, IsSl Ins.cells l d → Pure Tryz.prog gf (.d d :: caps) (.d (.bool (q l)))) : Pure Tryz.prog 51 [.d X, .fn gf caps] (.d (.bool (ls.any q))) := by
  obtain ⟨ds, h1, h2⟩ := hX
  have hl := h2.length
  have h3 : Pure Tryz.prog 99 [.d X, .fn gf caps] _ := indexFunc Tryz.func99 ac99_ok Tryz.ntmps99 rfl Tryz.results99
    (slE_one h1) hg hcap (fun i hi => by simp [eltD, hi, inB]) (p := fun i => (ls[i]?.map q).getD false)
    (fun i hi => by
      have hi' : i < ls.length := by omega
      obtain ⟨d, h4, h5⟩ := h2.get i _ (List.getElem?_eq_getElem hi')
      simp only [eltD, h4, List.getElem?_eq_getElem hi', Option.map_some, Option.getD_some]
      exact hq _ (List.getElem_mem hi') _ h5)
  have h4 := containsFunc Tryz.func51 ac51_ok Tryz.ntmps51 rfl Tryz.results51 hcap h3
  rw [hl, any_idx] at h4
  exact h4
theorem okAtom_pure (a : Atom) : Pure Tryz.prog 113 [.agg (a.cells.map .d)] (.d (.bool (okAtomB a))) := by
  refine acalls_of Tryz.func113 ac113_ok Tryz.ntmps113 Tryz.results113 rfl ?_
  unfold ac113
  refine bwp_seq fun K hK => bwp_region rfl ?_
  simp only [go_sem, ↓reduceIte, Atom.cells]
  refine hK _ ?_; clear hK
  refine bwp_seq fun K hK => ?_
  refine bwp_seq fun K hK => bwp_region rfl ?_
  simp only [go_sem, ↓reduceIte]
  refine hK _ ?_; clear hK
  by_cases h1 : a.thread = -1
  · refine bwp_cond true (by simp [ev, fget, h1]) (fun _ => ?_) (fun h => nomatch h)
    by_cases h2 : a.reg = 0
    · refine bwp_seq fun K hK => bwp_region rfl ?_
      simp only [go_sem, ↓reduceIte, h2]
      refine callK_pure (isLoc_pure a.loc) rfl rfl ?_
      simp only [go_sem, ↓reduceIte]
      refine hK _ ?_; clear hK
      refine bwp_ret ?_
      simp only [go_sem]
      refine aend_ret _ rfl rfl ⟨?_, rfl⟩
      simp [fget, okAtomB, h1, h2]
    · refine bwp_seq fun K hK => bwp_region rfl ?_
      simp only [go_sem, ↓reduceIte, h2]
      refine hK _ ?_; clear hK
      refine bwp_ret ?_
      simp only [go_sem]
      refine aend_ret _ rfl rfl ⟨?_, rfl⟩
      simp [fget, okAtomB, h1, h2]
  · refine bwp_cond false (by simp [ev, fget, h1]) (fun h => nomatch h) (fun _ => ?_)
    refine bwp_skip ?_
    refine hK _ ?_; clear hK
    by_cases g1 : 0 ≤ a.thread
    · by_cases g2 : a.thread ≤ 9
      · by_cases g3 : a.loc = 0
        · refine bwp_seq fun K hK => bwp_region rfl ?_
          simp only [go_sem, ↓reduceIte, g1, g2, g3]
          refine callK_pure (isReg_pure a.reg) rfl rfl ?_
          simp only [go_sem, ↓reduceIte]
          refine hK _ ?_; clear hK
          refine bwp_ret ?_
          simp only [go_sem]
          refine aend_ret _ rfl rfl ⟨?_, rfl⟩
          simp [fget, okAtomB, h1, g1, g2, g3]
        · refine bwp_seq fun K hK => bwp_region rfl ?_
          simp only [go_sem, ↓reduceIte, g1, g2, g3]
          refine hK _ ?_; clear hK
          refine bwp_ret ?_
          simp only [go_sem]
          refine aend_ret _ rfl rfl ⟨?_, rfl⟩
          simp [fget, okAtomB, h1, g1, g2, g3]
      · refine bwp_seq fun K hK => bwp_region rfl ?_
        simp only [go_sem, ↓reduceIte, g1, g2]
        refine hK _ ?_; clear hK
        refine bwp_ret ?_
        simp only [go_sem]
        refine aend_ret _ rfl rfl ⟨?_, rfl⟩
        simp [fget, okAtomB, h1, g1, g2]
    · refine bwp_seq fun K hK => bwp_region rfl ?_
      simp only [go_sem, ↓reduceIte, g1]
      refine hK _ ?_; clear hK
      refine bwp_ret ?_
      simp only [go_sem]
      refine aend_ret _ rfl rfl ⟨?_, rfl⟩
      simp [fget, okAtomB, h1, g1]
theorem badAtom_pure (a : Atom) : Pure Tryz.prog 112 [.agg (a.cells.map .d)] (.d (.bool (!okAtomB a))) := by
  refine acalls_of Tryz.func112 ac112_ok Tryz.ntmps112 Tryz.results112 rfl ?_
  unfold ac112
  refine bwp_seq fun K hK => bwp_region rfl ?_
  simp only [go_sem, ↓reduceIte, Atom.cells]
  refine hK _ ?_; clear hK
  refine bwp_seq fun K hK => bwp_region rfl ?_
  simp only [go_sem, ↓reduceIte]
  refine callK_pure (okAtom_pure a) rfl rfl ?_
  simp only [go_sem, ↓reduceIte]
  refine hK _ ?_; clear hK
  refine bwp_ret ?_
  simp only [go_sem]
  refine aend_ret _ rfl rfl ⟨?_, rfl⟩
  simp [fget]
theorem badRow_pure {l : List Atom} {X : DV} (hX : IsSl Atom.cells l X) : Pure Tryz.prog 111 [.d X] (.d (.bool (badRowB l))) := by
  refine acalls_of Tryz.func111 ac111_ok Tryz.ntmps111 Tryz.results111 rfl ?_
  unfold ac111
  refine bwp_seq fun K hK => bwp_region rfl ?_
  simp only [go_sem, ↓reduceIte]
  refine hK _ ?_; clear hK
  have hl := hX.len
  by_cases h : l.length = 0
  · have h' : (l.length : Int) = 0 := by omega
    refine bwp_seq fun K hK => bwp_region rfl ?_
    simp only [go_sem, ↓reduceIte, hl, h']
    refine hK _ ?_; clear hK
    refine bwp_ret ?_
    simp only [go_sem]
    refine aend_ret _ rfl rfl ⟨?_, rfl⟩
    simp [fget, badRowB, h]
  · have h' : ¬ (l.length : Int) = 0 := by omega
    refine bwp_seq fun K hK => bwp_region rfl ?_
    simp only [go_sem, ↓reduceIte, hl, h']
    refine callK_pure (anyAtoms rfl rfl hX (fun a => !okAtomB a) fun a _ => badAtom_pure a) rfl rfl ?_
    simp only [go_sem, ↓reduceIte]
    refine hK _ ?_; clear hK
    refine bwp_ret ?_
    simp only [go_sem]
    refine aend_ret _ rfl rfl ⟨?_, rfl⟩
    simp [fget, badRowB, h]
theorem okCond_pure {rows : List (List Atom)} {A : DV} (hA : IsSl2 Atom.cells rows A) (kind : Int) : Pure Tryz.prog 77 [.agg [.d (.int .i64 kind), .d A]] (.d (.bool (okCondB kind rows))) := by
  refine acalls_of Tryz.func77 ac77_ok Tryz.ntmps77 Tryz.results77 rfl ?_
  unfold ac77
  refine bwp_seq fun K hK => bwp_region rfl ?_
  simp only [go_sem, ↓reduceIte]
  refine hK _ ?_; clear hK
  refine bwp_seq fun K hK => ?_
  refine bwp_seq fun K hK => bwp_region rfl ?_
  simp only [go_sem, ↓reduceIte]
  refine hK _ ?_; clear hK
  have hl := hA.len
  by_cases h0 : kind = 0
  · refine bwp_cond true (by simp [ev, fget, h0]) (fun _ => ?_) (fun h => nomatch h)
    refine bwp_seq fun K hK => bwp_region rfl ?_
    simp only [go_sem, ↓reduceIte, hl]
    refine hK _ ?_; clear hK
    refine bwp_ret ?_
    simp only [go_sem]
    refine aend_ret _ rfl rfl ⟨?_, rfl⟩
    have : ((rows.length : Int) = 0) = (rows.length = 0) := by apply propext; omega
    simp [fget, okCondB, h0]
  · refine bwp_cond false (by simp [ev, fget, h0]) (fun h => nomatch h) (fun _ => ?_)
    refine bwp_skip ?_
    refine hK _ ?_; clear hK
    refine bwp_seq fun K hK => bwp_region rfl ?_
    simp only [go_sem, ↓reduceIte]
    refine hK _ ?_; clear hK
    by_cases hk : kind = 1 ∨ kind = 2
    · by_cases hr : 0 < rows.length
      · have hr' : (0 : Int) < rows.length := by omega
        have key : ∀ (dst : Option Nat) (r : List AOper) (K : St → Prop) (t : Fr) (m : Mem) (n : Nat), runOps Tryz.prog r ⟨putF t dst (.d (.bool (rows.any badRowB))), m, n⟩ K → callK Tryz.prog 98 [.d A, .fn 111 []] dst r K t m n :=
          fun dst r K t m n h => callK_pure (anyRows rfl rfl hA badRowB fun l _ d hd => badRow_pure hd) rfl rfl h
        rcases hk with h1 | h2
        · refine bwp_seq fun K hK => bwp_region rfl ?_
          simp only [go_sem, ↓reduceIte, h1, hl, hr']
          refine key _ _ _ _ _ _ ?_
          simp only [go_sem, ↓reduceIte]
          refine hK _ ?_; clear hK
          refine bwp_ret ?_
          simp only [go_sem]
          refine aend_ret _ rfl rfl ⟨?_, rfl⟩
          simp [fget, okCondB, h1, hr]
        · refine bwp_seq fun K hK => bwp_region rfl ?_
          simp only [go_sem, ↓reduceIte, h2, hl, hr']
          refine key _ _ _ _ _ _ ?_
          simp only [go_sem, ↓reduceIte]
          refine hK _ ?_; clear hK
          refine bwp_ret ?_
          simp only [go_sem]
          refine aend_ret _ rfl rfl ⟨?_, rfl⟩
          simp [fget, okCondB, h2, hr]
      · have hr' : ¬ (0 : Int) < rows.length := by omega
        rcases hk with h1 | h2
        · refine bwp_seq fun K hK => bwp_region rfl ?_
          simp only [go_sem, ↓reduceIte, h1, hl, hr']
          refine hK _ ?_; clear hK
          refine bwp_ret ?_
          simp only [go_sem]
          refine aend_ret _ rfl rfl ⟨?_, rfl⟩
          simp [fget, okCondB, h1, hr]
        · refine bwp_seq fun K hK => bwp_region rfl ?_
          simp only [go_sem, ↓reduceIte, h2, hl, hr']
          refine hK _ ?_; clear hK
          refine bwp_ret ?_
          simp only [go_sem]
          refine aend_ret _ rfl rfl ⟨?_, rfl⟩
          simp [fget, okCondB, h2, hr]
    · have h1 : ¬ kind = 1 := fun h => hk (.inl h)
      have h2 : ¬ kind = 2 := fun h => hk (.inr h)
      refine bwp_seq fun K hK => bwp_region rfl ?_
      simp only [go_sem, ↓reduceIte, h1, h2]
      refine hK _ ?_; clear hK
      refine bwp_ret ?_
      simp only [go_sem]
      refine aend_ret _ rfl rfl ⟨?_, rfl⟩
      simp [fget, okCondB, h0, h1, h2]
theorem badIns_pure (x : Ins) : Pure Tryz.prog 71 [.agg (x.cells.map .d)] (.d (.bool (!okInsB x))) := by
  refine acalls_of Tryz.func71 ac71_ok Tryz.ntmps71 Tryz.results71 rfl ?_
  unfold ac71
  refine bwp_seq fun K hK => bwp_region rfl ?_
  simp only [go_sem, ↓reduceIte, Ins.cells]
  refine hK _ ?_; clear hK
  refine bwp_seq fun K hK => bwp_region rfl ?_
  simp only [go_sem, ↓reduceIte]
  refine callK_pure (okIns_pure x) rfl rfl ?_
  simp only [go_sem, ↓reduceIte]
  refine hK _ ?_; clear hK
  refine bwp_ret ?_
  simp only [go_sem]
  refine aend_ret _ rfl rfl ⟨?_, rfl⟩
  simp [fget]
theorem badThread_pure {l : List Ins} {X : DV} (hX : IsSl Ins.cells l X) : Pure Tryz.prog 69 [.d X] (.d (.bool (badThreadB l))) := by
  refine acalls_of Tryz.func69 ac69_ok Tryz.ntmps69 Tryz.results69 rfl ?_
  unfold ac69
  refine bwp_seq fun K hK => bwp_region rfl ?_
  simp only [go_sem, ↓reduceIte]
  refine hK _ ?_; clear hK
  refine bwp_seq fun K hK => bwp_region rfl ?_
  simp only [go_sem, ↓reduceIte]
  refine callK_pure (anyInss rfl rfl hX (fun x => !okInsB x) fun a _ => badIns_pure a) rfl rfl ?_
  simp only [go_sem, ↓reduceIte]
  refine hK _ ?_; clear hK
  refine bwp_ret ?_
  simp only [go_sem]
  refine aend_ret _ rfl rfl ⟨?_, rfl⟩
  rfl
theorem badInit_pure (x : Init) : Pure Tryz.prog 75 [.agg (x.cells.map .d)] (.d (.bool (!isLocB x.loc))) := by
  refine acalls_of Tryz.func75 ac75_ok Tryz.ntmps75 Tryz.results75 rfl ?_
  unfold ac75
  refine bwp_seq fun K hK => bwp_region rfl ?_
  simp only [go_sem, ↓reduceIte, Init.cells]
  refine hK _ ?_; clear hK
  refine bwp_seq fun K hK => bwp_region rfl ?_
  simp only [go_sem, ↓reduceIte]
  refine callK_pure (isLoc_pure x.loc) rfl rfl ?_
  simp only [go_sem, ↓reduceIte]
  refine hK _ ?_; clear hK
  refine bwp_ret ?_
  simp only [go_sem]
  refine aend_ret _ rfl rfl ⟨?_, rfl⟩
  simp [fget]
theorem ok_pure {t : Test} {cs : List DV} (hT : IsTest t cs) (hn : t.name.length ≤ 9223372036854775807) : Pure Tryz.prog 20 [.agg (cs.map .d)] (.d (.bool (okB t))) := by
  obtain ⟨I, T, A, rfl, hI, hTh, hA⟩ := hT
  have kI : ∀ (dst : Option Nat) (r : List AOper) (K : St → Prop) (t' : Fr) (m : Mem) (n : Nat), runOps Tryz.prog r ⟨putF t' dst (.d (.bool (badInitB t.inits))), m, n⟩ K → callK Tryz.prog 74 [.d I, .fn 75 []] dst r K t' m n :=
    fun dst r K t m n h => callK_pure (anyInits rfl rfl hI (fun x => !isLocB x.loc) fun a _ => badInit_pure a) rfl rfl h
  have kT : ∀ (dst : Option Nat) (r : List AOper) (K : St → Prop) (t' : Fr) (m : Mem) (n : Nat), runOps Tryz.prog r ⟨putF t' dst (.d (.bool (t.threads.any badThreadB))), m, n⟩ K → callK Tryz.prog 51 [.d T, .fn 69 []] dst r K t' m n :=
    fun dst r K t m n h => callK_pure (anyThreads rfl rfl hTh badThreadB fun l _ d hd => badThread_pure hd) rfl rfl h
  refine acalls_of Tryz.func20 ac20_ok Tryz.ntmps20 Tryz.results20 rfl ?_
  unfold ac20
  refine bwp_seq fun K hK => bwp_region rfl ?_
  simp only [go_sem, ↓reduceIte]
  refine hK _ ?_; clear hK
  refine bwp_seq fun K hK => bwp_region rfl ?_
  simp only [go_sem, ↓reduceIte]
  refine hK _ ?_; clear hK
  refine bwp_seq fun K hK => bwp_region rfl ?_
  simp only [go_sem, ↓reduceIte]
  refine callK_pure (isWord_pure t.name hn) rfl rfl ?_
  cases hw : isWordB t.name
  · simp only [go_sem, ↓reduceIte]
    refine hK _ ?_; clear hK
    refine bwp_ret ?_
    simp only [go_sem]
    refine aend_ret _ rfl rfl ⟨?_, rfl⟩
    simp [fget, okB, hw]
  · simp only [go_sem, ↓reduceIte]
    refine kI _ _ _ _ _ _ ?_
    cases hi : badInitB t.inits
    · simp only [go_sem, ↓reduceIte]
      refine kT _ _ _ _ _ _ ?_
      cases ht : t.threads.any badThreadB
      · simp only [go_sem, ↓reduceIte]
        refine callK_pure (okCond_pure hA t.kind) rfl rfl ?_
        simp only [go_sem, ↓reduceIte]
        refine hK _ ?_; clear hK
        refine bwp_ret ?_
        simp only [go_sem]
        refine aend_ret _ rfl rfl ⟨?_, rfl⟩
        simp [fget, okB, hw, hi, ht]
      · simp only [go_sem, ↓reduceIte]
        refine hK _ ?_; clear hK
        refine bwp_ret ?_
        simp only [go_sem]
        refine aend_ret _ rfl rfl ⟨?_, rfl⟩
        simp [fget, okB, hw, hi, ht]
    · simp only [go_sem, ↓reduceIte]
      refine hK _ ?_; clear hK
      refine bwp_ret ?_
      simp only [go_sem]
      refine aend_ret _ rfl rfl ⟨?_, rfl⟩
      simp [fget, okB, hw, hi]
end Go.Proofs.YtpfbljkfbjjlkaaGreatDoor

/- A test's locations as the program tells them, without a heap: a bit each. -/
namespace Go.Proofs.YtpfbljkfbjjlkaaGreatDoor
open Go Go.Jq
set_option maxRecDepth 100000
set_option linter.unusedSimpArgs false
end Go.Proofs.YtpfbljkfbjjlkaaGreatDoor

/- What the test made of numbers comes to, told without a heap: the whole. -/
namespace Go.Proofs.YtpfbljkfbjjlkaaGreatDoor
open Go Go.Jq
set_option maxRecDepth 100000
set_option linter.unusedSimpArgs false
end Go.Proofs.YtpfbljkfbjjlkaaGreatDoor

/- Which locations a test names, told without a heap. -/
namespace Go.Proofs.YtpfbljkfbjjlkaaGreatDoor
open Go Go.Jq
set_option maxRecDepth 100000
set_option linter.unusedSimpArgs false
end Go.Proofs.YtpfbljkfbjjlkaaGreatDoor

/- A test's locations as the program lists them, without a heap. -/
namespace Go.Proofs.YtpfbljkfbjjlkaaGreatDoor
open Go Go.Jq
set_option maxRecDepth 100000
set_option linter.unusedSimpArgs false
end Go.Proofs.YtpfbljkfbjjlkaaGreatDoor

/- Whether a test is too big, begins a location twice, jumps too far: without a heap. -/
namespace Go.Proofs.YtpfbljkfbjjlkaaGreatDoor
open Go Go.Jq
set_option maxRecDepth 100000
set_option linter.unusedSimpArgs false
end Go.Proofs.YtpfbljkfbjjlkaaGreatDoor

/- Whether a test begins a location twice, jumps too far, is small enough: without a heap. -/
namespace Go.Proofs.YtpfbljkfbjjlkaaGreatDoor
open Go Go.Jq
set_option maxRecDepth 100000
set_option linter.unusedSimpArgs false
end Go.Proofs.YtpfbljkfbjjlkaaGreatDoor

/- Whether a test is small enough, without a heap. -/
namespace Go.Proofs.YtpfbljkfbjjlkaaGreatDoor
open Go Go.Jq
set_option maxRecDepth 100000
set_option linter.unusedSimpArgs false
end Go.Proofs.YtpfbljkfbjjlkaaGreatDoor

/- A parser's error has a code that is not nought. -/
namespace Go.Proofs.YtpfbljkfbjjlkaaGreatDoor
open Go Go.Jq
set_option maxRecDepth 100000
set_option linter.unusedSimpArgs false
def PT.Adv {α : Type} (t : PT α) : Prop := ∀ (s : List UInt8) (a : Nat) (x : α) (b : Nat), a ≤ s.length → (nextW s a).2.2 = 0 → t.run s a = .ok (x, b) → a < b
theorem PT.run_clean {α : Type} {s : List UInt8} (t : PT α) : ∀ {a : Nat} {x : α} {b : Nat}, (nextW s a).2.2 = 0 → t.run s a = .ok (x, b) → (nextW s b).2.2 = 0 := by
  induction t with
  | ret x => intro a y b h0 h; simp only [run, Except.ok.injEq, Prod.mk.injEq] at h; obtain ⟨_, rfl⟩ := h; exact h0
  | bad c => intro a y b h0 h; cases h
  | cur k ih => intro a y b h0 h; exact ih _ _ h0 h
  | eat k ih =>
    intro a y b h0 h
    simp only [run] at h
    split at h
    · rename_i b' hb
      exact ih (eatW_ok hb).2 h
    · cases h
theorem adv_l {α β : Type} {t : PT α} {f : α → PT β} (h : t.Adv) : (t.bind f).Adv := by
  intro s a y b ha h0 hr
  rw [PT.run_bind] at hr
  cases ht : t.run s a with
  | error e => rw [ht] at hr; cases hr
  | ok p =>
    obtain ⟨x, c⟩ := p
    rw [ht] at hr
    have h1 := h s a x c ha h0 ht
    have h2 := t.run_le ha ht
    have h3 := (f x).run_le h2.2 hr
    omega
theorem adv_r {α β : Type} {t : PT α} {f : α → PT β} (h : ∀ x, (f x).Adv) : (t.bind f).Adv := by
  intro s a y b ha h0 hr
  rw [PT.run_bind] at hr
  cases ht : t.run s a with
  | error e => rw [ht] at hr; cases hr
  | ok p =>
    obtain ⟨x, c⟩ := p
    rw [ht] at hr
    have h2 := t.run_le ha ht
    have h1 := h x s c y b h2.2 (t.run_clean h0 ht) hr
    omega
theorem adv_must (x : List UInt8) : (tMust x).Adv := by
  intro s a y b ha h0 hr
  unfold tMust at hr
  rw [PT.run] at hr
  split at hr
  · rename_i hk
    have h4 : (nextW s a).1.kd ≠ 4 := by
      unfold isK curT at hk
      simp only [Bool.and_eq_true, Bool.or_eq_true, decide_eq_true_eq] at hk
      omega
    have h1 := (nextW_to ha).2.2 h0 h4
    simp only [PT.run] at hr
    split at hr
    · rename_i c hc
      simp only [Except.ok.injEq, Prod.mk.injEq] at hr
      have := (eatW_ok hc).1
      omega
    · cases hr
  · cases hr
def PT.NzF {α : Type} (t : PT α) (f : Nat) : Prop := ∀ (s : List UInt8) (a : Nat) (e : PE), a ≤ s.length → s.length - a < f → (nextW s a).2.2 = 0 → t.run s a = .error e → e.1 ≠ 0
theorem nz_ret {α : Type} {x : α} {f : Nat} : (PT.ret x).NzF f := fun _ _ _ _ _ _ h => by cases h
theorem nz_bad {α : Type} {c : Int} {f : Nat} (hc : c ≠ 0) : (PT.bad c : PT α).NzF f := fun s a e _ _ _ h => by
  simp only [PT.run, Except.error.injEq] at h
  rw [← h]; exact hc
theorem nz_cur {α : Type} {k : Int → List UInt8 → PT α} {f : Nat} (h : ∀ d y, (k d y).NzF f) : (PT.cur k).NzF f := fun s a e ha hf h0 hr => h _ _ s a e ha hf h0 hr
theorem nz_eat {α : Type} {k : PT α} {f : Nat} (h : k.NzF f) : (PT.eat k).NzF f := by
  intro s a e ha hf h0 hr
  simp only [PT.run] at hr
  have h1 := nextW_to ha
  split at hr
  · rename_i b hb
    obtain ⟨rfl, h2⟩ := eatW_ok hb
    exact h s _ e h1.2.1 (by omega) h2 hr
  · rename_i e' he
    obtain ⟨c, p⟩ := e'
    cases hr
    unfold eatW at he
    exact (goW_err he).2.1
theorem nz_bind {α β : Type} {t : PT α} {g : α → PT β} {f : Nat} (h : t.NzF f) (h' : ∀ x, (g x).NzF f) : (t.bind g).NzF f := by
  intro s a e ha hf h0 hr
  rw [PT.run_bind] at hr
  cases ht : t.run s a with
  | error e' =>
    rw [ht] at hr
    cases hr
    exact h s a _ ha hf h0 ht
  | ok p =>
    obtain ⟨x, c⟩ := p
    rw [ht] at hr
    have h2 := t.run_le ha ht
    exact h' x s c e h2.2 (by omega) (t.run_clean h0 ht) hr
theorem nz_bindA {α β : Type} {t : PT α} {g : α → PT β} {f : Nat} (h : t.NzF (f + 1)) (hA : t.Adv) (h' : ∀ x, (g x).NzF f) : (t.bind g).NzF (f + 1) := by
  intro s a e ha hf h0 hr
  rw [PT.run_bind] at hr
  cases ht : t.run s a with
  | error e' =>
    rw [ht] at hr
    cases hr
    exact h s a _ ha hf h0 ht
  | ok p =>
    obtain ⟨x, c⟩ := p
    rw [ht] at hr
    have h2 := t.run_le ha ht
    have h3 := hA s a x c ha h0 ht
    exact h' x s c e h2.2 (by omega) (t.run_clean h0 ht) hr
theorem nz_take {α : Type} {x : List UInt8} {yes no : PT α} {f : Nat} (h : yes.NzF f) (h' : no.NzF f) : (tTake x yes no).NzF f := by
  refine nz_cur fun d y => ?_
  split
  · exact nz_eat h
  · exact h'
theorem nz_must (x : List UInt8) (f : Nat) : (tMust x).NzF f := nz_cur fun d y => by
  split
  · exact nz_eat nz_ret
  · exact nz_bad (by decide)
theorem nz_word (f : Nat) : tWord.NzF f := nz_cur fun d y => by
  split
  · exact nz_eat nz_ret
  · exact nz_bad (by decide)
theorem nz_num (f : Nat) : tNum.NzF f := nz_cur fun d y => by
  split
  · exact nz_eat nz_ret
  · exact nz_bad (by decide)
theorem nz_named (g : List UInt8 → Option Int) (f : Nat) : (tNamed g).NzF f := nz_cur fun d y => by
  split
  · split
    · exact nz_eat nz_ret
    · exact nz_bad (by decide)
  · exact nz_bad (by decide)
theorem nz_opd (f : Nat) : tOpd.NzF f := nz_cur fun d y => by
  split
  · exact nz_bind (nz_num f) fun _ => nz_ret
  · exact nz_bind (nz_named _ f) fun _ => nz_ret
theorem nz_right (r : Int) (f : Nat) : (tRight r).NzF f := by
  refine nz_take (nz_bind (nz_named _ f) fun _ => nz_ret) (nz_take (nz_bind (nz_named _ f) fun _ => nz_bind (nz_opd f) fun _ => nz_bind (nz_opd f) fun _ => nz_ret) ?_)
  refine nz_bind (nz_opd f) fun x => nz_cur fun d y => ?_
  split
  · exact nz_eat (nz_bind (nz_opd f) fun _ => nz_ret)
  · exact nz_ret
theorem nz_ins (f : Nat) : tIns.NzF f := by
  refine nz_take (nz_bind (nz_named _ f) fun _ => nz_bind (nz_opd f) fun _ => nz_ret) (nz_take nz_ret (nz_take ?_ (nz_bind (nz_named _ f) fun _ => nz_bind (nz_must _ f) fun _ => nz_right _ f)))
  refine nz_cur fun d y => ?_
  split
  · exact nz_bad (by decide)
  · exact nz_bind (nz_num f) fun _ => nz_bind (nz_must _ f) fun _ => nz_bind (nz_opd f) fun _ => nz_bind (nz_must _ f) fun _ => nz_bind (nz_opd f) fun _ => nz_ret
theorem nz_insE (f : Nat) : tInsE.NzF f := nz_bind (nz_ins f) fun _ => nz_bind (nz_must _ f) fun _ => nz_ret
theorem adv_insE : tInsE.Adv := adv_r fun _ => adv_l (adv_must _)
theorem nz_init (f : Nat) : tInit.NzF f := nz_bind (nz_named _ f) fun _ => nz_bind (nz_must _ f) fun _ => nz_bind (nz_num f) fun _ => nz_bind (nz_must _ f) fun _ => nz_ret
theorem adv_init : tInit.Adv := adv_r fun _ => adv_l (adv_must _)
theorem nz_who (f : Nat) : tWho.NzF f := nz_cur fun d y => by
  split
  · split
    · exact nz_bad (by decide)
    · exact nz_eat (nz_bind (nz_must _ f) fun _ => nz_bind (nz_named _ f) fun _ => nz_ret)
  · exact nz_bind (nz_named _ f) fun _ => nz_ret
theorem nz_atom (f : Nat) : tAtom.NzF f := nz_bind (nz_who f) fun _ => nz_bind (nz_must _ f) fun _ => nz_bind (nz_num f) fun _ => nz_ret
theorem adv_atom : tAtom.Adv := adv_r fun _ => adv_l (adv_must _)
theorem nz_many {α : Type} {one : PT α} (hA : one.Adv) (h : ∀ f, one.NzF f) : ∀ f, (tMany one f).NzF f
  | 0 => fun _ _ _ _ hf => by omega
  | f + 1 => nz_take nz_ret (nz_bindA (h _) hA fun _ => nz_bind (nz_many hA h f) fun _ => nz_ret)
theorem nz_mono {α : Type} {t : PT α} {f g : Nat} (h : t.NzF g) (hfg : f ≤ g) : t.NzF f := fun s a e ha hf h0 hr => h s a e ha (by omega) h0 hr
theorem nz_thread {f : Nat} (hf : f ≤ fuelP) : tThread.NzF f := nz_bind (nz_must _ f) fun _ => nz_mono (nz_many adv_insE nz_insE fuelP) hf
theorem adv_thread : tThread.Adv := adv_l (adv_must _)
theorem nz_threads : ∀ f, f ≤ fuelP → (tThreads f).NzF f
  | 0, _ => fun _ _ _ _ hf => by omega
  | f + 1, hf => nz_take (nz_bindA (nz_thread hf) adv_thread fun _ => nz_bind (nz_threads f (by omega)) fun _ => nz_ret) nz_ret
theorem nz_row : ∀ f, (tRow f).NzF f
  | 0 => fun _ _ _ _ hf => by omega
  | f + 1 => nz_take (nz_bindA (nz_atom _) adv_atom fun _ => nz_bind (nz_row f) fun _ => nz_ret) nz_ret
theorem nz_rows : ∀ f, f ≤ fuelP → (tRows f).NzF f
  | 0, _ => fun _ _ _ _ hf => by omega
  | f + 1, hf => nz_bindA (nz_atom _) adv_atom fun _ => nz_bind (nz_mono (nz_row fuelP) (by omega)) fun _ => nz_take (nz_bind (nz_rows f (by omega)) fun _ => nz_ret) nz_ret
theorem nz_cond : tCond.NzF fuelP :=
  have ask : ∀ k, (tAsk k).NzF fuelP := fun k => nz_bind (nz_rows fuelP (Nat.le_refl _)) fun _ => nz_bind (nz_must _ _) fun _ => nz_ret
  nz_take (ask 1) (nz_take (ask 2) nz_ret)
theorem nz_test : tTest.NzF fuelP := by
  refine nz_bind (nz_must _ _) fun _ => nz_bind (nz_word _) fun _ => nz_bind (nz_must _ _) fun _ => nz_bind (nz_take (nz_bind (nz_must _ _) fun _ => nz_many adv_init nz_init fuelP) nz_ret) fun _ => ?_
  refine nz_bind (nz_threads fuelP (Nat.le_refl _)) fun _ => nz_bind nz_cond fun _ => nz_bind (nz_must _ _) fun _ => nz_cur fun d y => ?_
  split
  · exact nz_ret
  · exact nz_bad (by decide)
theorem pTest_code0 {s : List UInt8} {c : Int} {p : Nat} (h : pTest s = .error (c, p)) : c ≠ 0 := by
  unfold pTest at h
  split at h
  · cases h; decide
  · rename_i hs
    split at h
    · rename_i a ha
      obtain ⟨rfl, h0⟩ := goW_ok ha
      split at h
      · cases h
      · rename_i e he
        cases h
        exact nz_test s 0 _ (Nat.zero_le _) (by unfold fuelP; omega) h0 he
    · rename_i e he
      cases h
      exact (goW_err he).2.1
end Go.Proofs.YtpfbljkfbjjlkaaGreatDoor

/- A text's test that is small enough. -/
namespace Go.Proofs.YtpfbljkfbjjlkaaGreatDoor
open Go Go.Jq
set_option maxRecDepth 100000
set_option linter.unusedSimpArgs false
end Go.Proofs.YtpfbljkfbjjlkaaGreatDoor

/- The test made of numbers is small enough: plain Lean, no program in sight. -/
namespace Go.Proofs.YtpfbljkfbjjlkaaGreatDoor
open Go Go.Jq
end Go.Proofs.YtpfbljkfbjjlkaaGreatDoor

/- How long a test's text may be, when its rows are as long as memory lets them be. -/
namespace Go.Proofs.YtpfbljkfbjjlkaaGreatDoor
open Go Go.Jq
set_option maxRecDepth 100000
set_option linter.unusedSimpArgs false
end Go.Proofs.YtpfbljkfbjjlkaaGreatDoor

/- The abstract layer: what a row hands a law, told as data, with bounds for its slices at every depth. -/
namespace Go.Jq
open Go
mutual
def Sh.bytes : Sh → Nat
  | .int k => k.bits / 8
  | .bool => 1
  | .str => 16
  | .sl _ => 24
def bytesL : List Sh → Nat
  | [] => 0
  | s :: ss => s.bytes + bytesL ss
end
mutual
def FitsZ : Sh → DV → Prop
  | .int k, d => ∃ n, d = .int k n ∧ (Lit.int k n).wf = true
  | .bool, d => ∃ b, d = .bool b
  | .str, d => ∃ s : List UInt8, d = .str s ∧ s.length ≤ reachBytes
  | .sl es, d => d = .nsl ∨ ∃ rows : List (List DV), d = .sl rows.length rows.flatten ∧ rows.length ≤ maxLen ∧ rows.length * bytesL es ≤ reachBytes ∧ ∀ r ∈ rows, FitsZL es r
def FitsZL : List Sh → List DV → Prop
  | [], ds => ds = []
  | s :: ss, ds => ∃ d r, ds = d :: r ∧ FitsZ s d ∧ FitsZL ss r
end
mutual
theorem FitsZ.fits : ∀ {s : Sh} {d : DV}, FitsZ s d → Fits s d
  | .int k, d, h => by simpa only [FitsZ, Fits] using h
  | .bool, d, h => by simpa only [FitsZ, Fits] using h
  | .str, d, h => by
    simp only [FitsZ] at h
    obtain ⟨s, rfl, hs⟩ := h
    simp only [Fits]
    exact ⟨s, rfl, Nat.le_trans hs (by decide)⟩
  | .sl es, d, h => by
    simp only [FitsZ] at h
    simp only [Fits]
    rcases h with h | ⟨rows, h1, h2, _, h3⟩
    · exact .inl h
    · exact .inr ⟨rows, h1, h2, fun r hr => FitsZL.fits (h3 r hr)⟩
theorem FitsZL.fits : ∀ {ss : List Sh} {ds : List DV}, FitsZL ss ds → FitsL ss ds
  | [], ds, h => by simpa only [FitsZL, FitsL] using h
  | s :: ss, ds, h => by
    simp only [FitsZL] at h
    obtain ⟨d, r, rfl, h1, h2⟩ := h
    simp only [FitsL]
    exact ⟨d, r, rfl, FitsZ.fits h1, FitsZL.fits h2⟩
end
section
variable {H : Type} {enc : TypeId × Value → H} {P : Program} {w : World} {base : Nat} {spare : Nat → Bool} {held : Bool} {I : Nat → Prop} (hI : ∀ b, b < w.heap.size → I b)
end
section
variable {H : Type} {enc : TypeId × Value → H} {P : Program} {w : World} {base : Nat} {spare : Nat → Bool} {held : Bool} {t : TypeId} {v : Value} {d : DataW H} {p : List MemPlace}
end
end Go.Jq

/- A row's test as data: its numbers within 64 bits, its lists as long as memory lets them be. -/
namespace Go.Proofs.YtpfbljkfbjjlkaaGreatDoor
open Go Go.Jq
set_option maxRecDepth 100000
set_option linter.unusedSimpArgs false
structure RangeT (t : Test) : Prop where
  name : t.name.length ≤ 9223372036854775807
  values : ∀ x ∈ t.inits, I64 x.value
  ins : ∀ l ∈ t.threads, ∀ x ∈ l, I64i x
  rows : ∀ l ∈ t.rows, ∀ a ∈ l, I64a a
def shTest : List Sh := [.str, .sl [.int .i64, .int .i64], .sl [.sl (List.replicate 9 (.int .i64))], .int .i64, .sl [.sl (List.replicate 4 (.int .i64))]]
theorem fits_i64s : ∀ {n : Nat} {ds : List DV}, FitsL (List.replicate n (.int .i64)) ds → ∃ l : List Int, l.length = n ∧ ds = l.map (.int .i64) ∧ ∀ x ∈ l, I64 x
  | 0, ds, h => by simp only [List.replicate_zero, FitsL] at h; exact ⟨[], rfl, h, by simp⟩
  | n + 1, ds, h => by
    simp only [List.replicate_succ, FitsL, Fits] at h
    obtain ⟨d, r, rfl, ⟨m, rfl, hw⟩, h⟩ := h
    obtain ⟨l, hl, rfl, hr⟩ := fits_i64s h
    exact ⟨m :: l, by simp [hl], rfl, by
      intro x hx
      rcases List.mem_cons.1 hx with hx | hx
      · rw [hx]; exact wf_i64 hw
      · exact hr x hx⟩
theorem row_init {r : List DV} (hr : FitsL (List.replicate 2 (.int .i64)) r) : ∃ a : Init, I64 a.value ∧ r = a.cells := by
  obtain ⟨f, hf, rfl, hw⟩ := fits_i64s hr
  match f, hf, hw with
  | [a, b], _, hw => exact ⟨⟨a, b⟩, hw b (by simp), rfl⟩
theorem row_ins {r : List DV} (hr : FitsL (List.replicate 9 (.int .i64)) r) : ∃ a : Ins, I64i a ∧ r = a.cells := by
  obtain ⟨f, hf, rfl, hw⟩ := fits_i64s hr
  match f, hf, hw with
  | [a, b, c, d, e, g, i, j, k], _, hw => exact ⟨⟨a, b, c, ⟨d, e⟩, g, ⟨i, j⟩, k⟩, ⟨hw b (by simp), hw d (by simp), hw e (by simp), hw i (by simp), hw j (by simp), hw k (by simp)⟩, rfl⟩
theorem row_atom {r : List DV} (hr : FitsL (List.replicate 4 (.int .i64)) r) : ∃ a : Atom, I64a a ∧ r = a.cells := by
  obtain ⟨f, hf, rfl, hw⟩ := fits_i64s hr
  match f, hf, hw with
  | [a, b, c, d], _, hw => exact ⟨⟨a, b, c, d⟩, ⟨hw a (by simp), hw b (by simp), hw d (by simp)⟩, rfl⟩
theorem fits_test {ds : List DV} (h : FitsL shTest ds) : ∃ t : Test, IsTest t ds ∧ RangeT t := by
  have hm : maxLen = 9223372036854775807 := rfl
  simp only [shTest, FitsL] at h
  obtain ⟨d0, r0, rfl, h0, d1, r1, rfl, h1, d2, r2, rfl, h2, d3, r3, rfl, h3, d4, r4, rfl, h4, rfl⟩ := h
  simp only [Fits] at h0 h3
  obtain ⟨nm, rfl, hnm⟩ := h0
  obtain ⟨kd, rfl, _⟩ := h3
  obtain ⟨inits, v1, hI⟩ := fits_sl (enc := Init.cells) (p := fun x => I64 x.value) (fun r hr => row_init hr) h1
  obtain ⟨threads, v2, hT⟩ := fits_sl2 (enc := Ins.cells) (p := I64i) (fun r hr => row_ins hr) h2
  obtain ⟨rows, v3, hA⟩ := fits_sl2 (enc := Atom.cells) (p := I64a) (fun r hr => row_atom hr) h4
  exact ⟨⟨nm, inits, threads, kd, rows⟩, ⟨d1, d2, d4, rfl, hI, hT, hA⟩, ⟨by simp only; omega, v1, v2, v3⟩⟩
end Go.Proofs.YtpfbljkfbjjlkaaGreatDoor

/- Which parts of a test may be, by the document's answer, told without a heap. -/
namespace Go.Proofs.YtpfbljkfbjjlkaaGreatDoor
open Go Go.Jq
set_option maxRecDepth 100000
set_option linter.unusedSimpArgs false
end Go.Proofs.YtpfbljkfbjjlkaaGreatDoor

/- Which conditions and tests may be, by the document's answer, told without a heap. -/
namespace Go.Proofs.YtpfbljkfbjjlkaaGreatDoor
open Go Go.Jq
set_option maxRecDepth 100000
set_option linter.unusedSimpArgs false
end Go.Proofs.YtpfbljkfbjjlkaaGreatDoor

/- Which conditions and tests may be, by the document's answer: the wholes. -/
namespace Go.Proofs.YtpfbljkfbjjlkaaGreatDoor
open Go Go.Jq
set_option maxRecDepth 100000
set_option linter.unusedSimpArgs false
end Go.Proofs.YtpfbljkfbjjlkaaGreatDoor

/- The document's texts of parts. -/
namespace Go.Proofs.YtpfbljkfbjjlkaaGreatDoor
open Go Go.Jq
set_option maxRecDepth 100000
set_option linter.unusedSimpArgs false
end Go.Proofs.YtpfbljkfbjjlkaaGreatDoor

/- The document's text of a condition. -/
namespace Go.Proofs.YtpfbljkfbjjlkaaGreatDoor
open Go Go.Jq
set_option maxRecDepth 100000
set_option linter.unusedSimpArgs false
end Go.Proofs.YtpfbljkfbjjlkaaGreatDoor

/- Which tests may be, by the document's answer, told without a heap. -/
namespace Go.Proofs.YtpfbljkfbjjlkaaGreatDoor
open Go Go.Jq
set_option maxRecDepth 100000
set_option linter.unusedSimpArgs false
end Go.Proofs.YtpfbljkfbjjlkaaGreatDoor

/- The document's text of a test. -/
namespace Go.Proofs.YtpfbljkfbjjlkaaGreatDoor
open Go Go.Jq
set_option maxRecDepth 100000
set_option linter.unusedSimpArgs false
end Go.Proofs.YtpfbljkfbjjlkaaGreatDoor

/- The text of a test made of numbers: how long it is, and what it is read as. -/
namespace Go.Proofs.YtpfbljkfbjjlkaaGreatDoor
open Go Go.Jq
set_option maxRecDepth 100000
set_option linter.unusedSimpArgs false
end Go.Proofs.YtpfbljkfbjjlkaaGreatDoor

/- strings.Builder: its own methods, in the model's words. -/
namespace Go.Proofs.YtpfbljkfbjjlkaaGreatDoor
open Go Go.Jq
set_option maxRecDepth 100000
set_option linter.unusedSimpArgs false
theorem under_bptr : Tryz.prog.underlying 91 = some (.pointer 93) := by kernel_rfl
theorem under_unsafe : Tryz.prog.underlying 150 = some .unsafePointer := by kernel_rfl
theorem under_byteptr : Tryz.prog.underlying 131 = some (.pointer 5) := by kernel_rfl
theorem size_builder : (Tryz.prog.info? 93).map (·.size) = some 2 := by kernel_rfl
theorem lies_builder : liesAt Tryz.prog Tryz.prog.depth 93 (2 / Tryz.prog.cellsOf 93) 0 93 1 = true := by kernel_rfl
theorem cells_byte : Tryz.prog.cellsOf 5 = 1 := by kernel_rfl
set_option maxHeartbeats 2000000 in
theorem calls_copyCheck_used (b : Nat) (w : World) (h0 : w.cell? ⟨b, 0, none⟩ = some (.pointer (some ⟨b, 0, none⟩))) :
    Calls Tryz.prog 106 #[.pointer (some ⟨b, 0, none⟩)] w fun e w' => e = .returned (.tuple #[]) ∧ w' = w := by
  obtain ⟨j, hj, _⟩ := Option.map_eq_some_iff.1 size_builder
  go_enter Tryz.func106, Tryz.ntmps106
  go_wp2
  rw [Lib.run_neq_ptr_same w _ under_bptr hj]
  go_wp2
  go_end0
  exact ⟨rfl, rfl⟩
set_option maxHeartbeats 2000000 in
theorem calls_copyCheck_fresh (b : Nat) (w : World) (h0 : w.cell? ⟨b, 0, none⟩ = some (.pointer none)) (hsh : w.shape? b = some (93, 2)) (hfz : w.frozen? ⟨b, 0, none⟩ = false) :
    Calls Tryz.prog 106 #[.pointer (some ⟨b, 0, none⟩)] w fun e w' => e = .returned (.tuple #[]) ∧ w' = w.setCell ⟨b, 0, none⟩ (.pointer (some ⟨b, 0, none⟩)) := by
  obtain ⟨j, hj, hjs⟩ := Option.map_eq_some_iff.1 size_builder
  go_enter Tryz.func106, Tryz.ntmps106
  go_wp2
  rw [Lib.run_to_unsafe w ⟨b, 0, none⟩ under_bptr under_unsafe hj (by rw [hjs]; decide) hsh (Nat.zero_lt_succ 1)]
  simp only [Result.andThen]
  rw [Oper.upon_value]
  go_wp2
  rw [run_callFunc_extern Tryz.func135 (by kernel_rfl) (by kernel_rfl) (by kernel_rfl) (e := Extern.AbiNoEscape.same) (by kernel_rfl)]
  rw [Lib.run_noEscape]
  simp only [Result.andThen]
  rw [Oper.upon_value]
  go_wp2
  rw [Lib.run_from_unsafe w ⟨b, 0, none⟩ under_unsafe under_bptr hj hsh lies_builder]
  simp only [Result.andThen]
  rw [Oper.upon_value]
  go_wp2
  go_end0
  exact ⟨rfl, rfl⟩
set_option maxHeartbeats 2000000 in
theorem calls_string (b g cap cells : Nat) (s : List UInt8) (w : World) (h0 : s ≠ []) (hle : s.length ≤ cap) (hcap : cap ≤ cells) (h63 : s.length ≤ 9223372036854775807)
    (h1 : w.cell? ⟨b, 1, none⟩ = some (.slice (some ⟨g, 0, none⟩) s.length cap)) (hsh : w.shape? g = some (5, cells))
    (hc : ∀ j x, s[j]? = some x → w.cell? ⟨g, j, none⟩ = some (.int .u8 x.toNat)) :
    Calls Tryz.prog 63 #[.pointer (some ⟨b, 0, none⟩)] w fun e w' => e = .returned (.string ⟨s.toArray⟩) ∧ w' = w.drew.freeze ⟨g, 0, none⟩ s.length := by
  have hl0 : s.length ≠ 0 := by simpa using h0
  have c1 : w.drew.cell? ⟨b, 1, none⟩ = some (.slice (some ⟨g, 0, none⟩) s.length cap) := h1
  have hSD : (Builtin.unsafeSliceData_ #[32] 131 #[.slice (some ⟨g, 0, none⟩) s.length cap]).run Tryz.prog w.drew = .ok (.pointer (some ⟨g, 0, none⟩)) w.drew :=
    Lib.run_unsafeSliceData_row _ _ _ _ _ _ (by omega)
  have hUS : (Builtin.unsafeString_ #[131, 3] 9 #[.pointer (some ⟨g, 0, none⟩), .int .i64 s.length]).run Tryz.prog w.drew = .ok (.string ⟨s.toArray⟩) (w.drew.freeze ⟨g, 0, none⟩ s.length) := by
    refine Lib.run_unsafeString_row w.drew 131 3 9 5 under_byteptr cells_byte g cells hsh s h0 (by omega) h63 ?_
    intro j x hx
    have := hc j x hx
    unfold Addr.add
    by_cases hj : j = 0
    · subst hj; simpa using this
    · simpa [hj] using this
  go_enter Tryz.func63, Tryz.ntmps63
  go_wp2
  go_region
  all_goals (go_wp2; go_ret; exact ⟨rfl, rfl⟩)
end Go.Proofs.YtpfbljkfbjjlkaaGreatDoor

/- strings.Builder, told without a heap. -/
namespace Go.Proofs.YtpfbljkfbjjlkaaGreatDoor
open Go Go.Jq
set_option maxRecDepth 100000
set_option linter.unusedSimpArgs false
theorem own_at {c : Ctx} {m : Mem} {w : World} {id b : Nat} {cs : List AV} (hM : MR c m w) (hid : mget m id = some cs) (hφ : c.φ id = .blk b) :
    ∃ arr T f vs rest, ¬ c.imm b ∧ w.heap[b]? = some (.cells arr T f) ∧ NoFz arr.size f ∧ arr.toList = vs ++ rest ∧ RelL c w cs vs := by
  rcases hM.own id cs hid with ⟨h0, _⟩ | ⟨b', arr, T, f, hb, hi, hw, hf, vs, rest, ha, hr⟩
  · rw [h0] at hφ; cases hφ
  · rw [hb] at hφ; cases hφ; exact ⟨arr, T, f, vs, rest, hi, hw, hf, ha, hr⟩
theorem copyCheck_fresh (x : AV) (ys : List AV) : ACalls Tryz.prog 106 [.ptr 0 0] [(0, [.npt 0 93, x]), (1, ys)] fun r m' => r = .tup [] ∧ m' = [(0, [.ptr 0 0, x]), (1, ys)] := by
  intro c w vs hr hM hfree
  simp only [RelL, Rel] at hr
  obtain ⟨v, vs', rfl, ⟨b, hb, rfl⟩, rfl⟩ := hr
  obtain ⟨arr, T, f, vs, rest, hni, hw, hnf, ha, hrl⟩ := own_at hM (id := 0) rfl hb
  have hrl0 := hrl
  simp only [RelL, Rel] at hrl
  obtain ⟨p, vs1, rfl, ⟨rfl, b', hb', hsz⟩, y, vs2, rfl, hy, rfl⟩ := hrl
  rw [hb] at hb'
  cases hb'
  rw [Go.Jq.rowSize_of_row hw] at hsz
  simp only [Option.some.injEq, Prod.mk.injEq] at hsz
  obtain ⟨rfl, hsz⟩ := hsz
  have hrest : rest = [] := by
    have := congrArg List.length ha
    rw [Array.length_toList, hsz] at this
    simp only [List.length_append, List.length_cons, List.length_nil] at this
    exact List.eq_nil_of_length_eq_zero (by omega)
  subst hrest
  have harr : arr = #[.pointer none, y] := by apply Array.ext'; simpa using ha
  subst harr
  have h0 : w.cell? ⟨b, 0, none⟩ = some (.pointer none) := by rw [Go.Jq.cell_of_row hw]; rfl
  have hsh : w.shape? b = some (93, 2) := by simp [World.shape?, hw]
  have hfz := Go.Jq.frozen_of_row (o := 0) hw hnf (by simp)
  refine (calls_copyCheck_fresh b w h0 hsh hfz).mono ?_
  rintro e w' ⟨rfl, rfl⟩
  have hto : RowTo w (w.setCell ⟨b, 0, none⟩ (.pointer (some ⟨b, 0, none⟩))) b #[.pointer (some ⟨b, 0, none⟩), y] 93 f :=
    ⟨rfl, rfl, rfl, by simp, fun k hk => RowKit.Below.heap_setCell _ _ _ _ hk, by
      simp only [World.setCell, Array.getElem?_modify, if_true]
      rw [hw]
      rfl⟩
  have hMR := hM.put (id := 0) (cells := [.ptr 0 0, x]) (vs := [.pointer (some ⟨b, 0, none⟩), y]) (rest := []) rfl hb hto hw rfl hni hnf rfl (by simp only [RelL, Rel]; exact ⟨_, _, rfl, ⟨b, hb, rfl⟩, y, _, rfl, hy, rfl⟩)
  refine ⟨_, .tup [], [(0, [.ptr 0 0, x]), (1, ys)], c, rfl, ⟨rfl, rfl⟩, ⟨[], rfl, rfl⟩, hMR, hto.step hw rfl ⟨0, rfl, hb⟩, fun b h => .inl (own_put (id := 0) rfl h), fun id _ h => ⟨?_, rfl⟩, fun id h => hfree id ?_⟩
  · simp only [mget] at h ⊢
    split at h
    · rename_i e; rw [if_pos e]; rfl
    · rename_i e; rw [if_neg e]; exact h
  · exact Nat.le_trans (Nat.le_max_left _ _) h
theorem copyCheck_used (x : AV) (ys : List AV) : ACalls Tryz.prog 106 [.ptr 0 0] [(0, [.ptr 0 0, x]), (1, ys)] fun r m' => r = .tup [] ∧ m' = [(0, [.ptr 0 0, x]), (1, ys)] := by
  intro c w vs hr hM hfree
  simp only [RelL, Rel] at hr
  obtain ⟨v, vs', rfl, ⟨b, hb, rfl⟩, rfl⟩ := hr
  obtain ⟨arr, T, f, vs, rest, hni, hw, hnf, ha, hrl⟩ := own_at hM (id := 0) rfl hb
  simp only [RelL, Rel] at hrl
  obtain ⟨p, vs1, rfl, ⟨b', hb', rfl⟩, y, vs2, rfl, hy, rfl⟩ := hrl
  rw [hb] at hb'
  cases hb'
  have h0 : w.cell? ⟨b, 0, none⟩ = some (.pointer (some ⟨b, 0, none⟩)) := by rw [Go.Jq.cell_of_row hw, ← Array.getElem?_toList, ha]; rfl
  refine (calls_copyCheck_used b w h0).mono ?_
  rintro e w' ⟨rfl, rfl⟩
  exact ⟨_, .tup [], [(0, [.ptr 0 0, x]), (1, ys)], c, rfl, ⟨rfl, rfl⟩, ⟨[], rfl, rfl⟩, hM, Step.refl _ _ _, fun b h => .inl h, fun id _ h => ⟨h, rfl⟩, fun id h => hfree id (Nat.le_trans (Nat.le_max_left _ _) h)⟩
def bldM (s : List UInt8) : Mem := [(0, [.ptr 0 0, .slT 1 5 s.length]), (1, bytesAV s)]
theorem bytesAV_len (s : List UInt8) : (bytesAV s).length = s.length := by simp [bytesAV]
theorem bytesAV_append (s s' : List UInt8) : bytesAV (s ++ s') = bytesAV s ++ bytesAV s' := by simp [bytesAV]
theorem string_built {s : List UInt8} (h0 : s ≠ []) (h63 : s.length ≤ 9223372036854775807) : ACalls Tryz.prog 63 [.ptr 0 0] (bldM s) fun r m' => r = .d (.str s) ∧ m' = [] := by
  intro c w vs hr hM hfree
  simp only [RelL, Rel] at hr
  obtain ⟨v, vs', rfl, ⟨b, hb, rfl⟩, rfl⟩ := hr
  obtain ⟨arr, T, f, vs, rest, hni, hw, hnf, ha, hrl⟩ := own_at hM (id := 0) rfl hb
  simp only [RelL, Rel] at hrl
  obtain ⟨p, vs1, rfl, ⟨b', hb', rfl⟩, y, vs2, rfl, hy, rfl⟩ := hrl
  have hl0 : s.length ≠ 0 := by simpa using h0
  rcases hy with ⟨_, h, _⟩ | ⟨g, cap, N, hg, rfl, hle, hN, hcap⟩
  · exact absurd h hl0
  obtain ⟨arr', T', f', us, rest', hni', hw', hnf', ha', hus⟩ := own_at hM (id := 1) rfl hg
  rw [Go.Jq.rowSize_of_row hw'] at hN
  simp only [Option.some.injEq, Prod.mk.injEq] at hN
  obtain ⟨rfl, rfl⟩ := hN
  have h1 : w.cell? ⟨b, 1, none⟩ = some (.slice (some ⟨g, 0, none⟩) s.length cap) := by rw [Go.Jq.cell_of_row hw, ← Array.getElem?_toList, ha]; rfl
  have hsh : w.shape? g = some (5, arr'.size) := by simp [World.shape?, hw']
  have hc : ∀ j x, s[j]? = some x → w.cell? ⟨g, j, none⟩ = some (.int .u8 x.toNat) := fun j x hx => by
    obtain ⟨u, hu, hrel⟩ := hus.get (i := j) (x := .d (.int .u8 x.toNat)) (by simp [bytesAV, hx])
    simp only [Rel, RelD] at hrel
    rw [Go.Jq.cell_of_row hw', ← Array.getElem?_toList, ha', List.getElem?_append_left (List.getElem?_eq_some_iff.1 hu).1, hu, hrel]
  refine (calls_string b g cap arr'.size s w h0 hle hcap h63 h1 hsh hc).mono ?_
  rintro e w' ⟨rfl, rfl⟩
  have hother : ∀ k, k ≠ g → (w.drew.freeze ⟨g, 0, none⟩ s.length).heap[k]? = w.heap[k]? := fun k hk => by
    unfold World.freeze
    split
    · rfl
    · simp only [Array.getElem?_modify]
      rw [if_neg (by simpa using fun e => hk e.symm)]
      rfl
  have hrows : ∀ b n, rowSize w b = some n → rowSize (w.drew.freeze ⟨g, 0, none⟩ s.length) b = some n := fun k n hn => by
    by_cases hk : k = g
    · subst hk
      rw [Go.Jq.rowSize_of_row hw'] at hn
      unfold World.freeze
      rw [if_neg hl0]
      simp only [rowSize, Array.getElem?_modify, if_true, World.drew]
      rw [hw']
      simpa using hn
    · unfold rowSize
      rw [hother k hk]
      exact hn
  have hsz : (w.drew.freeze ⟨g, 0, none⟩ s.length).heap.size = w.heap.size := by
    unfold World.freeze
    rw [if_neg hl0]
    exact Array.size_modify
  have hm : ∀ id, mget ([] : Mem) id = none := fun id => rfl
  refine ⟨_, .d (.str s), [], c, rfl, ⟨rfl, rfl⟩, rfl, ⟨fun id cs h => by simp [hm] at h, fun id id' b h => by simp [hm] at h, fun b hb => ?_, hM.tabTo (fun _ h => h) fun k hk => hother k fun e => hni' (e ▸ hk)⟩, ⟨?_, ?_, ?_, ?_, fun k hk hn => hother k fun e => hn ⟨1, rfl, e ▸ hg⟩, hrows, fun _ h => h, fun _ h => .inl h⟩,
    fun b ⟨id, h, _⟩ => by simp [mget] at h, fun id _ h => by simp [mget] at h, fun id h => hfree id (Nat.le_trans (Nat.le_max_left _ _) h)⟩
  · rw [hsz]; exact hM.imm b hb
  · unfold World.freeze; rw [if_neg hl0]; rfl
  · unfold World.freeze; rw [if_neg hl0]; rfl
  · unfold World.freeze; rw [if_neg hl0]; rfl
  · rw [hsz]; exact Nat.le_refl _
end Go.Proofs.YtpfbljkfbjjlkaaGreatDoor

/- strings.Builder's WriteString, and print.Test's line, told without a heap. -/
namespace Go.Proofs.YtpfbljkfbjjlkaaGreatDoor
open Go Go.Jq
set_option maxRecDepth 100000
set_option linter.unusedSimpArgs false
def bld0 : Mem := [(0, [.npt 0 93, .slT 1 5 0]), (1, [])]
def bldA (s : List UInt8) : Mem := [(0, [.ptr 0 0, .slT 2 5 s.length]), (2, bytesAV s)]
theorem ren_bytes (π : Nat → Option Nat) (s : List UInt8) : renL π (bytesAV s) = bytesAV s := by
  have : bytesAV s = (s.map fun b => DV.int .u8 b.toNat).map .d := by simp [bytesAV]
  rw [this, renL_d]
theorem inL_bytes (π : Nat → Option Nat) (s : List UInt8) : inL π (bytesAV s) = true := by
  have : bytesAV s = (s.map fun b => DV.int .u8 b.toNat).map .d := by simp [bytesAV]
  rw [this, inL_d]
theorem ws_used {s x : List UInt8} (hx : x ≠ []) (hl : s.length + x.length ≤ 140737488351232) : ACalls Tryz.prog 59 [.ptr 0 0, .d (.str x)] (bldM s) fun r m' => r = .tup [.d (.int .i64 x.length), .d .nif] ∧ m' = bldA (s ++ x) := by
  have hx0 : ¬ x.length = 0 := by simpa using hx
  have hb := bytesAV_len s
  unfold bldM bldA
  rw [bytesAV_append]
  generalize hys : bytesAV s = ys at hb
  have hren : ∀ π, renL π ys = ys := fun π => by rw [← hys]; exact ren_bytes π s
  have hin : ∀ π, inL π ys = true := fun π => by rw [← hys]; exact inL_bytes π s
  refine acalls_of Tryz.func59 ac59_ok Tryz.ntmps59 Tryz.results59 rfl ?_
  unfold ac59
  refine bwp_seq fun K hK => bwp_region rfl ?_
  simp -implicitDefEqProofs only [go_sem, ↓reduceIte]
  refine hK _ ?_; clear hK
  refine bwp_seq fun K hK => bwp_region rfl ?_
  simp -implicitDefEqProofs only [go_sem, ↓reduceIte]
  refine callK_gen [(0, 0), (1, 1)] [.ptr 0 0] [(0, [.ptr 0 0, .slT 1 5 s.length]), (1, ys)] (nb := 2) (copyCheck_used _ _) (by simp [okRen]) (by simp [renL, AV.ren, pget]) (by simp [inL, inB, pget]) ?_ rfl ?_
  · simp [handed, pget, mget, renL, AV.ren, inL, inB, hren, hin]
  rintro r0 m' ⟨rfl, rfl⟩
  simp -implicitDefEqProofs only [go_sem, ↓reduceIte, callMem, updNew, updOld, mget, mset, renOf, pget, renL, AV.ren, hren, Option.isSome_some, Bool.and_self]
  refine hK _ ?_; clear hK
  refine bwp_seq fun K hK => bwp_region rfl ?_
  simp -implicitDefEqProofs only [go_sem, ↓reduceIte, hb, hl, hx0, mbound, List.foldr_cons, List.foldr_nil, Nat.max_def]
  refine hK _ ?_; clear hK
  refine bwp_seq fun K hK => bwp_region rfl ?_
  simp -implicitDefEqProofs only [go_sem, ↓reduceIte]
  refine hK _ ?_; clear hK
  refine bwp_ret ?_
  simp only [go_sem]
  refine aend_mem (.tup [.d (.int .i64 x.length), .d .nif]) [(0, 0), (4, 2)] _ ?_ rfl rfl ?_ ⟨rfl, rfl⟩
  · simp [resA, resVs, resV, fget]
  · simp [entM, pinv, mget, mset, mdel, renL, AV.ren, pget]
    rw [renL_append, hren]
    congr 1
    exact ren_bytes _ x
theorem ws_fresh {x : List UInt8} (hx : x ≠ []) (hl : 0 + x.length ≤ 140737488351232) : ACalls Tryz.prog 59 [.ptr 0 0, .d (.str x)] bld0 fun r m' => r = .tup [.d (.int .i64 x.length), .d .nif] ∧ m' = bldA x := by
  have hx0 : ¬ x.length = 0 := by simpa using hx
  have hl' : x.length ≤ 140737488351232 := by omega
  unfold bld0 bldA
  refine acalls_of Tryz.func59 ac59_ok Tryz.ntmps59 Tryz.results59 rfl ?_
  unfold ac59
  refine bwp_seq fun K hK => bwp_region rfl ?_
  simp -implicitDefEqProofs only [go_sem, ↓reduceIte]
  refine hK _ ?_; clear hK
  refine bwp_seq fun K hK => bwp_region rfl ?_
  simp -implicitDefEqProofs only [go_sem, ↓reduceIte]
  refine callK_gen [(0, 0), (1, 1)] [.ptr 0 0] [(0, [.npt 0 93, .slT 1 5 0]), (1, [])] (nb := 2) (copyCheck_fresh _ _) (by simp [okRen]) (by simp [renL, AV.ren, pget]) (by simp [inL, inB, pget]) ?_ rfl ?_
  · simp [handed, pget, mget, renL, AV.ren, inL, inB]
  rintro r0 m' ⟨rfl, rfl⟩
  simp -implicitDefEqProofs only [go_sem, ↓reduceIte, callMem, updNew, updOld, mget, mset, renOf, pget, renL, AV.ren, Option.isSome_some, Bool.and_self]
  refine hK _ ?_; clear hK
  refine bwp_seq fun K hK => bwp_region rfl ?_
  simp -implicitDefEqProofs only [go_sem, ↓reduceIte, hl, hl', List.length_nil, List.nil_append, Nat.zero_add, hx0, mbound, List.foldr_cons, List.foldr_nil, Nat.max_def]
  refine hK _ ?_; clear hK
  refine bwp_seq fun K hK => bwp_region rfl ?_
  simp -implicitDefEqProofs only [go_sem, ↓reduceIte]
  refine hK _ ?_; clear hK
  refine bwp_ret ?_
  simp only [go_sem]
  refine aend_mem (.tup [.d (.int .i64 x.length), .d .nif]) [(0, 0), (4, 2)] _ ?_ rfl rfl ?_ ⟨rfl, rfl⟩
  · simp [resA, resVs, resV, fget]
  · simp [entM, pinv, mget, mset, mdel, renL, AV.ren, pget]
    exact ren_bytes _ x
theorem line_used {s x : List UInt8} (hl : s.length + x.length + 1 ≤ 140737488351232) : ACalls Tryz.prog 58 [.d (.str x), .ptr 0 0] (bldM s) fun r m' => r = .tup [] ∧ m' = bldA (s ++ (x ++ [10])) := by
  have hne : x ++ [10] ≠ [] := by simp
  have hl1 : x.length + 1 ≤ 9223372036854775807 := by omega
  refine acalls_of Tryz.func58 ac58_ok Tryz.ntmps58 Tryz.results58 rfl ?_
  unfold ac58
  refine bwp_region rfl ?_
  simp -implicitDefEqProofs only [go_sem, ↓reduceIte, List.length_cons, List.length_nil, Nat.zero_add, hl1]
  refine callK_gen [(0, 0), (1, 1)] [.ptr 0 0, .d (.str (x ++ [10]))] (bldM s) (nb := 2) (ws_used hne (by simp only [List.length_append, List.length_cons, List.length_nil]; omega)) (by simp [okRen, bldM]) (by simp [renL, AV.ren, pget]) (by simp [inL, inB, pget]) ?_ rfl ?_
  · simp [bldM, handed, pget, mget, renL, AV.ren, inL, inB, ren_bytes, inL_bytes]
  rintro r0 m' ⟨rfl, rfl⟩
  simp -implicitDefEqProofs only [go_sem, ↓reduceIte]
  exact ⟨.tup [], rfl, [(0, 0), (4, 2)], bldA (s ++ (x ++ [10])), rfl, rfl, by simp [bldM, bldA, callMem, updNew, updOld, mget, mset, mdel, mbound, renOf, entM, pinv, renL, AV.ren, pget, ren_bytes], rfl, rfl⟩
theorem line_fresh {x : List UInt8} (hl : x.length + 1 ≤ 140737488351232) : ACalls Tryz.prog 58 [.d (.str x), .ptr 0 0] bld0 fun r m' => r = .tup [] ∧ m' = bldA (x ++ [10]) := by
  have hne : x ++ [10] ≠ [] := by simp
  have hl1 : x.length + 1 ≤ 9223372036854775807 := by omega
  refine acalls_of Tryz.func58 ac58_ok Tryz.ntmps58 Tryz.results58 rfl ?_
  unfold ac58
  refine bwp_region rfl ?_
  simp -implicitDefEqProofs only [go_sem, ↓reduceIte, List.length_cons, List.length_nil, Nat.zero_add, hl1]
  refine callK_gen [(0, 0), (1, 1)] [.ptr 0 0, .d (.str (x ++ [10]))] bld0 (nb := 2) (ws_fresh hne (by simp only [List.length_append, List.length_cons, List.length_nil]; omega)) (by simp [okRen, bld0]) (by simp [renL, AV.ren, pget]) (by simp [inL, inB, pget]) ?_ rfl ?_
  · simp [bld0, handed, pget, mget, renL, AV.ren, inL, inB, ren_bytes, inL_bytes]
  rintro r0 m' ⟨rfl, rfl⟩
  simp -implicitDefEqProofs only [go_sem, ↓reduceIte]
  exact ⟨.tup [], rfl, [(0, 0), (4, 2)], bldA (x ++ [10]), rfl, rfl, by simp [bld0, bldA, callMem, updNew, updOld, mget, mset, mdel, mbound, renOf, entM, pinv, renL, AV.ren, pget, ren_bytes], rfl, rfl⟩
theorem line_used_callK {s x : List UInt8} (hl : s.length + x.length + 1 ≤ 140737488351232) {i j : Nat} {dst : Option Nat} {r : List AOper} {K : St → Prop} {t : Fr} {m : Mem} {n : Nat} (hi : mget m i = some [.ptr i 0, .slT j 5 s.length]) (hj : mget m j = some (bytesAV s)) (hij : ¬ i = j)
    (hk : runOps Tryz.prog r ⟨putF t dst (.tup []), mset (mdel (mset m i [.ptr i 0, .slT (n + 2) 5 (s ++ (x ++ [10])).length]) j) (n + 2) (bytesAV (s ++ (x ++ [10]))), n + 3⟩ K) : callK Tryz.prog 58 [.d (.str x), .ptr i 0] dst r K t m n := by
  refine callK_gen [(0, i), (1, j)] [.d (.str x), .ptr 0 0] (bldM s) (nb := i + j + 1) (line_used hl) (by simp [okRen, hij, Ne.symm]; omega) (by simp [renL, AV.ren, pget]) (by simp [inL, inB, pget]) ?_ rfl ?_
  · simp [bldM, handed, pget, hi, hj, renL, AV.ren, inL, inB, ren_bytes, inL_bytes]
  rintro r0 m' ⟨rfl, rfl⟩
  have e : callMem [(0, i), (1, j)] (bldM s) (bldA (s ++ (x ++ [10]))) n m = mset (mdel (mset m i [.ptr i 0, .slT (n + 2) 5 (s ++ (x ++ [10])).length]) j) (n + 2) (bytesAV (s ++ (x ++ [10]))) := by
    simp [bldM, bldA, callMem, updNew, updOld, mget, renOf, renL, AV.ren, pget, ren_bytes]
  have e2 : n + Nat.max (mbound (bldM s)) (mbound (bldA (s ++ (x ++ [10])))) = n + 3 := rfl
  rw [e, e2]
  exact hk
theorem line_used_dCallK {s x : List UInt8} (hl : s.length + x.length + 1 ≤ 140737488351232) {i j : Nat} {dst : Option Nat} {r : List AOper} {acc : List Foot} {ms : List Nat} {K : St → Prop} {t : Fr} {m : Mem} {n : Nat} (hi : mget m i = some [.ptr i 0, .slT j 5 s.length]) (hj : mget m j = some (bytesAV s)) (hij : ¬ i = j)
    (hk : runDA Tryz.prog r (⟨[i, j, n, n + 2], [i, j]⟩ :: acc) ms ⟨putF t dst (.tup []), mset (mdel (mset m i [.ptr i 0, .slT (n + 2) 5 (s ++ (x ++ [10])).length]) j) (n + 2) (bytesAV (s ++ (x ++ [10]))), n + 3⟩ K) : dCallK Tryz.prog 58 [.d (.str x), .ptr i 0] dst r acc ms K t m n := by
  refine ⟨[(0, i), (1, j)], (bldM s), [.d (.str x), .ptr 0 0], _, _, i + j + 1, by simp [okRen, hij, Ne.symm]; omega, by simp [renL, AV.ren, pget], by simp [inL, inB, pget], by simp [bldM, handed, pget, hi, hj, renL, AV.ren, inL, inB, ren_bytes, inL_bytes], fun q id h => ?_, line_used hl, ?_⟩
  · simp only [pget] at h
    split at h
    · rename_i e; subst e; rfl
    · split at h
      · rename_i e; subst e; rfl
      · cases h
  have e : callMem [(0, i), (1, j)] (bldM s) (bldA (s ++ (x ++ [10]))) n m = mset (mdel (mset m i [.ptr i 0, .slT (n + 2) 5 (s ++ (x ++ [10])).length]) j) (n + 2) (bytesAV (s ++ (x ++ [10]))) := by
    simp [bldM, bldA, callMem, updNew, updOld, mget, renOf, renL, AV.ren, pget, ren_bytes]
  have e2 : n + Nat.max (mbound (bldM s)) (mbound (bldA (s ++ (x ++ [10])))) = n + 3 := rfl
  rw [e, e2]
  exact hk
theorem line_fresh_callK {x : List UInt8} (hl : x.length + 1 ≤ 140737488351232) {i j : Nat} {dst : Option Nat} {r : List AOper} {K : St → Prop} {t : Fr} {m : Mem} {n : Nat} (hi : mget m i = some [.npt i 93, .slT j 5 0]) (hj : mget m j = some ([])) (hij : ¬ i = j)
    (hk : runOps Tryz.prog r ⟨putF t dst (.tup []), mset (mdel (mset m i [.ptr i 0, .slT (n + 2) 5 (x ++ [10]).length]) j) (n + 2) (bytesAV (x ++ [10])), n + 3⟩ K) : callK Tryz.prog 58 [.d (.str x), .ptr i 0] dst r K t m n := by
  refine callK_gen [(0, i), (1, j)] [.d (.str x), .ptr 0 0] bld0 (nb := i + j + 1) (line_fresh hl) (by simp [okRen, hij, Ne.symm]; omega) (by simp [renL, AV.ren, pget]) (by simp [inL, inB, pget]) ?_ rfl ?_
  · simp [bld0, handed, pget, hi, hj, renL, AV.ren, inL, inB, ren_bytes, inL_bytes]
  rintro r0 m' ⟨rfl, rfl⟩
  have e : callMem [(0, i), (1, j)] bld0 (bldA (x ++ [10])) n m = mset (mdel (mset m i [.ptr i 0, .slT (n + 2) 5 (x ++ [10]).length]) j) (n + 2) (bytesAV (x ++ [10])) := by
    simp [bld0, bldA, callMem, updNew, updOld, mget, renOf, renL, AV.ren, pget, ren_bytes]
  have e2 : n + Nat.max (mbound bld0) (mbound (bldA (x ++ [10]))) = n + 3 := rfl
  rw [e, e2]
  exact hk
end Go.Proofs.YtpfbljkfbjjlkaaGreatDoor

/- Joined texts, told without a heap: what the shelf's contracts say, in the layer's words. -/
namespace Go.Proofs.YtpfbljkfbjjlkaaGreatDoor
open Go Go.Jq
set_option maxRecDepth 100000
set_option linter.unusedSimpArgs false
theorem join_pure {ss : List (List UInt8)} {X : DV} (hX : IsStrs ss X) (sep : List UInt8) (hn : ss.length ≤ 140737488355328) (hl : (Lib.join ss sep).length ≤ 140737488355328) :
    Pure Tryz.prog 105 [.d X, .d (.str sep)] (.d (.str (Lib.join ss sep))) := by
  refine pure_of_below fun c w vs hr hM => ?_
  simp only [RelL, Rel, RelD] at hr
  obtain ⟨v1, vs1, rfl, h1, v2, vs2, rfl, rfl, rfl⟩ := hr
  have none : ∀ a cap, ss = [] → Calls Tryz.prog 105 #[.slice a 0 cap, .string ⟨sep.toArray⟩] w fun e w' => ∃ u, e = .returned u ∧ w'.os = w.os ∧ w'.tape = w.tape ∧ w'.output = w.output ∧ w.heap.size ≤ w'.heap.size ∧
      (∀ k, k < w.heap.size → w'.heap[k]? = w.heap[k]?) ∧ Rel c w' (.d (.str (Lib.join ss sep))) u := by
    intro a cap h0
    refine (Tryz.strings_Join_none a cap ⟨sep.toArray⟩ w).mono ?_
    rintro e w' ⟨rfl, rfl⟩
    refine ⟨_, rfl, rfl, rfl, rfl, Nat.le_refl _, fun _ _ => rfl, ?_⟩
    subst h0
    rfl
  rcases hX.2 with ⟨rfl, h0⟩ | hX
  · simp only [RelD] at h1
    subst h1
    exact none _ _ h0
  · subst hX
    simp only [RelD] at h1
    obtain ⟨a, cap, rfl, hle, h1⟩ := h1
    rcases h1 with ⟨h0, _⟩ | ⟨b, o, rfl, hb, h1⟩
    · have h00 := List.eq_nil_of_length_eq_zero h0
      rw [h0]
      exact none _ _ h00
    · have e1 : (ss.map fun s => (⟨s.toArray⟩ : ByteArray)).map (·.data.toList) = ss := by
        rw [List.map_map]
        conv => rhs; rw [← List.map_id ss]
        exact List.map_congr_left fun s _ => by simp
      have h2 := Tryz.strings_Join b o cap (ss.map fun s => ⟨s.toArray⟩) ⟨sep.toArray⟩ w (fun j x hx => by
        simp only [List.getElem?_map, Option.map_eq_some_iff] at hx
        obtain ⟨s, hs, rfl⟩ := hx
        obtain ⟨u, hu, hr⟩ := RelDs.get h1 (i := j) (c := .str s) (by rw [flatMap_one, List.getElem?_map, hs]; rfl)
        simp only [RelD] at hr
        rw [hu, hr]) (hM.imm b hb) (by simpa using hn) (by simpa using hle) (by rw [e1]; exact hl)
      rw [List.length_map] at h2
      refine h2.mono ?_
      rintro e w' ⟨rfl, hbel⟩
      rw [e1]
      exact ⟨_, rfl, hbel.os, hbel.tape, hbel.output, hbel.size, hbel.block, rfl⟩
end Go.Proofs.YtpfbljkfbjjlkaaGreatDoor

/- An instruction's text, told without a heap. -/
namespace Go.Proofs.YtpfbljkfbjjlkaaGreatDoor
open Go Go.Jq
set_option maxRecDepth 100000
set_option linter.unusedSimpArgs false
theorem loc_pure (n : Int) : Pure Tryz.prog 60 [.d (.int .i64 n)] (.d (.str (locT n))) := by
  refine acalls_of Tryz.func60 ac60_ok Tryz.ntmps60 Tryz.results60 rfl ?_
  unfold ac60
  refine bwp_seq fun K hK => bwp_region rfl ?_
  simp -implicitDefEqProofs only [go_sem, ↓reduceIte]
  refine hK _ ?_; clear hK
  refine bwp_seq fun K hK => bwp_region rfl ?_
  simp -implicitDefEqProofs only [go_sem, ↓reduceIte]
  refine hK _ ?_; clear hK
  refine bwp_ret ?_
  simp only [go_sem]
  refine aend_ret _ rfl rfl ⟨?_, rfl⟩
  simp [fget, locT]
theorem reg_pure {n : Int} (h : I64 n) : Pure Tryz.prog 103 [.d (.int .i64 n)] (.d (.str (regT n))) := by
  refine acalls_of Tryz.func103 ac103_ok Tryz.ntmps103 Tryz.results103 rfl ?_
  unfold ac103
  refine bwp_seq fun K hK => bwp_region rfl ?_
  simp -implicitDefEqProofs only [go_sem, ↓reduceIte]
  refine hK _ ?_; clear hK
  refine bwp_seq fun K hK => bwp_region rfl ?_
  simp -implicitDefEqProofs only [go_sem, ↓reduceIte]
  refine callK_pure (text_pure h) rfl rfl ?_
  have hl := itoa_len h
  have hl2 : 1 + (Lib.itoa n).length ≤ 9223372036854775807 := by omega
  simp -implicitDefEqProofs only [go_sem, ↓reduceIte, hl2]
  refine hK _ ?_; clear hK
  refine bwp_ret ?_
  simp only [go_sem]
  refine aend_ret _ rfl rfl ⟨?_, rfl⟩
  simp [fget, regT]
theorem operand_pure {o : Opnd} (h : I64 o.value) (h' : I64 o.reg) : Pure Tryz.prog 102 [.agg (o.cells.map .d)] (.d (.str (opT o))) := by
  refine acalls_of Tryz.func102 ac102_ok Tryz.ntmps102 Tryz.results102 rfl ?_
  unfold ac102
  refine bwp_seq fun K hK => bwp_region rfl ?_
  simp -implicitDefEqProofs only [go_sem, ↓reduceIte, Opnd.cells]
  refine hK _ ?_; clear hK
  refine bwp_seq fun K1 hK1 => ?_
  refine bwp_seq fun K hK => bwp_region rfl ?_
  simp -implicitDefEqProofs only [go_sem, ↓reduceIte]
  refine hK _ ?_; clear hK
  by_cases h1 : o.reg = -1
  · refine bwp_cond true (by simp [ev, fget, h1]) (fun _ => ?_) (fun h => nomatch h)
    refine bwp_seq fun K hK => bwp_region rfl ?_
    simp -implicitDefEqProofs only [go_sem, ↓reduceIte]
    refine callK_pure (text_pure h) rfl rfl ?_
    simp -implicitDefEqProofs only [go_sem, ↓reduceIte]
    refine hK _ ?_; clear hK
    refine bwp_ret ?_
    simp only [go_sem]
    refine aend_ret _ rfl rfl ⟨?_, rfl⟩
    simp [fget, opT, h1]
  · refine bwp_cond false (by simp [ev, fget, h1]) (fun h => nomatch h) (fun _ => ?_)
    refine bwp_skip ?_
    refine hK1 _ ?_; clear hK1
    refine bwp_seq fun K hK => bwp_region rfl ?_
    simp -implicitDefEqProofs only [go_sem, ↓reduceIte]
    refine callK_pure (reg_pure h') rfl rfl ?_
    simp -implicitDefEqProofs only [go_sem, ↓reduceIte]
    refine hK _ ?_; clear hK
    refine bwp_ret ?_
    simp only [go_sem]
    refine aend_ret _ rfl rfl ⟨?_, rfl⟩
    simp [fget, opT, h1]
theorem sign_pure (op : Int) : Pure Tryz.prog 104 [.d (.int .i64 op)] (.d (.str (signT op))) := by
  refine acalls_of Tryz.func104 ac104_ok Tryz.ntmps104 Tryz.results104 rfl ?_
  unfold ac104
  refine bwp_seq fun K hK => bwp_region rfl ?_
  simp -implicitDefEqProofs only [go_sem, ↓reduceIte]
  refine hK _ ?_; clear hK
  refine bwp_seq fun K1 hK1 => ?_
  by_cases h1 : op < 1
  · refine bwp_seq fun K hK => bwp_region rfl ?_
    simp -implicitDefEqProofs only [go_sem, ↓reduceIte, h1]
    refine hK _ ?_; clear hK
    refine bwp_cond true (by simp [ev, fget, h1]) (fun _ => ?_) (fun h => nomatch h)
    refine bwp_seq fun K hK => bwp_region rfl ?_
    simp -implicitDefEqProofs only [go_sem, ↓reduceIte]
    refine hK _ ?_; clear hK
    refine bwp_ret ?_
    simp only [go_sem]
    refine aend_ret _ rfl rfl ⟨?_, rfl⟩
    have : ¬ 1 ≤ op := by omega
    simp [fget, signT, this]
  · by_cases h2 : 11 < op
    · refine bwp_seq fun K hK => bwp_region rfl ?_
      simp -implicitDefEqProofs only [go_sem, ↓reduceIte, h1, h2]
      refine hK _ ?_; clear hK
      refine bwp_cond true (by simp [ev, fget, h1, h2]) (fun _ => ?_) (fun h => nomatch h)
      refine bwp_seq fun K hK => bwp_region rfl ?_
      simp -implicitDefEqProofs only [go_sem, ↓reduceIte]
      refine hK _ ?_; clear hK
      refine bwp_ret ?_
      simp only [go_sem]
      refine aend_ret _ rfl rfl ⟨?_, rfl⟩
      have : ¬ op ≤ 11 := by omega
      simp [fget, signT, this]
    · refine bwp_seq fun K hK => bwp_region rfl ?_
      simp -implicitDefEqProofs only [go_sem, ↓reduceIte, h1, h2]
      refine hK _ ?_; clear hK
      refine bwp_cond false (by simp [ev, fget, h1, h2]) (fun h => nomatch h) (fun _ => ?_)
      refine bwp_skip ?_
      refine hK1 _ ?_; clear hK1
      refine bwp_seq fun K hK => bwp_region rfl ?_
      simp -implicitDefEqProofs only [go_sem, ↓reduceIte]
      refine callK_pure signs_pure rfl rfl ?_
      simp -implicitDefEqProofs only [go_sem, ↓reduceIte, signsT]
      refine hK _ ?_; clear hK
      obtain ⟨q, rfl⟩ : ∃ q : Nat, op = q := ⟨op.toNat, by omega⟩
      have hq : (q : Int) < 12 := by omega
      have hq0 : (0 : Int) ≤ q := by omega
      have hq2 : q < 12 := by omega
      have hcell : [AV.d (DV.str []), AV.d (DV.str [43]), AV.d (DV.str [45]), AV.d (DV.str [42]), AV.d (DV.str [38]), AV.d (DV.str [124]), AV.d (DV.str [94]), AV.d (DV.str [60, 60]), AV.d (DV.str [62, 62]), AV.d (DV.str [61, 61]), AV.d (DV.str [33, 61]), AV.d (DV.str [60])][q]? = some (.d (.str (signT q))) := by
        have : q ∈ List.range 12 := by simp [hq2]
        have key : ∀ q ∈ List.range 12, 1 ≤ q → [AV.d (DV.str []), AV.d (DV.str [43]), AV.d (DV.str [45]), AV.d (DV.str [42]), AV.d (DV.str [38]), AV.d (DV.str [124]), AV.d (DV.str [94]), AV.d (DV.str [60, 60]), AV.d (DV.str [62, 62]), AV.d (DV.str [61, 61]), AV.d (DV.str [33, 61]), AV.d (DV.str [60])][q]? = some (.d (.str (signT q))) := by
          intro q hq hq1
          simp only [List.mem_range] at hq
          match q, hq, hq1 with
          | 1, _, _ => rfl | 2, _, _ => rfl | 3, _, _ => rfl | 4, _, _ => rfl | 5, _, _ => rfl | 6, _, _ => rfl | 7, _, _ => rfl | 8, _, _ => rfl | 9, _, _ => rfl | 10, _, _ => rfl | 11, _, _ => rfl
        exact key q this (by omega)
      refine bwp_seq fun K hK => bwp_region rfl ?_
      simp -implicitDefEqProofs only [go_sem, ↓reduceIte, hq, hq0, hq2, Int.toNat_natCast, Int.natCast_nonneg, List.getElem?_drop, Nat.add_zero, hcell]
      refine hK _ ?_; clear hK
      refine bwp_ret ?_
      simp only [go_sem]
      refine aend_ret _ rfl rfl ⟨?_, rfl⟩
      simp [fget]
end Go.Proofs.YtpfbljkfbjjlkaaGreatDoor

/- An instruction's text: what print.Ins comes to. -/
namespace Go.Proofs.YtpfbljkfbjjlkaaGreatDoor
open Go Go.Jq
set_option maxRecDepth 100000
set_option linter.unusedSimpArgs false
set_option maxHeartbeats 4000000 in
theorem ins_pure {x : Ins} (h : I64i x) : Pure Tryz.prog 57 [.agg (x.cells.map .d)] (.d (.str (insT x))) := by
  obtain ⟨i1, i2, i3, i4, i5, i6⟩ := h
  have hok := okIns_pure x
  have hA : Pure Tryz.prog 102 [.agg [.d (.int .i64 x.a.reg), .d (.int .i64 x.a.value)]] (.d (.str (opT x.a))) := operand_pure i3 i2
  have hB : Pure Tryz.prog 102 [.agg [.d (.int .i64 x.b.reg), .d (.int .i64 x.b.value)]] (.d (.str (opT x.b))) := operand_pure i5 i4
  simp only [Ins.cells, List.map_cons, List.map_nil] at hok
  refine acalls_of Tryz.func57 ac57_ok Tryz.ntmps57 Tryz.results57 rfl ?_
  unfold ac57
  refine bwp_seq fun K hK => bwp_region rfl ?_
  simp -implicitDefEqProofs only [go_sem, ↓reduceIte, Ins.cells]
  refine hK _ ?_; clear hK
  refine bwp_seq fun K1 hK1 => ?_
  refine bwp_seq fun K hK => bwp_region rfl ?_
  simp -implicitDefEqProofs only [go_sem, ↓reduceIte]
  refine callK_pure hok rfl rfl ?_
  simp -implicitDefEqProofs only [go_sem, ↓reduceIte]
  refine hK _ ?_; clear hK
  by_cases hx : okInsB x = true
  · rw [hx]
    refine bwp_cond false (by simp [ev, fget]) (fun h => nomatch h) (fun _ => ?_)
    refine bwp_skip ?_
    refine hK1 _ ?_; clear hK1
    have hj := insT_join ⟨i1, i2, i3, i4, i5, i6⟩
    have hp := (partsI_len (x := x) ⟨i1, i2, i3, i4, i5, i6⟩).1
    have hins : insT x = Lib.join (partsI x ++ [[59]]) [32] := by simp [insT, hx]
    have hkinds : x.kind = 1 ∨ x.kind = 2 ∨ x.kind = 3 ∨ x.kind = 4 ∨ x.kind = 5 ∨ x.kind = 6 := by
      unfold okInsB at hx
      repeat' split at hx
      all_goals first | omega | simp_all
    refine bwp_seq fun K hK => bwp_region rfl ?_
    simp -implicitDefEqProofs only [go_sem, ↓reduceIte]
    refine hK _ ?_; clear hK
    refine bwp_seq fun K2 hK2 => ?_
    -- the end, by the state
    have fin : ∀ (S : St), Leads (mbound []) 82 S ⟨[(3, .sl 0 1 0 (partsI x).length)], [(0, ((partsI x).map DV.str).map AV.d)], 1⟩ → K2 S := by
      intro S hS
      refine hK2 _ ?_
      refine bwp_leads hS ?_
      have hp16 : ((partsI x).length + 1) * 16 ≤ 140737488351232 := by omega
      refine bwp_seq fun K hK => bwp_region rfl ?_
      simp -implicitDefEqProofs only [go_sem, ↓reduceIte, hp16]
      have hstr : IsStrs (partsI x ++ [[59]]) (.sl ((partsI x).length + 1) ((partsI x ++ [[59]]).map .str)) :=
        ⟨by simp; omega, .inr (by rw [flatMap_one]; simp)⟩
      refine callK_lend [(2, (partsI x ++ [[59]]).map .str)] _ (join_pure hstr [32] (by simp; omega) (by omega)) ?_ ?_ (fun v h => by subst h; rfl) ?_
      · simp [zokFrom, mget, mset, mdel, cvL, cvL_append, AV.cv, cvL_d, -List.map_map]
      · have htk : (((partsI x ++ [[59]]).map DV.str).take ((partsI x).length + 1)) = (partsI x ++ [[59]]).map DV.str := List.take_of_length_le (by simp)
        simp only [cvL, AV.cv, zget, if_true, Nat.mul_one, Nat.zero_add, List.drop_zero]
        rw [htk]
      rintro v rfl
      simp -implicitDefEqProofs only [go_sem, ↓reduceIte]
      refine hK _ ?_; clear hK
      refine bwp_ret ?_
      simp only [go_sem]
      refine aend_ret _ rfl rfl ⟨?_, rfl⟩
      simp [fget, hins]
    refine bwp_seq fun K hK => bwp_region rfl ?_
    simp -implicitDefEqProofs only [go_sem, ↓reduceIte]
    refine hK _ ?_; clear hK
    refine bwp_block ?_
    rcases hkinds with hk | hk | hk | hk | hk | hk
    · refine bwp_seq fun K hK => bwp_region rfl ?_
      simp -implicitDefEqProofs only [go_sem, ↓reduceIte, hk]
      refine hK _ ?_; clear hK
      refine bwp_cond true (by simp [ev, fget, hk]) (fun _ => ?_) (fun h => nomatch h)
      refine bwp_region_draw rfl rfl ?_
      simp -implicitDefEqProofs only [go_sem, ↓reduceIte]
      repeat' (first
        | (refine gateK_split (fun hb => ?_) (fun hb => ?_) <;> simp -implicitDefEqProofs only [go_sem, ↓reduceIte, hb])
        | (refine dGateK_split (fun hb => ?_) (fun hb => ?_) <;> simp -implicitDefEqProofs only [go_sem, ↓reduceIte, hb])
        | (refine callK_pure (loc_pure x.loc) rfl rfl ?_; simp -implicitDefEqProofs only [go_sem, ↓reduceIte])
        | (refine dCallK_pure (loc_pure x.loc) rfl rfl ?_; simp -implicitDefEqProofs only [go_sem, ↓reduceIte])
        | (refine callK_pure (reg_pure i1) rfl rfl ?_; simp -implicitDefEqProofs only [go_sem, ↓reduceIte])
        | (refine dCallK_pure (reg_pure i1) rfl rfl ?_; simp -implicitDefEqProofs only [go_sem, ↓reduceIte])
        | (refine callK_pure (hA) rfl rfl ?_; simp -implicitDefEqProofs only [go_sem, ↓reduceIte])
        | (refine dCallK_pure (hA) rfl rfl ?_; simp -implicitDefEqProofs only [go_sem, ↓reduceIte])
        | (refine callK_pure (hB) rfl rfl ?_; simp -implicitDefEqProofs only [go_sem, ↓reduceIte])
        | (refine dCallK_pure (hB) rfl rfl ?_; simp -implicitDefEqProofs only [go_sem, ↓reduceIte])
        | (refine callK_pure (text_pure i6) rfl rfl ?_; simp -implicitDefEqProofs only [go_sem, ↓reduceIte])
        | (refine dCallK_pure (text_pure i6) rfl rfl ?_; simp -implicitDefEqProofs only [go_sem, ↓reduceIte])
        | (refine callK_pure (sign_pure x.op) rfl rfl ?_; simp -implicitDefEqProofs only [go_sem, ↓reduceIte])
        | (refine dCallK_pure (sign_pure x.op) rfl rfl ?_; simp -implicitDefEqProofs only [go_sem, ↓reduceIte])
        | (rw [if_pos (by (try simp only [List.length_append, List.length_cons, List.length_nil, List.length_map]); omega)]; simp -implicitDefEqProofs only [go_sem, ↓reduceIte]))
      refine ⟨rfl, ?_⟩
      exact fin _ (Leads.ent [(5, 0)] ⟨by simp [entT, fget, AV.ren, renL, pget, partsI, hk], by simp [entM, pinv, mget, mset, mdel, renL, AV.ren, pget, renL_append, -List.map_map, partsI, hk], rfl, rfl⟩)
    · refine bwp_seq fun K hK => bwp_region rfl ?_
      simp -implicitDefEqProofs only [go_sem, ↓reduceIte, hk]
      refine hK _ ?_; clear hK
      refine bwp_cond false (by simp [ev, fget, hk]) (fun h => nomatch h) (fun _ => ?_)
      refine bwp_seq fun K hK => bwp_region rfl ?_
      simp -implicitDefEqProofs only [go_sem, ↓reduceIte, hk]
      refine hK _ ?_; clear hK
      refine bwp_cond true (by simp [ev, fget, hk]) (fun _ => ?_) (fun h => nomatch h)
      refine bwp_region_draw rfl rfl ?_
      simp -implicitDefEqProofs only [go_sem, ↓reduceIte]
      repeat' (first
        | (refine gateK_split (fun hb => ?_) (fun hb => ?_) <;> simp -implicitDefEqProofs only [go_sem, ↓reduceIte, hb])
        | (refine dGateK_split (fun hb => ?_) (fun hb => ?_) <;> simp -implicitDefEqProofs only [go_sem, ↓reduceIte, hb])
        | (refine callK_pure (loc_pure x.loc) rfl rfl ?_; simp -implicitDefEqProofs only [go_sem, ↓reduceIte])
        | (refine dCallK_pure (loc_pure x.loc) rfl rfl ?_; simp -implicitDefEqProofs only [go_sem, ↓reduceIte])
        | (refine callK_pure (reg_pure i1) rfl rfl ?_; simp -implicitDefEqProofs only [go_sem, ↓reduceIte])
        | (refine dCallK_pure (reg_pure i1) rfl rfl ?_; simp -implicitDefEqProofs only [go_sem, ↓reduceIte])
        | (refine callK_pure (hA) rfl rfl ?_; simp -implicitDefEqProofs only [go_sem, ↓reduceIte])
        | (refine dCallK_pure (hA) rfl rfl ?_; simp -implicitDefEqProofs only [go_sem, ↓reduceIte])
        | (refine callK_pure (hB) rfl rfl ?_; simp -implicitDefEqProofs only [go_sem, ↓reduceIte])
        | (refine dCallK_pure (hB) rfl rfl ?_; simp -implicitDefEqProofs only [go_sem, ↓reduceIte])
        | (refine callK_pure (text_pure i6) rfl rfl ?_; simp -implicitDefEqProofs only [go_sem, ↓reduceIte])
        | (refine dCallK_pure (text_pure i6) rfl rfl ?_; simp -implicitDefEqProofs only [go_sem, ↓reduceIte])
        | (refine callK_pure (sign_pure x.op) rfl rfl ?_; simp -implicitDefEqProofs only [go_sem, ↓reduceIte])
        | (refine dCallK_pure (sign_pure x.op) rfl rfl ?_; simp -implicitDefEqProofs only [go_sem, ↓reduceIte])
        | (rw [if_pos (by (try simp only [List.length_append, List.length_cons, List.length_nil, List.length_map]); omega)]; simp -implicitDefEqProofs only [go_sem, ↓reduceIte]))
      refine ⟨rfl, ?_⟩
      exact fin _ (Leads.ent [(5, 0)] ⟨by simp [entT, fget, AV.ren, renL, pget, partsI, hk], by simp [entM, pinv, mget, mset, mdel, renL, AV.ren, pget, renL_append, -List.map_map, partsI, hk], rfl, rfl⟩)
    · refine bwp_seq fun K hK => bwp_region rfl ?_
      simp -implicitDefEqProofs only [go_sem, ↓reduceIte, hk]
      refine hK _ ?_; clear hK
      refine bwp_cond false (by simp [ev, fget, hk]) (fun h => nomatch h) (fun _ => ?_)
      refine bwp_seq fun K hK => bwp_region rfl ?_
      simp -implicitDefEqProofs only [go_sem, ↓reduceIte, hk]
      refine hK _ ?_; clear hK
      refine bwp_cond false (by simp [ev, fget, hk]) (fun h => nomatch h) (fun _ => ?_)
      refine bwp_seq fun K hK => bwp_region rfl ?_
      simp -implicitDefEqProofs only [go_sem, ↓reduceIte, hk]
      refine hK _ ?_; clear hK
      refine bwp_cond true (by simp [ev, fget, hk]) (fun _ => ?_) (fun h => nomatch h)
      refine bwp_region rfl ?_
      simp -implicitDefEqProofs only [go_sem, ↓reduceIte]
      exact fin _ (Leads.ent [(1, 0)] ⟨by simp [entT, fget, AV.ren, renL, pget, partsI, hk], by simp [entM, pinv, mget, mset, mdel, renL, AV.ren, pget, renL_append, -List.map_map, partsI, hk], rfl, rfl⟩)
    · refine bwp_seq fun K hK => bwp_region rfl ?_
      simp -implicitDefEqProofs only [go_sem, ↓reduceIte, hk]
      refine hK _ ?_; clear hK
      refine bwp_cond false (by simp [ev, fget, hk]) (fun h => nomatch h) (fun _ => ?_)
      refine bwp_seq fun K hK => bwp_region rfl ?_
      simp -implicitDefEqProofs only [go_sem, ↓reduceIte, hk]
      refine hK _ ?_; clear hK
      refine bwp_cond false (by simp [ev, fget, hk]) (fun h => nomatch h) (fun _ => ?_)
      refine bwp_seq fun K hK => bwp_region rfl ?_
      simp -implicitDefEqProofs only [go_sem, ↓reduceIte, hk]
      refine hK _ ?_; clear hK
      refine bwp_cond false (by simp [ev, fget, hk]) (fun h => nomatch h) (fun _ => ?_)
      refine bwp_seq fun K hK => bwp_region rfl ?_
      simp -implicitDefEqProofs only [go_sem, ↓reduceIte, hk]
      refine hK _ ?_; clear hK
      refine bwp_cond true (by simp [ev, fget, hk]) (fun _ => ?_) (fun h => nomatch h)
      refine bwp_region_draw rfl rfl ?_
      simp -implicitDefEqProofs only [go_sem, ↓reduceIte]
      repeat' (first
        | (refine gateK_split (fun hb => ?_) (fun hb => ?_) <;> simp -implicitDefEqProofs only [go_sem, ↓reduceIte, hb])
        | (refine dGateK_split (fun hb => ?_) (fun hb => ?_) <;> simp -implicitDefEqProofs only [go_sem, ↓reduceIte, hb])
        | (refine callK_pure (loc_pure x.loc) rfl rfl ?_; simp -implicitDefEqProofs only [go_sem, ↓reduceIte])
        | (refine dCallK_pure (loc_pure x.loc) rfl rfl ?_; simp -implicitDefEqProofs only [go_sem, ↓reduceIte])
        | (refine callK_pure (reg_pure i1) rfl rfl ?_; simp -implicitDefEqProofs only [go_sem, ↓reduceIte])
        | (refine dCallK_pure (reg_pure i1) rfl rfl ?_; simp -implicitDefEqProofs only [go_sem, ↓reduceIte])
        | (refine callK_pure (hA) rfl rfl ?_; simp -implicitDefEqProofs only [go_sem, ↓reduceIte])
        | (refine dCallK_pure (hA) rfl rfl ?_; simp -implicitDefEqProofs only [go_sem, ↓reduceIte])
        | (refine callK_pure (hB) rfl rfl ?_; simp -implicitDefEqProofs only [go_sem, ↓reduceIte])
        | (refine dCallK_pure (hB) rfl rfl ?_; simp -implicitDefEqProofs only [go_sem, ↓reduceIte])
        | (refine callK_pure (text_pure i6) rfl rfl ?_; simp -implicitDefEqProofs only [go_sem, ↓reduceIte])
        | (refine dCallK_pure (text_pure i6) rfl rfl ?_; simp -implicitDefEqProofs only [go_sem, ↓reduceIte])
        | (refine callK_pure (sign_pure x.op) rfl rfl ?_; simp -implicitDefEqProofs only [go_sem, ↓reduceIte])
        | (refine dCallK_pure (sign_pure x.op) rfl rfl ?_; simp -implicitDefEqProofs only [go_sem, ↓reduceIte])
        | (rw [if_pos (by (try simp only [List.length_append, List.length_cons, List.length_nil, List.length_map]); omega)]; simp -implicitDefEqProofs only [go_sem, ↓reduceIte]))
      refine ⟨rfl, ?_⟩
      exact fin _ (Leads.ent [(9, 0)] ⟨by simp [entT, fget, AV.ren, renL, pget, partsI, hk], by simp [entM, pinv, mget, mset, mdel, renL, AV.ren, pget, renL_append, -List.map_map, partsI, hk], rfl, rfl⟩)
    · refine bwp_seq fun K hK => bwp_region rfl ?_
      simp -implicitDefEqProofs only [go_sem, ↓reduceIte, hk]
      refine hK _ ?_; clear hK
      refine bwp_cond false (by simp [ev, fget, hk]) (fun h => nomatch h) (fun _ => ?_)
      refine bwp_seq fun K hK => bwp_region rfl ?_
      simp -implicitDefEqProofs only [go_sem, ↓reduceIte, hk]
      refine hK _ ?_; clear hK
      refine bwp_cond false (by simp [ev, fget, hk]) (fun h => nomatch h) (fun _ => ?_)
      refine bwp_seq fun K hK => bwp_region rfl ?_
      simp -implicitDefEqProofs only [go_sem, ↓reduceIte, hk]
      refine hK _ ?_; clear hK
      refine bwp_cond false (by simp [ev, fget, hk]) (fun h => nomatch h) (fun _ => ?_)
      refine bwp_seq fun K hK => bwp_region rfl ?_
      simp -implicitDefEqProofs only [go_sem, ↓reduceIte, hk]
      refine hK _ ?_; clear hK
      refine bwp_cond false (by simp [ev, fget, hk]) (fun h => nomatch h) (fun _ => ?_)
      refine bwp_seq fun K hK => bwp_region rfl ?_
      simp -implicitDefEqProofs only [go_sem, ↓reduceIte, hk]
      refine hK _ ?_; clear hK
      refine bwp_cond true (by simp [ev, fget, hk]) (fun _ => ?_) (fun h => nomatch h)
      refine bwp_seq fun K hK => bwp_region_draw rfl rfl ?_
      simp -implicitDefEqProofs only [go_sem, ↓reduceIte]
      repeat' (first
        | (refine gateK_split (fun hb => ?_) (fun hb => ?_) <;> simp -implicitDefEqProofs only [go_sem, ↓reduceIte, hb])
        | (refine dGateK_split (fun hb => ?_) (fun hb => ?_) <;> simp -implicitDefEqProofs only [go_sem, ↓reduceIte, hb])
        | (refine callK_pure (loc_pure x.loc) rfl rfl ?_; simp -implicitDefEqProofs only [go_sem, ↓reduceIte])
        | (refine dCallK_pure (loc_pure x.loc) rfl rfl ?_; simp -implicitDefEqProofs only [go_sem, ↓reduceIte])
        | (refine callK_pure (reg_pure i1) rfl rfl ?_; simp -implicitDefEqProofs only [go_sem, ↓reduceIte])
        | (refine dCallK_pure (reg_pure i1) rfl rfl ?_; simp -implicitDefEqProofs only [go_sem, ↓reduceIte])
        | (refine callK_pure (hA) rfl rfl ?_; simp -implicitDefEqProofs only [go_sem, ↓reduceIte])
        | (refine dCallK_pure (hA) rfl rfl ?_; simp -implicitDefEqProofs only [go_sem, ↓reduceIte])
        | (refine callK_pure (hB) rfl rfl ?_; simp -implicitDefEqProofs only [go_sem, ↓reduceIte])
        | (refine dCallK_pure (hB) rfl rfl ?_; simp -implicitDefEqProofs only [go_sem, ↓reduceIte])
        | (refine callK_pure (text_pure i6) rfl rfl ?_; simp -implicitDefEqProofs only [go_sem, ↓reduceIte])
        | (refine dCallK_pure (text_pure i6) rfl rfl ?_; simp -implicitDefEqProofs only [go_sem, ↓reduceIte])
        | (refine callK_pure (sign_pure x.op) rfl rfl ?_; simp -implicitDefEqProofs only [go_sem, ↓reduceIte])
        | (refine dCallK_pure (sign_pure x.op) rfl rfl ?_; simp -implicitDefEqProofs only [go_sem, ↓reduceIte])
        | (rw [if_pos (by (try simp only [List.length_append, List.length_cons, List.length_nil, List.length_map]); omega)]; simp -implicitDefEqProofs only [go_sem, ↓reduceIte]))
      refine ⟨rfl, hK _ ?_⟩; clear hK
      refine bwp_seq fun K hK => bwp_region rfl ?_
      simp -implicitDefEqProofs only [go_sem, ↓reduceIte]
      refine hK _ ?_; clear hK
      by_cases ho : 0 < x.op
      · refine bwp_cond true (by simp [ev, fget, ho]) (fun _ => ?_) (fun h => nomatch h)
        refine bwp_region_draw rfl rfl ?_
        simp -implicitDefEqProofs only [go_sem, ↓reduceIte]
        repeat' (first
          | (refine gateK_split (fun hb => ?_) (fun hb => ?_) <;> simp -implicitDefEqProofs only [go_sem, ↓reduceIte, hb])
          | (refine dGateK_split (fun hb => ?_) (fun hb => ?_) <;> simp -implicitDefEqProofs only [go_sem, ↓reduceIte, hb])
          | (refine callK_pure (loc_pure x.loc) rfl rfl ?_; simp -implicitDefEqProofs only [go_sem, ↓reduceIte])
          | (refine dCallK_pure (loc_pure x.loc) rfl rfl ?_; simp -implicitDefEqProofs only [go_sem, ↓reduceIte])
          | (refine callK_pure (reg_pure i1) rfl rfl ?_; simp -implicitDefEqProofs only [go_sem, ↓reduceIte])
          | (refine dCallK_pure (reg_pure i1) rfl rfl ?_; simp -implicitDefEqProofs only [go_sem, ↓reduceIte])
          | (refine callK_pure (hA) rfl rfl ?_; simp -implicitDefEqProofs only [go_sem, ↓reduceIte])
          | (refine dCallK_pure (hA) rfl rfl ?_; simp -implicitDefEqProofs only [go_sem, ↓reduceIte])
          | (refine callK_pure (hB) rfl rfl ?_; simp -implicitDefEqProofs only [go_sem, ↓reduceIte])
          | (refine dCallK_pure (hB) rfl rfl ?_; simp -implicitDefEqProofs only [go_sem, ↓reduceIte])
          | (refine callK_pure (text_pure i6) rfl rfl ?_; simp -implicitDefEqProofs only [go_sem, ↓reduceIte])
          | (refine dCallK_pure (text_pure i6) rfl rfl ?_; simp -implicitDefEqProofs only [go_sem, ↓reduceIte])
          | (refine callK_pure (sign_pure x.op) rfl rfl ?_; simp -implicitDefEqProofs only [go_sem, ↓reduceIte])
          | (refine dCallK_pure (sign_pure x.op) rfl rfl ?_; simp -implicitDefEqProofs only [go_sem, ↓reduceIte])
          | (rw [if_pos (by (try simp only [List.length_append, List.length_cons, List.length_nil, List.length_map]); omega)]; simp -implicitDefEqProofs only [go_sem, ↓reduceIte]))
        refine ⟨rfl, ?_⟩
        exact fin _ (Leads.ent [(13, 0)] ⟨by simp [entT, fget, AV.ren, renL, pget, partsI, hk, ho], by simp [entM, pinv, mget, mset, mdel, renL, AV.ren, pget, renL_append, -List.map_map, partsI, hk, ho], rfl, rfl⟩)
      · refine bwp_cond false (by simp [ev, fget, ho]) (fun h => nomatch h) (fun _ => ?_)
        refine bwp_skip ?_
        exact fin _ (Leads.ent [(5, 0)] ⟨by simp [entT, fget, AV.ren, renL, pget, partsI, hk, ho], by simp [entM, pinv, mget, mset, mdel, renL, AV.ren, pget, renL_append, -List.map_map, partsI, hk, ho], rfl, rfl⟩)
    · refine bwp_seq fun K hK => bwp_region rfl ?_
      simp -implicitDefEqProofs only [go_sem, ↓reduceIte, hk]
      refine hK _ ?_; clear hK
      refine bwp_cond false (by simp [ev, fget, hk]) (fun h => nomatch h) (fun _ => ?_)
      refine bwp_seq fun K hK => bwp_region rfl ?_
      simp -implicitDefEqProofs only [go_sem, ↓reduceIte, hk]
      refine hK _ ?_; clear hK
      refine bwp_cond false (by simp [ev, fget, hk]) (fun h => nomatch h) (fun _ => ?_)
      refine bwp_seq fun K hK => bwp_region rfl ?_
      simp -implicitDefEqProofs only [go_sem, ↓reduceIte, hk]
      refine hK _ ?_; clear hK
      refine bwp_cond false (by simp [ev, fget, hk]) (fun h => nomatch h) (fun _ => ?_)
      refine bwp_seq fun K hK => bwp_region rfl ?_
      simp -implicitDefEqProofs only [go_sem, ↓reduceIte, hk]
      refine hK _ ?_; clear hK
      refine bwp_cond false (by simp [ev, fget, hk]) (fun h => nomatch h) (fun _ => ?_)
      refine bwp_seq fun K hK => bwp_region rfl ?_
      simp -implicitDefEqProofs only [go_sem, ↓reduceIte, hk]
      refine hK _ ?_; clear hK
      refine bwp_cond false (by simp [ev, fget, hk]) (fun h => nomatch h) (fun _ => ?_)
      refine bwp_seq fun K hK => bwp_region rfl ?_
      simp -implicitDefEqProofs only [go_sem, ↓reduceIte, hk]
      refine hK _ ?_; clear hK
      refine bwp_cond true (by simp [ev, fget, hk]) (fun _ => ?_) (fun h => nomatch h)
      refine bwp_region_draw rfl rfl ?_
      simp -implicitDefEqProofs only [go_sem, ↓reduceIte]
      repeat' (first
        | (refine gateK_split (fun hb => ?_) (fun hb => ?_) <;> simp -implicitDefEqProofs only [go_sem, ↓reduceIte, hb])
        | (refine dGateK_split (fun hb => ?_) (fun hb => ?_) <;> simp -implicitDefEqProofs only [go_sem, ↓reduceIte, hb])
        | (refine callK_pure (loc_pure x.loc) rfl rfl ?_; simp -implicitDefEqProofs only [go_sem, ↓reduceIte])
        | (refine dCallK_pure (loc_pure x.loc) rfl rfl ?_; simp -implicitDefEqProofs only [go_sem, ↓reduceIte])
        | (refine callK_pure (reg_pure i1) rfl rfl ?_; simp -implicitDefEqProofs only [go_sem, ↓reduceIte])
        | (refine dCallK_pure (reg_pure i1) rfl rfl ?_; simp -implicitDefEqProofs only [go_sem, ↓reduceIte])
        | (refine callK_pure (hA) rfl rfl ?_; simp -implicitDefEqProofs only [go_sem, ↓reduceIte])
        | (refine dCallK_pure (hA) rfl rfl ?_; simp -implicitDefEqProofs only [go_sem, ↓reduceIte])
        | (refine callK_pure (hB) rfl rfl ?_; simp -implicitDefEqProofs only [go_sem, ↓reduceIte])
        | (refine dCallK_pure (hB) rfl rfl ?_; simp -implicitDefEqProofs only [go_sem, ↓reduceIte])
        | (refine callK_pure (text_pure i6) rfl rfl ?_; simp -implicitDefEqProofs only [go_sem, ↓reduceIte])
        | (refine dCallK_pure (text_pure i6) rfl rfl ?_; simp -implicitDefEqProofs only [go_sem, ↓reduceIte])
        | (refine callK_pure (sign_pure x.op) rfl rfl ?_; simp -implicitDefEqProofs only [go_sem, ↓reduceIte])
        | (refine dCallK_pure (sign_pure x.op) rfl rfl ?_; simp -implicitDefEqProofs only [go_sem, ↓reduceIte])
        | (rw [if_pos (by (try simp only [List.length_append, List.length_cons, List.length_nil, List.length_map]); omega)]; simp -implicitDefEqProofs only [go_sem, ↓reduceIte]))
      refine ⟨rfl, ?_⟩
      exact fin _ (Leads.ent [(7, 0)] ⟨by simp [entT, fget, AV.ren, renL, pget, partsI, hk], by simp [entM, pinv, mget, mset, mdel, renL, AV.ren, pget, renL_append, -List.map_map, partsI, hk], rfl, rfl⟩)
  · have hx : okInsB x = false := by simpa using hx
    rw [hx]
    refine bwp_cond true (by simp [ev, fget]) (fun _ => ?_) (fun h => nomatch h)
    refine bwp_seq fun K hK => bwp_region rfl ?_
    simp -implicitDefEqProofs only [go_sem, ↓reduceIte]
    refine hK _ ?_; clear hK
    refine bwp_ret ?_
    simp only [go_sem]
    refine aend_ret _ rfl rfl ⟨?_, rfl⟩
    simp [fget, insT, hx]
end Go.Proofs.YtpfbljkfbjjlkaaGreatDoor

/- What the document fixes of the printer: law 4's awake. -/
namespace Go.Proofs.YtpfbljkfbjjlkaaGreatDoor
open Go Go.Jq
set_option maxRecDepth 100000
set_option linter.unusedSimpArgs false
theorem awake_pure : Pure Tryz.prog 17 [] (.d (.bool true)) := by
  have z : I64 0 := by unfold I64; omega
  have o : I64 1 := by unfold I64; omega
  have h1 : Pure Tryz.prog 57 [.agg [.d (.int .i64 2), .d (.int .i64 1), .d (.int .i64 120), .d (.int .i64 0), .d (.int .i64 0), .d (.int .i64 0), .d (.int .i64 0), .d (.int .i64 0), .d (.int .i64 0)]] (.d (.str [114, 49, 32, 61, 32, 108, 111, 97, 100, 32, 120, 32, 59])) := by
    have h := ins_pure (x := ⟨2, 1, 120, ⟨0, 0⟩, 0, ⟨0, 0⟩, 0⟩) ⟨o, z, z, z, z, z⟩
    have e : insT ⟨2, 1, 120, ⟨0, 0⟩, 0, ⟨0, 0⟩, 0⟩ = [114, 49, 32, 61, 32, 108, 111, 97, 100, 32, 120, 32, 59] := by
      have e1 : Lib.itoa 1 = [49] := by rw [Lib.itoa, if_neg (by omega)]; exact Lib.decDigits_one (by omega)
      have e2 : okInsB ⟨2, 1, 120, ⟨0, 0⟩, 0, ⟨0, 0⟩, 0⟩ = true := by decide
      have e3 : locT 120 = [120] := by decide
      unfold insT partsI regT
      rw [if_pos e2]
      simp [e1, e3, Lib.join, List.intercalate]
    rw [e] at h
    exact h
  have h2 : Pure Tryz.prog 57 [.agg [.d (.int .i64 0), .d (.int .i64 0), .d (.int .i64 0), .d (.int .i64 0), .d (.int .i64 0), .d (.int .i64 0), .d (.int .i64 0), .d (.int .i64 0), .d (.int .i64 0)]] (.d (.str [])) := by
    have h := ins_pure (x := ⟨0, 0, 0, ⟨0, 0⟩, 0, ⟨0, 0⟩, 0⟩) ⟨z, z, z, z, z, z⟩
    have e : insT ⟨0, 0, 0, ⟨0, 0⟩, 0, ⟨0, 0⟩, 0⟩ = [] := by
      unfold insT
      rw [if_neg (by decide)]
    rw [e] at h
    exact h
  have nilS : ∀ {α : Type} (f : α → List DV), IsSl f [] .nsl := fun f => ⟨by simp, .inl ⟨rfl, rfl⟩⟩
  have h3 : ∀ nm : List UInt8, nm.length ≤ 1 → Pure Tryz.prog 20 [.agg [.d (.str nm), .d .nsl, .d .nsl, .d (.int .i64 0), .d .nsl]] (.d (.bool (okB ⟨nm, [], [], 0, []⟩))) := fun nm hn =>
    ok_pure (t := ⟨nm, [], [], 0, []⟩) (cs := [.str nm, .nsl, .nsl, .int .i64 0, .nsl]) ⟨.nsl, .nsl, .nsl, rfl, nilS _, ⟨[], nilS _, trivial⟩, ⟨[], nilS _, trivial⟩⟩ (by show nm.length ≤ _; omega)
  have h4 := h3 [97] (by simp)
  have h5 := h3 [] (by simp)
  have e4 : okB ⟨[97], [], [], 0, []⟩ = true := by decide
  have e5 : okB ⟨[], [], [], 0, []⟩ = false := by decide
  rw [e4] at h4
  rw [e5] at h5
  refine acalls_of Tryz.func17 ac17_ok Tryz.ntmps17 Tryz.results17 rfl ?_
  unfold ac17
  refine bwp_seq fun K hK => bwp_region rfl ?_
  simp -implicitDefEqProofs only [go_sem, ↓reduceIte]
  refine hK _ ?_; clear hK
  refine bwp_seq fun K hK => bwp_region rfl ?_
  simp -implicitDefEqProofs only [go_sem, ↓reduceIte]
  repeat' (first
    | (refine gateK_split (fun hb => ?_) (fun hb => ?_) <;> simp -implicitDefEqProofs only [go_sem, ↓reduceIte, hb])
    | (refine dGateK_split (fun hb => ?_) (fun hb => ?_) <;> simp -implicitDefEqProofs only [go_sem, ↓reduceIte, hb])
    | (refine callK_pure (h1) rfl rfl ?_; simp -implicitDefEqProofs only [go_sem, ↓reduceIte])
    | (refine dCallK_pure (h1) rfl rfl ?_; simp -implicitDefEqProofs only [go_sem, ↓reduceIte])
    | (refine callK_pure (h2) rfl rfl ?_; simp -implicitDefEqProofs only [go_sem, ↓reduceIte])
    | (refine dCallK_pure (h2) rfl rfl ?_; simp -implicitDefEqProofs only [go_sem, ↓reduceIte])
    | (refine callK_pure (h4) rfl rfl ?_; simp -implicitDefEqProofs only [go_sem, ↓reduceIte])
    | (refine dCallK_pure (h4) rfl rfl ?_; simp -implicitDefEqProofs only [go_sem, ↓reduceIte])
    | (refine callK_pure (h5) rfl rfl ?_; simp -implicitDefEqProofs only [go_sem, ↓reduceIte])
    | (refine dCallK_pure (h5) rfl rfl ?_; simp -implicitDefEqProofs only [go_sem, ↓reduceIte])
    | (rw [if_pos (by (try simp only [List.length_append, List.length_cons, List.length_nil, List.length_map]); omega)]; simp -implicitDefEqProofs only [go_sem, ↓reduceIte]))
  refine hK _ ?_; clear hK
  refine bwp_ret ?_
  simp only [go_sem]
  refine aend_ret _ rfl rfl ⟨?_, rfl⟩
  simp [fget]
end Go.Proofs.YtpfbljkfbjjlkaaGreatDoor
