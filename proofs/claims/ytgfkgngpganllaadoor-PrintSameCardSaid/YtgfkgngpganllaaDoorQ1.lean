/- A test's text as rows of words. -/
import Derived.Test.YtgfkgngpganllaaDoorP7
import Derived.Lib.ItoaMem
namespace Go.Proofs.YtgfkgngpganllaaDoor
open Go Go.Jq

/-! ### Words -/

def cleanC (b : UInt8) : Bool := b != 10 && b != 32 && b != 59 && b != 123 && b != 125
def Clean (w : List UInt8) : Prop := w ≠ [] ∧ w.all cleanC = true

theorem cleanC_of {b : UInt8} (h : b.toNat ≠ 10 ∧ b.toNat ≠ 32 ∧ b.toNat ≠ 59 ∧ b.toNat ≠ 123 ∧ b.toNat ≠ 125) : cleanC b = true := by
  have key : ∀ k : UInt8, b.toNat ≠ k.toNat → (b != k) = true := fun k hk => by
    rw [bne_iff_ne]
    rintro rfl
    exact hk rfl
  unfold cleanC
  rw [key 10 h.1, key 32 h.2.1, key 59 h.2.2.1, key 123 h.2.2.2.1, key 125 h.2.2.2.2]
  rfl

theorem digit_mem (u : Nat) : ∀ b : UInt8, b ∈ Lib.decDigits u → 48 ≤ b.toNat ∧ b.toNat ≤ 57 := by
  induction u using Nat.strongRecOn with
  | _ u ih =>
    intro b hb
    rw [Lib.decDigits] at hb
    split at hb
    · rename_i hu
      simp only [List.mem_cons, List.not_mem_nil, or_false] at hb
      subst hb
      have : (UInt8.ofNat (48 + u)).toNat = 48 + u := by rw [UInt8.toNat_ofNat']; omega
      omega
    · rename_i hu
      rcases List.mem_append.1 hb with hb | hb
      · exact ih _ (by omega) b hb
      · simp only [List.mem_cons, List.not_mem_nil, or_false] at hb
        subst hb
        have : (UInt8.ofNat (48 + u % 10)).toNat = 48 + u % 10 := by rw [UInt8.toNat_ofNat']; omega
        omega

theorem itoa_mem (n : Int) (b : UInt8) (h : b ∈ Lib.itoa n) : b.toNat = 45 ∨ (48 ≤ b.toNat ∧ b.toNat ≤ 57) := by
  unfold Lib.itoa at h
  split at h
  · rcases List.mem_cons.1 h with h | h
    · subst h; exact .inl rfl
    · exact .inr (digit_mem _ b h)
  · exact .inr (digit_mem _ b h)

theorem itoa_ne (n : Int) : Lib.itoa n ≠ [] := fun h => by
  have := itoa_pos n
  rw [h] at this
  simp at this

theorem itoa_clean (n : Int) : Clean (Lib.itoa n) := ⟨itoa_ne n, List.all_eq_true.2 fun b hb => cleanC_of (by have := itoa_mem n b hb; omega)⟩

theorem regT_clean (n : Int) : Clean (regT n) := ⟨by simp [regT], by
  unfold regT
  rw [List.all_append, (itoa_clean n).2]
  rfl⟩

theorem opT_clean (o : Opnd) : Clean (opT o) := by
  unfold opT
  split
  · exact itoa_clean _
  · exact regT_clean _

theorem locT_ok {n : Int} (h : isLocB n = true) : locT n = [UInt8.ofNat n.toNat] := by
  simp only [isLocB, Bool.and_eq_true, decide_eq_true_eq] at h
  unfold locT
  have hw : IntKind.i32.wrap n = n := by
    unfold IntKind.wrap
    have hm : n % 2 ^ 32 = n := by omega
    simp only [IntKind.signed, IntKind.bits, Bool.true_and, hm]
    split
    · rename_i hc
      have := of_decide_eq_true hc
      omega
    · rfl
  rw [hw]
  unfold Utf8.encode
  have hv : Utf8.valid n = true := by
    unfold Utf8.valid
    simp only [Bool.and_eq_true, Bool.or_eq_true, decide_eq_true_eq]
    omega
  simp only [hv, if_true]
  rw [if_pos (by omega)]

theorem locT_clean {n : Int} (h : isLocB n = true) : Clean (locT n) := by
  rw [locT_ok h]
  simp only [isLocB, Bool.and_eq_true, decide_eq_true_eq] at h
  refine ⟨by simp, ?_⟩
  simp only [List.all_cons, List.all_nil, Bool.and_true]
  refine cleanC_of ?_
  have : (UInt8.ofNat n.toNat).toNat = n.toNat := by rw [UInt8.toNat_ofNat']; omega
  omega

theorem signT_clean {op : Int} (h1 : 1 ≤ op) (h2 : op ≤ 11) : Clean (signT op) := by
  obtain ⟨q, rfl⟩ : ∃ q : Nat, op = q := ⟨op.toNat, by omega⟩
  have : q < 12 := by omega
  have key : ∀ q : Fin 12, 1 ≤ q.1 → (signT (q.1 : Nat) ≠ [] ∧ (signT (q.1 : Nat)).all cleanC = true) := by decide
  exact key ⟨q, this⟩ (by show 1 ≤ q; omega)

theorem parts_clean {x : Ins} (h : okInsB x = true) : ∀ w ∈ partsI x, Clean w := by
  have w1 : Clean [115, 116, 111, 114, 101] := ⟨by simp, by decide⟩
  have w2 : Clean [108, 111, 97, 100] := ⟨by simp, by decide⟩
  have w3 : Clean [102, 101, 110, 99, 101] := ⟨by simp, by decide⟩
  have w4 : Clean [99, 97, 115] := ⟨by simp, by decide⟩
  have w5 : Clean [115, 107, 105, 112] := ⟨by simp, by decide⟩
  have w6 : Clean [105, 102] := ⟨by simp, by decide⟩
  have w7 : Clean [61, 61] := ⟨by simp, by decide⟩
  have w8 : Clean [61] := ⟨by simp, by decide⟩
  unfold okInsB at h
  unfold partsI
  by_cases k1 : x.kind = 1
  · rw [if_pos k1] at h ⊢
    simp only [Bool.and_eq_true] at h
    simp only [List.forall_mem_cons]
    exact ⟨w1, locT_clean h.1.1, opT_clean _, by simp⟩
  rw [if_neg k1] at h ⊢
  by_cases k2 : x.kind = 2
  · rw [if_pos k2] at h ⊢
    simp only [Bool.and_eq_true] at h
    simp only [List.forall_mem_cons]
    exact ⟨regT_clean _, w8, w2, locT_clean h.1.1, by simp⟩
  rw [if_neg k2] at h ⊢
  by_cases k3 : x.kind = 3
  · rw [if_pos k3]
    simp only [List.forall_mem_cons]
    exact ⟨w3, by simp⟩
  rw [if_neg k3] at h ⊢
  by_cases k4 : x.kind = 4
  · rw [if_pos k4] at h ⊢
    simp only [Bool.and_eq_true] at h
    simp only [List.forall_mem_cons]
    exact ⟨regT_clean _, w8, w4, locT_clean h.1.1.1.1, opT_clean _, opT_clean _, by simp⟩
  rw [if_neg k4] at h ⊢
  by_cases k5 : x.kind = 5
  · rw [if_pos k5] at h ⊢
    simp only [Bool.and_eq_true, decide_eq_true_eq] at h
    intro w hw
    rcases List.mem_append.1 hw with hw | hw
    · have hall : ∀ w ∈ [regT x.reg, [61], opT x.a], Clean w := by
        simp only [List.forall_mem_cons]
        exact ⟨regT_clean _, w8, opT_clean _, by simp⟩
      exact hall w hw
    · split at hw
      · rename_i ho
        have hall : ∀ w ∈ [signT x.op, opT x.b], Clean w := by
          simp only [List.forall_mem_cons]
          exact ⟨signT_clean (by omega) h.1.1.2, opT_clean _, by simp⟩
        exact hall w hw
      · simp at hw
  rw [if_neg k5]
  simp only [List.forall_mem_cons]
  exact ⟨w5, itoa_clean _, w6, opT_clean _, w7, opT_clean _, by simp⟩

/-! ### Rows -/

def insW (x : Ins) : List (List UInt8) := partsI x ++ [[59]]
def atomW (a : Atom) : List (List UInt8) := (if a.thread = -1 then [locT a.loc] else [Lib.itoa a.thread, [58], regT a.reg]) ++ [[61], Lib.itoa a.value]
def sepW (s : List UInt8) : List (List (List UInt8)) → List (List UInt8)
  | [] => []
  | [w] => w
  | w :: r => w ++ [s] ++ sepW s r
def rowW (l : List Atom) : List (List UInt8) := sepW [38] (l.map atomW)
def kindW (kind : Int) : List UInt8 := if kind = 2 then [102, 111, 114, 97, 108, 108] else [101, 120, 105, 115, 116, 115]
def condW (kind : Int) (rows : List (List Atom)) : List (List UInt8) := [kindW kind] ++ sepW [124] (rows.map rowW) ++ [[59]]
def initW (x : Init) : List (List UInt8) := [locT x.loc, [61], Lib.itoa x.value, [59]]
def threadW (l : List Ins) : List (List (List UInt8)) := [[116, 104, 114, 101, 97, 100], [123]] :: (l.map insW ++ [[[125]]])
def testW (t : Test) : List (List (List UInt8)) :=
  [[116, 101, 115, 116], t.name, [123]] :: ((if t.inits = [] then [] else [[105, 110, 105, 116], [123]] :: (t.inits.map initW ++ [[[125]]])) ++ t.threads.flatMap threadW ++ (if t.kind = 0 then [] else [condW t.kind t.rows]) ++ [[[125]]])

def lineW (r : List (List UInt8)) : List UInt8 := Lib.join r [32] ++ [10]

theorem join_two (x y : List UInt8) (r : List (List UInt8)) (s : List UInt8) : Lib.join (x :: y :: r) s = x ++ s ++ Lib.join (y :: r) s := by
  simp [Lib.join, List.intercalate]

theorem join_app (s : List UInt8) : ∀ (a b : List (List UInt8)), a ≠ [] → b ≠ [] → Lib.join (a ++ b) s = Lib.join a s ++ s ++ Lib.join b s
  | [], _, h, _ => absurd rfl h
  | [x], b, _, hb => by
    obtain ⟨y, r, rfl⟩ := List.exists_cons_of_ne_nil hb
    rw [List.singleton_append, join_two, Lib.join_one]
  | x :: y :: r, b, _, hb => by
    have ih := join_app s (y :: r) b (by simp) hb
    rw [List.cons_append, List.cons_append, join_two, join_two, ← List.cons_append, ih]
    simp

theorem sepW_ne {s : List UInt8} : ∀ {l : List (List (List UInt8))}, l ≠ [] → (∀ w ∈ l, w ≠ []) → sepW s l ≠ []
  | [], h, _ => absurd rfl h
  | [w], _, h => by simpa [sepW] using h w (by simp)
  | w :: w' :: r, _, h => by simp [sepW]

theorem join_sep (s : List UInt8) : ∀ (l : List (List (List UInt8))), (∀ w ∈ l, w ≠ []) → Lib.join (sepW s l) [32] = Lib.join (l.map fun w => Lib.join w [32]) ([32] ++ s ++ [32])
  | [], _ => rfl
  | [w], _ => by simp [sepW, Lib.join_one]
  | w :: w' :: r, h => by
    have ih := join_sep s (w' :: r) (fun x hx => h x (List.mem_cons_of_mem _ hx))
    have hne := sepW_ne (s := s) (l := w' :: r) (by simp) (fun x hx => h x (List.mem_cons_of_mem _ hx))
    simp only [sepW, List.map_cons]
    rw [join_app _ _ _ (by simp) hne, join_app _ _ _ (h w (by simp)) (by simp), Lib.join_one, ih, List.map_cons, join_two]
    simp

theorem atomT_join (a : Atom) : atomT a = Lib.join (atomW a) [32] := by
  unfold atomT atomW
  split <;> simp [Lib.join, List.intercalate]

theorem atomW_ne (a : Atom) : atomW a ≠ [] := by simp [atomW]

theorem rowT_join (l : List Atom) : rowT l = Lib.join (rowW l) [32] := by
  unfold rowT rowW
  rw [join_sep _ _ (fun w hw => by obtain ⟨a, _, rfl⟩ := List.mem_map.1 hw; exact atomW_ne a), List.map_map]
  congr 1
  exact List.map_congr_left fun a _ => atomT_join a

theorem rowW_ne {l : List Atom} (h : l ≠ []) : rowW l ≠ [] := sepW_ne (by simpa using h) (fun w hw => by obtain ⟨a, _, rfl⟩ := List.mem_map.1 hw; exact atomW_ne a)

theorem wordT_eq (kind : Int) : wordT kind = kindW kind ++ [32] := by unfold wordT kindW; split <;> rfl

theorem rows_ok {kind : Int} {rows : List (List Atom)} (hk : kind ≠ 0) (h : okCondB kind rows = true) : (kind = 1 ∨ kind = 2) ∧ rows ≠ [] ∧ ∀ l ∈ rows, l ≠ [] ∧ ∀ a ∈ l, okAtomB a = true := by
  unfold okCondB at h
  rw [if_neg hk] at h
  simp only [Bool.and_eq_true, Bool.or_eq_true, decide_eq_true_eq, Bool.not_eq_true', List.any_eq_false] at h
  refine ⟨h.1.1, fun e => by rw [e] at h; simp at h, fun l hl => ?_⟩
  have := h.2 l hl
  simp only [badRowB, Bool.or_eq_true, decide_eq_true_eq, List.any_eq_true, Bool.not_eq_true', not_or, not_exists, not_and, Bool.not_eq_false] at this
  exact ⟨fun e => this.1 (by rw [e]; rfl), this.2⟩

theorem condT_join {kind : Int} {rows : List (List Atom)} (hk : kind ≠ 0) (h : okCondB kind rows = true) : condT kind rows = Lib.join (condW kind rows) [32] := by
  obtain ⟨_, h1, h2⟩ := rows_ok hk h
  unfold condT
  rw [if_neg (by simp [hk, h])]
  unfold condW
  have hne : ∀ w ∈ rows.map rowW, w ≠ [] := fun w hw => by obtain ⟨l, hl, rfl⟩ := List.mem_map.1 hw; exact rowW_ne (h2 l hl).1
  have hs := sepW_ne (s := [124]) (l := rows.map rowW) (by simpa using h1) hne
  rw [join_app _ _ _ (by simp) (by simp), join_app _ _ _ (by simp) hs, Lib.join_one, Lib.join_one, join_sep _ _ hne, List.map_map, wordT_eq]
  have : rows.map rowT = rows.map ((fun w => Lib.join w [32]) ∘ rowW) := List.map_congr_left fun l _ => rowT_join l
  rw [this]
  simp

theorem condT_ne {kind : Int} {rows : List (List Atom)} (hk : kind ≠ 0) (h : okCondB kind rows = true) : condT kind rows ≠ [] := by
  unfold condT
  rw [if_neg (by simp [hk, h])]
  simp

theorem initL_line (x : Init) : initL x = lineW (initW x) := by simp [initL, lineW, initW, Lib.join, List.intercalate]

theorem insL_line {x : Ins} (h : okInsB x = true) : insL x = lineW (insW x) := by simp [insL, lineW, insW, insT, h]

theorem flat_congr {α β : Type} {f g : α → List β} : ∀ {l : List α}, (∀ x ∈ l, f x = g x) → l.flatMap f = l.flatMap g
  | [], _ => rfl
  | x :: l, h => by rw [List.flatMap_cons, List.flatMap_cons, h x (by simp), flat_congr fun y hy => h y (List.mem_cons_of_mem _ hy)]

theorem testT_rows {t : Test} (h : okB t = true) : testT t = (testW t).flatMap lineW := by
  have h0 := h
  simp only [okB, Bool.and_eq_true, Bool.not_eq_true', List.any_eq_false] at h
  have hth : ∀ l ∈ t.threads, ∀ x ∈ l, okInsB x = true := fun l hl x hx => by
    have := h.1.2 l hl
    simp only [badThreadB, List.any_eq_true, not_exists, not_and, Bool.not_eq_true', Bool.not_eq_false] at this
    exact this x hx
  have e1 : headL t = lineW [[116, 101, 115, 116], t.name, [123]] := by simp [headL, lineW, Lib.join, List.intercalate]
  have e2 : initsL t.inits = ((if t.inits = [] then [] else [[105, 110, 105, 116], [123]] :: (t.inits.map initW ++ [[[125]]])) : List (List (List UInt8))).flatMap lineW := by
    unfold initsL
    split
    · rfl
    · have : t.inits.flatMap initL = (t.inits.map initW).flatMap lineW := by
        rw [List.flatMap_map]
        congr 1
        funext x
        exact initL_line x
      rw [this]
      simp [lineW, Lib.join, List.intercalate]
  have e3 : t.threads.flatMap threadL = (t.threads.flatMap threadW).flatMap lineW := by
    rw [List.flatMap_assoc]
    refine flat_congr fun l hl => ?_
    have : l.flatMap insL = (l.map insW).flatMap lineW := by
      rw [List.flatMap_map]
      exact flat_congr fun x hx => insL_line (hth l hl x hx)
    simp only [threadL, threadW, this]
    simp [lineW, Lib.join, List.intercalate]
  have e4 : condL t = ((if t.kind = 0 then [] else [condW t.kind t.rows]) : List (List (List UInt8))).flatMap lineW := by
    unfold condL
    by_cases hk : t.kind = 0
    · have : condT t.kind t.rows = [] := by unfold condT; rw [if_pos (.inl hk)]
      rw [if_pos this, if_pos hk]; rfl
    · rw [if_neg (condT_ne hk h.2), if_neg hk, condT_join hk h.2]
      simp [lineW]
  unfold testT testW
  rw [if_pos h0, e1, e2, e3, e4]
  simp [lineW, Lib.join, List.intercalate]

end Go.Proofs.YtgfkgngpganllaaDoor
