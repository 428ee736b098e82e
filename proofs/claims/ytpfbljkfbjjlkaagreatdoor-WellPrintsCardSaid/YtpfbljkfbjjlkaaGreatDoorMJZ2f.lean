/- What the statement's proof leans on, part 6: the layer, the walks, the plain laws. -/
import Derived.Test.YtpfbljkfbjjlkaaGreatDoorMJZ2e
import Derived.Test.YtpfbljkfbjjlkaaGreatDoorMJZ2c
import Derived.Test.YtpfbljkfbjjlkaaGreatDoorMJZ2b
import Derived.Test.YtpfbljkfbjjlkaaGreatDoorMJZ2d
import Derived.SizedLaws
set_option linter.unusedSimpArgs false
set_option linter.unusedVariables false

/- A printed test's text as words and blanks; with more blanks it is read as it was. -/
namespace Go.Proofs.YtpfbljkfbjjlkaaGreatDoor
open Go Go.Jq
set_option maxRecDepth 100000
set_option linter.unusedSimpArgs false
theorem tk_loc {n : Int} (h : isLocB n = true) : GoodTk (locT n) := by
  obtain ⟨h0, _, _, h3⟩ := loc_byte h
  rw [h0]
  exact tk_word h3 rfl
theorem tk_reg {n : Int} (h : isRegB n = true) : GoodTk (regT n) := by
  rw [(reg_text h).1]
  rcases reg_cases h with rfl | rfl | rfl | rfl <;> exact tk_word (by decide) (by decide)
theorem tk_opd {o : Opnd} (h : isOpB o = true) (hv : I64 o.value) : GoodTk (opT o) := by
  unfold opT
  split
  · exact tk_num hv
  · rename_i hr
    unfold isOpB at h
    simp only [Bool.or_eq_true, Bool.and_eq_true, decide_eq_true_eq] at h
    rcases h with h | h
    · exact absurd h hr
    · exact tk_reg h.1
theorem tk_sign {op : Int} (h1 : 1 ≤ op) (h2 : op ≤ 11) : GoodTk (signT op) := by
  have hm : ∀ q : Fin 12, 1 ≤ q.1 → signsT.getD q.1 [] ∈ ([[123], [125], [59], [58], [61], [43], [45], [42], [38], [124], [94], [60, 60], [62, 62], [61, 61], [33, 61], [60]] : List (List UInt8)) := by decide
  have key : ∀ q : Fin 12, 1 ≤ q.1 → GoodTk (signsT.getD q.1 []) := fun q hq => tk_const (hm q hq)
  unfold signT
  rw [if_pos ⟨h1, h2⟩]
  exact key ⟨op.toNat, by omega⟩ (by show 1 ≤ op.toNat; omega)
theorem tk_name {s : List UInt8} (h : isWordB s = true) : GoodTk s := by
  unfold isWordB at h
  simp only [Bool.and_eq_true, List.all_eq_true, List.mem_range, decide_eq_true_eq] at h
  cases s with
  | nil => exact absurd rfl h.2
  | cons c r =>
    have h0 := h.1 0 (by simp)
    simp only [wordAt, List.getD_cons_zero, Bool.or_eq_true, Bool.and_eq_true, decide_eq_true_eq] at h0
    refine tk_word ?_ (List.all_eq_true.2 fun b hb => ?_)
    · simp only [letB, Bool.and_eq_true, decide_eq_true_eq]
      rcases h0 with h1 | h1
      · exact h1
      · exact absurd rfl h1.1.1
    · obtain ⟨i, hi, rfl⟩ := List.getElem_of_mem hb
      have := h.1 (i + 1) (by simp; exact hi)
      have e : (c :: r).getD (i + 1) 0 = r[i] := by simp [hi]
      rw [e] at this
      simp only [wordAt, Bool.or_eq_true, Bool.and_eq_true, decide_eq_true_eq] at this
      simp only [alnB, letB, digB, Bool.or_eq_true, Bool.and_eq_true, decide_eq_true_eq]
      rcases this with h1 | h1
      · exact .inl h1
      · exact .inr ⟨h1.1.2, h1.2⟩
theorem tk_ins {x : Ins} (h : okInsB x = true) (hv : I64i x) : ∀ w ∈ insW x, GoodTk w := by
  have w1 : GoodTk [115, 116, 111, 114, 101] := tk_word (by decide) (by decide)
  have w2 : GoodTk [108, 111, 97, 100] := tk_word (by decide) (by decide)
  have w3 : GoodTk [102, 101, 110, 99, 101] := tk_word (by decide) (by decide)
  have w4 : GoodTk [99, 97, 115] := tk_word (by decide) (by decide)
  have w5 : GoodTk [115, 107, 105, 112] := tk_word (by decide) (by decide)
  have w6 : GoodTk [105, 102] := tk_word (by decide) (by decide)
  have w7 : GoodTk [61, 61] := tk_const (by decide)
  have w8 : GoodTk [61] := tk_const (by decide)
  have w9 : GoodTk [59] := tk_const (by decide)
  obtain ⟨_, _, v2, _, v4, v5⟩ := hv
  intro w hw
  unfold insW at hw
  rcases List.mem_append.1 hw with hw | hw
  rotate_left
  · simp only [List.mem_cons, List.not_mem_nil, or_false] at hw
    subst hw
    exact w9
  unfold okInsB at h
  unfold partsI at hw
  by_cases k1 : x.kind = 1
  · rw [if_pos k1] at h hw
    simp only [Bool.and_eq_true] at h
    have hall : ∀ w ∈ [[115, 116, 111, 114, 101], locT x.loc, opT x.a], GoodTk w := by
      simp only [List.forall_mem_cons]
      exact ⟨w1, tk_loc h.1.1, tk_opd h.1.2 v2, by simp⟩
    exact hall w hw
  rw [if_neg k1] at h hw
  by_cases k2 : x.kind = 2
  · rw [if_pos k2] at h hw
    simp only [Bool.and_eq_true] at h
    have hall : ∀ w ∈ [regT x.reg, [61], [108, 111, 97, 100], locT x.loc], GoodTk w := by
      simp only [List.forall_mem_cons]
      exact ⟨tk_reg h.1.2, w8, w2, tk_loc h.1.1, by simp⟩
    exact hall w hw
  rw [if_neg k2] at h hw
  by_cases k3 : x.kind = 3
  · rw [if_pos k3] at hw
    simp only [List.mem_cons, List.not_mem_nil, or_false] at hw
    subst hw
    exact w3
  rw [if_neg k3] at h hw
  by_cases k4 : x.kind = 4
  · rw [if_pos k4] at h hw
    simp only [Bool.and_eq_true] at h
    have hall : ∀ w ∈ [regT x.reg, [61], [99, 97, 115], locT x.loc, opT x.a, opT x.b], GoodTk w := by
      simp only [List.forall_mem_cons]
      exact ⟨tk_reg h.1.1.1.2, w8, w4, tk_loc h.1.1.1.1, tk_opd h.1.1.2 v2, tk_opd h.1.2 v4, by simp⟩
    exact hall w hw
  rw [if_neg k4] at h hw
  by_cases k5 : x.kind = 5
  · rw [if_pos k5] at h hw
    simp only [Bool.and_eq_true, decide_eq_true_eq] at h
    rcases List.mem_append.1 hw with hw | hw
    · have hall : ∀ w ∈ [regT x.reg, [61], opT x.a], GoodTk w := by
        simp only [List.forall_mem_cons]
        exact ⟨tk_reg h.1.1.1.1.1.1, w8, tk_opd h.1.1.1.1.1.2 v2, by simp⟩
      exact hall w hw
    · split at hw
      · rename_i ho
        have hall : ∀ w ∈ [signT x.op, opT x.b], GoodTk w := by
          simp only [List.forall_mem_cons]
          exact ⟨tk_sign (by omega) h.1.1.2, tk_opd h.1.1.1.1.2 v4, by simp⟩
        exact hall w hw
      · simp at hw
  rw [if_neg k5] at h hw
  by_cases k6 : x.kind = 6
  · rw [if_pos k6] at h
    simp only [Bool.and_eq_true] at h
    have hall : ∀ w ∈ [[115, 107, 105, 112], Lib.itoa x.n, [105, 102], opT x.a, [61, 61], opT x.b], GoodTk w := by
      simp only [List.forall_mem_cons]
      exact ⟨w5, tk_num v5, w6, tk_opd h.1.1.2 v2, w7, tk_opd h.1.2 v4, by simp⟩
    exact hall w hw
  · rw [if_neg k6] at h
    cases h
theorem tk_atom {a : Atom} (h : okAtomB a = true) (hv : I64a a) : ∀ w ∈ atomW a, GoodTk w := by
  have w1 : GoodTk [58] := tk_const (by decide)
  have w2 : GoodTk [61] := tk_const (by decide)
  obtain ⟨v1, _, v3⟩ := hv
  unfold atomW
  unfold okAtomB at h
  split
  · rename_i ht
    rw [if_pos ht] at h
    simp only [Bool.and_eq_true] at h
    simp only [List.cons_append, List.nil_append, List.forall_mem_cons]
    exact ⟨tk_loc h.2, w2, tk_num v3, by simp⟩
  · rename_i ht
    rw [if_neg ht] at h
    simp only [Bool.and_eq_true] at h
    simp only [List.cons_append, List.nil_append, List.forall_mem_cons]
    exact ⟨tk_num v1, w1, tk_reg h.2, w2, tk_num v3, by simp⟩
theorem tk_sep {s : List UInt8} (hs : GoodTk s) : ∀ {l : List (List (List UInt8))}, (∀ r ∈ l, ∀ w ∈ r, GoodTk w) → ∀ w ∈ sepW s l, GoodTk w
  | [], _ => by simp [sepW]
  | [r], h => by simpa [sepW] using h
  | r :: r' :: l, h => by
    intro w hw
    simp only [sepW, List.mem_append, List.mem_singleton] at hw
    rcases hw with (hw | rfl) | hw
    · exact h r (by simp) w hw
    · exact hs
    · exact tk_sep hs (fun x hx => h x (List.mem_cons_of_mem _ hx)) w hw
structure ValT (t : Test) : Prop where
  ok : okB t = true
  inits : ∀ x ∈ t.inits, I64 x.value
  ins : ∀ l ∈ t.threads, ∀ x ∈ l, I64i x
  atoms : ∀ l ∈ t.rows, ∀ a ∈ l, I64a a
theorem ValT.parts {t : Test} (h : ValT t) : isWordB t.name = true ∧ (∀ x ∈ t.inits, isLocB x.loc = true) ∧ (∀ l ∈ t.threads, ∀ x ∈ l, okInsB x = true) ∧ okCondB t.kind t.rows = true := by
  have h := h.ok
  simp only [okB, Bool.and_eq_true, Bool.not_eq_true', List.any_eq_false] at h
  refine ⟨h.1.1.1, fun x hx => ?_, fun l hl x hx => ?_, h.2⟩
  · have := h.1.1.2
    simp only [badInitB, List.any_eq_false, Bool.not_eq_true', Bool.not_eq_false] at this
    exact this x hx
  · have := h.1.2 l hl
    simp only [badThreadB, List.any_eq_true, not_exists, not_and, Bool.not_eq_true', Bool.not_eq_false] at this
    exact this x hx
theorem tk_test {t : Test} (h : ValT t) : ∀ r ∈ testW t, ∀ w ∈ r, GoodTk w := by
  obtain ⟨hn, hi, hx, hc⟩ := h.parts
  have c1 : GoodTk [123] := tk_const (by decide)
  have c2 : GoodTk [125] := tk_const (by decide)
  have c3 : GoodTk [59] := tk_const (by decide)
  have c4 : GoodTk [61] := tk_const (by decide)
  intro r hr
  unfold testW at hr
  rcases List.mem_cons.1 hr with rfl | hr
  · simp only [List.forall_mem_cons]
    exact ⟨tk_word (by decide) (by decide), tk_name hn, c1, by simp⟩
  rcases List.mem_append.1 hr with hr | hr
  rotate_left
  · simp only [List.mem_cons, List.not_mem_nil, or_false] at hr
    subst hr
    simp only [List.forall_mem_cons]
    exact ⟨c2, by simp⟩
  rcases List.mem_append.1 hr with hr | hr
  rotate_left
  · split at hr
    · cases hr
    · rename_i h0
      simp only [List.mem_cons, List.not_mem_nil, or_false] at hr
      subst hr
      obtain ⟨_, _, hrows⟩ := rows_ok h0 hc
      intro w hw
      unfold condW at hw
      rcases List.mem_append.1 hw with hw | hw
      rotate_left
      · simp only [List.mem_cons, List.not_mem_nil, or_false] at hw
        subst hw; exact c3
      rcases List.mem_append.1 hw with hw | hw
      · simp only [List.mem_cons, List.not_mem_nil, or_false] at hw
        subst hw
        unfold askW
        split <;> exact tk_word (by decide) (by decide)
      · refine tk_sep (tk_const (by decide)) ?_ w hw
        intro q hq
        obtain ⟨l, hl, rfl⟩ := List.mem_map.1 hq
        unfold rowW
        refine tk_sep (tk_const (by decide)) ?_
        intro q' hq'
        obtain ⟨a, ha, rfl⟩ := List.mem_map.1 hq'
        exact tk_atom ((hrows l hl).2 a ha) (h.atoms l hl a ha)
  rcases List.mem_append.1 hr with hr | hr
  · split at hr
    · cases hr
    · rcases List.mem_cons.1 hr with rfl | hr
      · simp only [List.forall_mem_cons]
        exact ⟨tk_word (by decide) (by decide), c1, by simp⟩
      · rcases List.mem_append.1 hr with hr | hr
        · obtain ⟨x, hxm, rfl⟩ := List.mem_map.1 hr
          unfold initW
          simp only [List.forall_mem_cons]
          exact ⟨tk_loc (hi x hxm), c4, tk_num (h.inits x hxm), c3, by simp⟩
        · simp only [List.mem_cons, List.not_mem_nil, or_false] at hr
          subst hr
          simp only [List.forall_mem_cons]
          exact ⟨c2, by simp⟩
  · obtain ⟨l, hl, hr⟩ := List.mem_flatMap.1 hr
    unfold threadW at hr
    rcases List.mem_cons.1 hr with rfl | hr
    · simp only [List.forall_mem_cons]
      exact ⟨tk_word (by decide) (by decide), c1, by simp⟩
    · rcases List.mem_append.1 hr with hr | hr
      · obtain ⟨x, hxm, rfl⟩ := List.mem_map.1 hr
        exact tk_ins (hx l hl x hxm) (h.ins l hl x hxm)
      · simp only [List.mem_cons, List.not_mem_nil, or_false] at hr
        subst hr
        simp only [List.forall_mem_cons]
        exact ⟨c2, by simp⟩
theorem lace_append : ∀ (a b : List (List UInt8 × List UInt8)), laceT (a ++ b) = laceT a ++ laceT b
  | [], b => rfl
  | p :: a, b => by simp only [List.cons_append, laceT, lace_append a b, List.append_assoc]
theorem line_lace : ∀ (r : List (List UInt8)), r ≠ [] → ∃ l, lineW r = laceT l ∧ l.map (·.1) = r ∧ ∀ p ∈ l, p.2 ≠ [] ∧ Blanks p.2
  | [], h => absurd rfl h
  | [w], _ => ⟨[(w, [10])], by simp [lineW, laceT, Lib.join_one], rfl, fun p hp => by simp at hp; subst hp; exact ⟨by simp, rfl⟩⟩
  | w :: v :: r, _ => by
    obtain ⟨l, h1, h2, h3⟩ := line_lace (v :: r) (by simp)
    refine ⟨(w, [32]) :: l, ?_, by rw [List.map_cons, h2], fun p hp => ?_⟩
    · unfold lineW at h1 ⊢
      rw [join_two]
      simp only [laceT, ← h1, List.append_assoc]
    · rcases List.mem_cons.1 hp with rfl | hp
      · exact ⟨by simp, rfl⟩
      · exact h3 p hp
theorem rows_lace : ∀ (rs : List (List (List UInt8))), (∀ r ∈ rs, r ≠ []) → ∃ l, rs.flatMap lineW = laceT l ∧ l.map (·.1) = rs.flatten ∧ ∀ p ∈ l, p.2 ≠ [] ∧ Blanks p.2
  | [], _ => ⟨[], rfl, rfl, by simp⟩
  | r :: rs, h => by
    obtain ⟨l1, a1, a2, a3⟩ := line_lace r (h r List.mem_cons_self)
    obtain ⟨l2, b1, b2, b3⟩ := rows_lace rs fun q hq => h q (List.mem_cons_of_mem _ hq)
    refine ⟨l1 ++ l2, ?_, ?_, fun p hp => ?_⟩
    · rw [List.flatMap_cons, a1, b1, lace_append]
    · rw [List.map_append, a2, b2, List.flatten_cons]
    · rcases List.mem_append.1 hp with hp | hp
      · exact a3 p hp
      · exact b3 p hp
theorem test_lace {t : Test} (h : ValT t) : ∃ l, testT t = laceT l ∧ l.map (·.1) = wordsT t ∧ GoodLace l := by
  obtain ⟨l, h1, h2, h3⟩ := rows_lace (testW t) (fun r hr => by
    obtain ⟨ws, e, rfl, _⟩ := testW_good h.ok r hr
    simp)
  refine ⟨l, by rw [testT_rows h.ok, h1], h2, fun p hp => ⟨?_, h3 p hp⟩⟩
  have hm : p.1 ∈ (testW t).flatten := by rw [← h2]; exact List.mem_map_of_mem hp
  obtain ⟨r, hr, hw⟩ := List.mem_flatten.1 hm
  exact tk_test h r hr p.1 hw
theorem lace_len : ∀ {l : List (List UInt8 × List UInt8)}, GoodLace l → 2 * l.length ≤ (laceT l).length
  | [], _ => by simp [laceT]
  | p :: l, h => by
    have := lace_len (l := l) fun q hq => h q (List.mem_cons_of_mem _ hq)
    obtain ⟨⟨⟨c, r, hw, _⟩, _⟩, hz, _⟩ := h p List.mem_cons_self
    have h1 : 1 ≤ p.1.length := by rw [hw]; simp
    have h2 : 1 ≤ p.2.length := List.length_pos_iff.2 hz
    simp only [laceT, List.length_append, List.length_cons]
    omega
theorem flat_ge {α β : Type} {f : α → List β} (hf : ∀ a, 1 ≤ (f a).length) : ∀ l : List α, l.length ≤ (l.flatMap f).length
  | [] => by simp
  | a :: l => by
    have := flat_ge hf l
    have := hf a
    simp only [List.flatMap_cons, List.length_append, List.length_cons]
    omega
theorem flat_mem {α β : Type} {f : α → List β} {a : α} : ∀ {l : List α}, a ∈ l → (f a).length ≤ (l.flatMap f).length
  | b :: l, h => by
    simp only [List.flatMap_cons, List.length_append]
    rcases List.mem_cons.1 h with rfl | h
    · omega
    · have := flat_mem (f := f) h
      omega
theorem sep_ge (s : List UInt8) : ∀ (l : List (List (List UInt8))), (∀ r ∈ l, 1 ≤ r.length) → l.length ≤ (sepW s l).length ∧ ∀ r ∈ l, r.length ≤ (sepW s l).length
  | [], _ => by simp [sepW]
  | [r], h => by simpa [sepW] using h
  | r :: r' :: l, h => by
    obtain ⟨h1, h2⟩ := sep_ge s (r' :: l) fun x hx => h x (List.mem_cons_of_mem _ hx)
    have hr := h r (by simp)
    simp only [sepW, List.length_append, List.length_cons, List.length_nil] at h1 ⊢
    refine ⟨by omega, fun x hx => ?_⟩
    rcases List.mem_cons.1 hx with rfl | hx
    · omega
    · have := h2 x hx
      omega
theorem insW_ge (x : Ins) : 1 ≤ (insW x).length := by simp [insW]
theorem initW_ge (x : Init) : 1 ≤ (initW x).length := by simp [initW]
theorem atomW_ge (a : Atom) : 1 ≤ (atomW a).length := by simp [atomW]
theorem words_ge {t : Test} (h : okB t = true) : t.inits.length ≤ (wordsT t).length ∧ t.threads.length ≤ (wordsT t).length ∧ (∀ l ∈ t.threads, l.length ≤ (wordsT t).length) ∧ t.rows.length ≤ (wordsT t).length ∧ ∀ l ∈ t.rows, l.length ≤ (wordsT t).length := by
  have hc : okCondB t.kind t.rows = true := by
    simp only [okB, Bool.and_eq_true] at h
    exact h.2
  have e : (wordsT t).length = 3 + ((if t.inits = [] then [] else [[105, 110, 105, 116], [123]] :: (t.inits.map initW ++ [[[125]]])).flatten).length + (t.threads.flatMap fun l => (threadW l).flatten).length + ((if t.kind = 0 then [] else [condW t.kind t.rows]).flatten).length + 1 := by
    unfold wordsT testW
    simp only [List.flatten_cons, List.flatten_append, List.length_append, List.length_cons, List.length_nil, List.flatten_nil, List.flatMap]
    rw [List.flatten_flatten, List.map_map]
    simp only [Function.comp_def]
    omega
  have h1 : t.inits.length ≤ ((if t.inits = [] then [] else [[105, 110, 105, 116], [123]] :: (t.inits.map initW ++ [[[125]]])).flatten).length := by
    split
    · rename_i h0; rw [h0]; simp
    · have := flat_ge initW_ge t.inits
      simp only [List.flatMap] at this
      simp only [List.flatten_cons, List.flatten_append, List.length_append]
      omega
  have hth : ∀ l : List Ins, l.length ≤ ((threadW l).flatten).length ∧ 1 ≤ ((threadW l).flatten).length := by
    intro l
    have := flat_ge insW_ge l
    simp only [List.flatMap] at this
    unfold threadW
    simp only [List.flatten_cons, List.flatten_append, List.length_append, List.length_cons, List.length_nil]
    omega
  have h2 := flat_ge (f := fun l => (threadW l).flatten) (fun l => (hth l).2) t.threads
  have h3 : ∀ l ∈ t.threads, l.length ≤ (t.threads.flatMap fun l => (threadW l).flatten).length := fun l hl => Nat.le_trans (hth l).1 (flat_mem (f := fun l => (threadW l).flatten) hl)
  have h4 : t.rows.length ≤ ((if t.kind = 0 then [] else [condW t.kind t.rows]).flatten).length ∧ ∀ l ∈ t.rows, l.length ≤ ((if t.kind = 0 then [] else [condW t.kind t.rows]).flatten).length := by
    by_cases h0 : t.kind = 0
    · unfold okCondB at hc
      rw [if_pos h0] at hc
      have : t.rows = [] := List.eq_nil_of_length_eq_zero (of_decide_eq_true hc)
      rw [this]
      simp
    · obtain ⟨_, _, hrows⟩ := rows_ok h0 hc
      rw [if_neg h0]
      have hrow : ∀ l ∈ t.rows, l.length ≤ (rowW l).length ∧ 1 ≤ (rowW l).length := by
        intro l hl
        have := (sep_ge [38] (l.map atomW) fun r hr => by
          obtain ⟨a, _, rfl⟩ := List.mem_map.1 hr
          exact atomW_ge a).1
        rw [List.length_map] at this
        have h0 : 1 ≤ l.length := List.length_pos_iff.2 (hrows l hl).1
        unfold rowW
        omega
      obtain ⟨s1, s2⟩ := sep_ge [124] (t.rows.map rowW) fun r hr => by
        obtain ⟨l, hl, rfl⟩ := List.mem_map.1 hr
        exact (hrow l hl).2
      rw [List.length_map] at s1
      unfold condW
      simp only [List.flatten_cons, List.flatten_nil, List.append_nil, List.length_append, List.length_cons, List.length_nil]
      refine ⟨by omega, fun l hl => ?_⟩
      have := s2 _ (List.mem_map_of_mem hl)
      have := (hrow l hl).1
      omega
  refine ⟨by omega, by omega, fun l hl => ?_, by omega, fun l hl => ?_⟩
  · have := h3 l hl; omega
  · have := h4.2 l hl; omega
theorem ValT.fit {t : Test} (h : ValT t) (hl : (testT t).length ≤ 8000) : FitT t := by
  obtain ⟨l, h1, h2, h3⟩ := test_lace h
  have h4 := lace_len h3
  rw [← h1] at h4
  have h5 : l.length = (wordsT t).length := by rw [← h2, List.length_map]
  obtain ⟨w1, w2, w3, w4, w5⟩ := words_ge h.ok
  exact ⟨h.ok, h.inits, h.ins, h.atoms, by unfold fuelP; omega, by unfold fuelP; omega, fun l hl => by have := w3 l hl; unfold fuelP; omega, by unfold fuelP; omega, fun l hl => by have := w5 l hl; unfold fuelP; omega⟩
theorem text_reads {t : Test} (h : ValT t) (hl : (testT t).length ≤ 4000) : pTest (testT t) = .ok t := by
  obtain ⟨l, h1, h2, h3⟩ := test_lace h
  have hf := h.fit (by omega)
  rw [h1] at hl ⊢
  exact lace_reads hf h3 h2 hl
end Go.Proofs.YtpfbljkfbjjlkaaGreatDoor

/- A test that a text parses to may be: its words are words, its numbers numbers. -/
namespace Go.Proofs.YtpfbljkfbjjlkaaGreatDoor
open Go Go.Jq
set_option maxRecDepth 100000
set_option linter.unusedSimpArgs false
def PT.PostL {α : Type} (t : PT α) (P : α → Prop) : Prop := ∀ (s : List UInt8) (a : Nat) (x : α) (b : Nat), s.length ≤ 4000 → t.run s a = .ok (x, b) → P x
def WordK (y : List UInt8) : Prop := (∃ c r, y = c :: r ∧ letB c = true ∧ r.all alnB = true) ∧ y.length ≤ 4000
theorem runL_alls : ∀ r : List UInt8, (r.take (runL r)).all alnB = true
  | [] => rfl
  | c :: r => by
    simp only [runL]
    split
    · rename_i h
      rw [Nat.add_comm, List.take_succ_cons, List.all_cons, h, runL_alls r]; rfl
    · rfl
theorem cur_word {s : List UInt8} {a : Nat} (hs : s.length ≤ 4000) (h : (curT s a).kd = 1) : WordK (curT s a).tx := by
  unfold curT nextW at h ⊢
  have hl : (s.drop (skipA s a)).length ≤ 4000 := by rw [List.length_drop]; omega
  generalize s.drop (skipA s a) = l at h hl ⊢
  cases l with
  | nil => simp only [tokAt] at h; cases h
  | cons c r =>
    simp only [tokAt] at h ⊢
    split at h
    · rename_i hc
      rw [if_pos hc]
      refine ⟨⟨c, _, rfl, hc, runL_alls r⟩, ?_⟩
      have := runL_le r
      simp only [List.length_cons, List.length_take] at hl ⊢
      omega
    · split at h
      · split at h
        · cases h
        · cases h
      · split at h
        · cases h
        · cases h
theorem WordK.word {y : List UInt8} (h : WordK y) : isWordB y = true := by
  obtain ⟨⟨c, r, rfl, hc, hr⟩, _⟩ := h
  rw [isWord_all]
  · simp
  · intro i hi
    cases i with
    | zero =>
      simp only [letB, Bool.and_eq_true, decide_eq_true_eq] at hc
      simp only [List.getD_cons_zero, wordAt, Bool.or_eq_true, Bool.and_eq_true, decide_eq_true_eq]
      exact .inl hc
    | succ i =>
      have hi' : i < r.length := by simpa using hi
      have e : (c :: r).getD (i + 1) 0 = r[i] := by simp [hi']
      have := List.all_eq_true.1 hr r[i] (List.getElem_mem hi')
      rw [e]
      simp only [alnB, letB, digB, Bool.or_eq_true, Bool.and_eq_true, decide_eq_true_eq] at this
      simp only [wordAt, Bool.or_eq_true, Bool.and_eq_true, decide_eq_true_eq]
      rcases this with h1 | h1
      · exact .inl h1
      · exact .inr ⟨⟨by omega, h1.1⟩, h1.2⟩
theorem postL_bind {α β : Type} {t : PT α} {f : α → PT β} {P : α → Prop} {Q : β → Prop} (h : t.PostL P) (h' : ∀ x, P x → (f x).PostL Q) : (t.bind f).PostL Q := by
  intro s a y b hs hr
  rw [PT.run_bind] at hr
  cases ht : t.run s a with
  | error e => rw [ht] at hr; cases hr
  | ok p =>
    obtain ⟨x, c⟩ := p
    rw [ht] at hr
    exact h' x (h s a x c hs ht) s c y b hs hr
theorem postL_of {α : Type} {t : PT α} {P : α → Prop} (h : t.Post P) : t.PostL P := fun s a x b _ hr => h s a x b hr
theorem postL_true {α : Type} (t : PT α) : t.PostL fun _ => True := fun _ _ _ _ _ _ => trivial
theorem postL_ret {α : Type} {x : α} {P : α → Prop} (h : P x) : (PT.ret x).PostL P := postL_of (post_ret h)
theorem postL_bad {α : Type} {c : Int} {P : α → Prop} : (PT.bad c : PT α).PostL P := postL_of post_bad
theorem postL_eat {α : Type} {k : PT α} {P : α → Prop} (h : k.PostL P) : (PT.eat k).PostL P := by
  intro s a x b hs hr
  simp only [PT.run] at hr
  split at hr
  · exact h _ _ _ _ hs hr
  · cases hr
theorem postL_cur {α : Type} {k : Int → List UInt8 → PT α} {P : α → Prop} (h : ∀ d y, (d = 1 → WordK y) → (k d y).PostL P) : (PT.cur k).PostL P :=
  fun s a x b hs hr => h _ _ (fun hd => cur_word hs hd) s a x b hs hr
theorem postL_take {α : Type} {x : List UInt8} {yes no : PT α} {P : α → Prop} (h : yes.PostL P) (h' : no.PostL P) : (tTake x yes no).PostL P := by
  refine postL_cur fun d y _ => ?_
  split
  · exact postL_eat h
  · exact h'
theorem postL_many {α : Type} {one : PT α} {P : α → Prop} (h : one.PostL P) : ∀ f, (tMany one f).PostL fun l => ∀ x ∈ l, P x
  | 0 => postL_bad
  | f + 1 => postL_take (postL_ret (by simp)) (postL_bind h fun x hx => postL_bind (postL_many h f) fun l hl => postL_ret (fun y hy => by
      rcases List.mem_cons.1 hy with rfl | hy
      · exact hx
      · exact hl y hy))
theorem postL_threads {P : Ins → Prop} (h : tInsE.PostL P) : ∀ f, (tThreads f).PostL fun l => ∀ t ∈ l, ∀ x ∈ t, P x
  | 0 => postL_bad
  | f + 1 => postL_take (postL_bind (postL_bind (postL_true _) fun _ _ => postL_many h fuelP) fun x hx => postL_bind (postL_threads h f) fun l hl => postL_ret (fun y hy => by
      rcases List.mem_cons.1 hy with rfl | hy
      · exact hx
      · exact hl y hy)) (postL_ret (by simp))
theorem postL_row {P : Atom → Prop} (h : tAtom.PostL P) : ∀ f, (tRow f).PostL fun l => ∀ x ∈ l, P x
  | 0 => postL_bad
  | f + 1 => postL_take (postL_bind h fun x hx => postL_bind (postL_row h f) fun l hl => postL_ret (fun y hy => by
      rcases List.mem_cons.1 hy with rfl | hy
      · exact hx
      · exact hl y hy)) (postL_ret (by simp))
theorem postL_rows {P : Atom → Prop} (h : tAtom.PostL P) : ∀ f, (tRows f).PostL fun l => l ≠ [] ∧ ∀ t ∈ l, t ≠ [] ∧ ∀ x ∈ t, P x
  | 0 => postL_bad
  | f + 1 => postL_bind h fun x hx => postL_bind (postL_row h fuelP) fun l hl => by
      have hxl : x :: l ≠ [] ∧ ∀ y ∈ x :: l, P y := ⟨by simp, fun y hy => by
        rcases List.mem_cons.1 hy with rfl | hy
        · exact hx
        · exact hl y hy⟩
      exact postL_take (postL_bind (postL_rows h f) fun r hr => postL_ret ⟨by simp, fun y hy => by
        rcases List.mem_cons.1 hy with rfl | hy
        · exact hxl
        · exact hr.2 y hy⟩) (postL_ret ⟨by simp, fun y hy => by
          simp only [List.mem_cons, List.not_mem_nil, or_false] at hy
          subst hy
          exact hxl⟩)
theorem postL_word : tWord.PostL WordK := postL_cur fun d y hy => by
  split
  · rename_i h; exact postL_eat (postL_ret (hy h))
  · exact postL_bad
theorem postL_num : tNum.PostL I64 := postL_cur fun d y _ => by
  split
  · exact postL_eat (postL_ret (parseW_I64 y))
  · exact postL_bad
theorem postL_loc : (tNamed locN).PostL fun n => isLocB n = true := postL_cur fun d y hy => by
  split
  · rename_i hd
    obtain ⟨⟨c, r, rfl, hc, _⟩, _⟩ := hy hd
    split
    · rename_i n hn
      refine postL_eat (postL_ret ?_)
      unfold locN at hn
      split at hn
      · have e := Option.some.inj hn
        simp only [List.getD_cons_zero] at e
        simp only [letB, Bool.and_eq_true, decide_eq_true_eq] at hc
        simp only [isLocB, Bool.and_eq_true, decide_eq_true_eq]
        omega
      · cases hn
    · exact postL_bad
  · exact postL_bad
theorem postL_reg : (tNamed regN).PostL fun n => isRegB n = true := postL_cur fun d y _ => by
  split
  · split
    · rename_i n hn
      refine postL_eat (postL_ret ?_)
      unfold regN at hn
      split at hn
      · rename_i hh
        have e := Option.some.inj hn
        simp only [isRegB, Bool.and_eq_true, decide_eq_true_eq]
        omega
      · cases hn
    · exact postL_bad
  · exact postL_bad
def OpdK (o : Opnd) : Prop := isOpB o = true ∧ I64 o.reg ∧ I64 o.value
theorem reg_i64 {n : Int} (h : isRegB n = true) : I64 n := by
  simp only [isRegB, Bool.and_eq_true, decide_eq_true_eq] at h
  unfold I64; omega
theorem i64_0 : I64 0 := by unfold I64; omega
theorem i64_m1 : I64 (-1) := by unfold I64; omega
theorem postL_opd : tOpd.PostL OpdK := postL_cur fun d y _ => by
  split
  · exact postL_bind postL_num fun n hn => postL_ret ⟨by simp [isOpB], i64_m1, hn⟩
  · exact postL_bind postL_reg fun n hn => postL_ret ⟨by simp [isOpB, hn], reg_i64 hn, i64_0⟩
def InsK (x : Ins) : Prop := okInsB x = true ∧ I64i x
theorem opFrom_range (s : List UInt8) : ∀ (f i : Nat), i + f ≤ 12 → 0 ≤ (opFrom s i f).1 ∧ (opFrom s i f).1 ≤ 11
  | 0, i, _ => by simp [opFrom]
  | f + 1, i, h => by
    have ih := opFrom_range s f (i + 1) (by omega)
    unfold opFrom
    repeat' split
    all_goals first
      | exact ih
      | (simp only; omega)
theorem opFrom_pos (s : List UInt8) : ∀ (f i : Nat), (opFrom s i f).2 = true → 0 < (opFrom s i f).1
  | 0, i, h => by simp [opFrom] at h
  | f + 1, i, h => by
    by_cases hh : 0 < i ∧ signsT.getD i [] = s
    · rw [opFrom, if_pos hh]
      show (0 : Int) < (i : Int)
      omega
    · rw [opFrom, if_neg hh] at h ⊢
      exact opFrom_pos s f (i + 1) h
theorem insK_store {l : Int} {x : Opnd} (hl : isLocB l = true) (hx : OpdK x) : InsK ⟨1, 0, l, x, 0, ⟨0, 0⟩, 0⟩ := by
  refine ⟨?_, i64_0, hx.2.1, hx.2.2, i64_0, i64_0, i64_0⟩
  simp [okInsB, hl, hx.1, eqIns]
theorem insK_load {r l : Int} (hr : isRegB r = true) (hl : isLocB l = true) : InsK ⟨2, r, l, ⟨0, 0⟩, 0, ⟨0, 0⟩, 0⟩ := by
  refine ⟨?_, reg_i64 hr, i64_0, i64_0, i64_0, i64_0, i64_0⟩
  simp [okInsB, hl, hr, eqIns]
theorem insK_cas {r l : Int} {x y : Opnd} (hr : isRegB r = true) (hl : isLocB l = true) (hx : OpdK x) (hy : OpdK y) : InsK ⟨4, r, l, x, 0, y, 0⟩ := by
  refine ⟨?_, reg_i64 hr, hx.2.1, hx.2.2, hy.2.1, hy.2.2, i64_0⟩
  simp [okInsB, hl, hr, hx.1, hy.1, eqIns]
theorem insK_set {r op : Int} {x y : Opnd} (hr : isRegB r = true) (hx : OpdK x) (hy : OpdK y) (h0 : 0 < op) (h1 : op ≤ 11) : InsK ⟨5, r, 0, x, op, y, 0⟩ := by
  refine ⟨?_, reg_i64 hr, hx.2.1, hx.2.2, hy.2.1, hy.2.2, i64_0⟩
  have h2 : 0 ≤ op := by omega
  simp [okInsB, hr, hx.1, hy.1, eqIns, h0, h1, h2]
theorem insK_mov {r : Int} {x : Opnd} (hr : isRegB r = true) (hx : OpdK x) : InsK ⟨5, r, 0, x, 0, ⟨-1, 0⟩, 0⟩ := by
  refine ⟨?_, reg_i64 hr, hx.2.1, hx.2.2, i64_m1, i64_0, i64_0⟩
  have h1 : isOpB ⟨-1, 0⟩ = true := by decide
  simp [okInsB, hr, hx.1, eqIns, h1]
theorem insK_skip {n : Int} {x y : Opnd} (hn : 0 ≤ n) (hi : I64 n) (hx : OpdK x) (hy : OpdK y) : InsK ⟨6, 0, 0, x, 0, y, n⟩ := by
  refine ⟨?_, i64_0, hx.2.1, hx.2.2, hy.2.1, hy.2.2, hi⟩
  simp [okInsB, hn, hx.1, hy.1, eqIns]
theorem postL_right {r : Int} (hr : isRegB r = true) : (tRight r).PostL InsK := by
  refine postL_take (postL_bind postL_loc fun l hl => postL_ret (insK_load hr hl)) ?_
  refine postL_take (postL_bind postL_loc fun l hl => postL_bind postL_opd fun x hx => postL_bind postL_opd fun y hy => postL_ret (insK_cas hr hl hx hy)) ?_
  refine postL_bind postL_opd fun x hx => postL_cur fun d y _ => ?_
  split
  · rename_i h
    refine postL_eat (postL_bind postL_opd fun z hz => postL_ret (insK_set hr hx hz ?_ ?_))
    · exact opFrom_pos y 12 0 h.2
    · exact (opFrom_range y 12 0 (by omega)).2
  · exact postL_ret (insK_mov hr hx)
theorem postL_ins : tIns.PostL InsK := by
  refine postL_take (postL_bind postL_loc fun l hl => postL_bind postL_opd fun x hx => postL_ret (insK_store hl hx)) ?_
  refine postL_take (postL_ret ⟨by decide, i64_0, i64_0, i64_0, i64_0, i64_0, i64_0⟩) ?_
  refine postL_take ?_ (postL_bind postL_reg fun r hr => postL_bind (postL_true _) fun _ _ => postL_right hr)
  intro s a x b hs hrun
  rw [PT.run] at hrun
  split at hrun
  · cases hrun
  · rename_i hd
    rw [PT.run_bind] at hrun
    cases hn : tNum.run s a with
    | error e => rw [hn] at hrun; cases hrun
    | ok p =>
      obtain ⟨n, c⟩ := p
      rw [hn] at hrun
      have hn0 : 0 ≤ n ∧ I64 n := by
        unfold tNum at hn
        rw [PT.run] at hn
        split at hn
        · rename_i h2
          rw [PT.run] at hn
          split at hn
          · simp only [PT.run, Except.ok.injEq, Prod.mk.injEq] at hn
            rw [← hn.1]
            refine ⟨?_, parseW_I64 _⟩
            rcases Int.lt_or_le (parseW (curT s a).tx).1 0 with h | h
            · exact absurd ⟨h2, h⟩ hd
            · exact h
          · cases hn
        · cases hn
      have key : ((tMust wIf).bind fun _ => tOpd.bind fun x => (tMust [61, 61]).bind fun _ => tOpd.bind fun y => (PT.ret (⟨6, 0, 0, x, 0, y, n⟩ : Ins))).PostL InsK :=
        postL_bind (postL_true _) fun _ _ => postL_bind postL_opd fun x hx => postL_bind (postL_true _) fun _ _ => postL_bind postL_opd fun y hy => postL_ret (insK_skip hn0.1 hn0.2 hx hy)
      exact key s c x b hs hrun
theorem postL_insE : tInsE.PostL InsK := postL_bind postL_ins fun x hx => postL_bind (postL_true _) fun _ _ => postL_ret hx
def AtomK (a : Atom) : Prop := okAtomB a = true ∧ I64a a
theorem postL_who : tWho.PostL fun x => ∀ n, I64 n → AtomK { x with value := n } := postL_cur fun d y _ => by
  split
  · split
    · exact postL_bad
    · rename_i hr
      refine postL_eat (postL_bind (postL_true _) fun _ _ => postL_bind postL_reg fun r hreg => postL_ret fun n hn => ?_)
      have h0 : 0 ≤ (parseW y).1 ∧ (parseW y).1 ≤ 9 := by omega
      generalize (parseW y).1 = m at h0
      have hm : ¬ m = -1 := by omega
      refine ⟨?_, by unfold I64; simp only; omega, reg_i64 hreg, hn⟩
      simp [okAtomB, hm, h0.1, h0.2, hreg]
  · refine postL_bind postL_loc fun l hl => postL_ret fun n hn => ⟨?_, i64_m1, i64_0, hn⟩
    simp [okAtomB, hl]
theorem postL_atom : tAtom.PostL AtomK := postL_bind postL_who fun x hx => postL_bind (postL_true _) fun _ _ => postL_bind postL_num fun n hn => postL_ret (hx n hn)
def InitK (x : Init) : Prop := isLocB x.loc = true ∧ I64 x.value
theorem postL_init : tInit.PostL InitK := postL_bind postL_loc fun l hl => postL_bind (postL_true _) fun _ _ => postL_bind postL_num fun n hn => postL_bind (postL_true _) fun _ _ => postL_ret ⟨hl, hn⟩
structure ParsedT (t : Test) : Prop where
  val : ValT t
  name : t.name.length ≤ 4000
  lens : Lens t
theorem parsed_run : tTest.PostL ParsedT := by
  refine fun s a t b hs hr => ?_
  have hl := lens_run s a t b hr
  have key : tTest.PostL fun t => ValT t ∧ t.name.length ≤ 4000 := by
    refine postL_bind (postL_true _) fun _ _ => postL_bind postL_word fun n hn => postL_bind (postL_true _) fun _ _ => ?_
    refine postL_bind (P := fun l => ∀ x ∈ l, InitK x) (postL_take (postL_bind (postL_true _) fun _ _ => postL_many postL_init fuelP) (postL_ret (by simp))) fun i hi => ?_
    refine postL_bind (postL_threads postL_insE fuelP) fun th hth => ?_
    refine postL_bind (P := fun c => okCondB c.1 c.2 = true ∧ ∀ l ∈ c.2, ∀ x ∈ l, AtomK x) ?_ fun c hc => postL_bind (postL_true _) fun _ _ => postL_cur fun d y _ => ?_
    · have ask : ∀ k, k = 1 ∨ k = 2 → (tAsk k).PostL fun c => okCondB c.1 c.2 = true ∧ ∀ l ∈ c.2, ∀ x ∈ l, AtomK x := fun k hk => postL_bind (postL_rows postL_atom fuelP) fun r hr => postL_bind (postL_true _) fun _ _ => postL_ret (by
        refine ⟨?_, fun l hl => (hr.2 l hl).2⟩
        have hk0 : ¬ k = 0 := by omega
        have hb : r.any badRowB = false := by
          rw [List.any_eq_false]
          intro l hl
          obtain ⟨h1, h2⟩ := hr.2 l hl
          unfold badRowB
          simp only [Bool.or_eq_true, decide_eq_true_eq, List.any_eq_true, not_or, not_exists, not_and]
          exact ⟨fun h => h1 (List.eq_nil_of_length_eq_zero h), fun a ha => by simp [(h2 a ha).1]⟩
        have hp : 0 < r.length := List.length_pos_iff.2 hr.1
        simp only [okCondB, if_neg hk0, hb, Bool.not_false, Bool.and_true, Bool.and_eq_true, Bool.or_eq_true, decide_eq_true_eq]
        exact ⟨hk, hp⟩)
      exact postL_take (ask 1 (.inl rfl)) (postL_take (ask 2 (.inr rfl)) (postL_ret ⟨by decide, by simp⟩))
    · split
      · refine postL_ret ⟨⟨?_, fun x hx => (hi x hx).2, fun l hl x hx => (hth l hl x hx).2, fun l hl a ha => (hc.2 l hl a ha).2⟩, hn.2⟩
        have h1 : badInitB i = false := by
          unfold badInitB
          rw [List.any_eq_false]
          intro x hx
          simp [(hi x hx).1]
        have h2 : th.any badThreadB = false := by
          rw [List.any_eq_false]
          intro l hl
          unfold badThreadB
          simp only [List.any_eq_true, not_exists, not_and]
          intro x hx
          simp [(hth l hl x hx).1]
        simp only [okB, hn.word, h1, h2, hc.1]
        rfl
      · exact postL_bad
  obtain ⟨h1, h2⟩ := key s a t b hs hr
  exact ⟨h1, h2, hl⟩
theorem pTest_parsed {s : List UInt8} {t : Test} (ht : pTest s = .ok t) : ParsedT t := by
  unfold pTest at ht
  split at ht
  · cases ht
  · rename_i hs
    split at ht
    · rename_i a _
      split at ht
      · rename_i t' b hb
        cases ht
        exact parsed_run s a t b (by omega) hb
      · cases ht
    · cases ht
end Go.Proofs.YtpfbljkfbjjlkaaGreatDoor

/- Which parts of a test may be, told without a heap: words, locations, registers, operands. -/
namespace Go.Proofs.YtpfbljkfbjjlkaaGreatDoor
open Go Go.Jq
set_option maxRecDepth 100000
set_option linter.unusedSimpArgs false
theorem isLoc_pure (n : Int) : Pure Tryz.prog 76 [.d (.int .i64 n)] (.d (.bool (isLocB n))) := by
  refine acalls_of Tryz.func76 ac76_ok Tryz.ntmps76 Tryz.results76 rfl ?_
  unfold ac76
  refine bwp_seq fun K hK => bwp_region rfl ?_
  simp -implicitDefEqProofs only [go_sem, ↓reduceIte]
  refine hK _ ?_; clear hK
  by_cases h : 97 ≤ n
  · refine bwp_seq fun K hK => bwp_region rfl ?_
    simp -implicitDefEqProofs only [go_sem, ↓reduceIte, h]
    refine hK _ ?_; clear hK
    refine bwp_ret ?_
    simp only [go_sem]
    refine aend_ret _ rfl rfl ⟨?_, rfl⟩
    simp [fget, isLocB, h]
  · refine bwp_seq fun K hK => bwp_region rfl ?_
    simp -implicitDefEqProofs only [go_sem, ↓reduceIte, h]
    refine hK _ ?_; clear hK
    refine bwp_ret ?_
    simp only [go_sem]
    refine aend_ret _ rfl rfl ⟨?_, rfl⟩
    simp [fget, isLocB, h]
theorem isReg_pure (n : Int) : Pure Tryz.prog 138 [.d (.int .i64 n)] (.d (.bool (isRegB n))) := by
  refine acalls_of Tryz.func138 ac138_ok Tryz.ntmps138 Tryz.results138 rfl ?_
  unfold ac138
  refine bwp_seq fun K hK => bwp_region rfl ?_
  simp -implicitDefEqProofs only [go_sem, ↓reduceIte]
  refine hK _ ?_; clear hK
  by_cases h : 0 ≤ n
  · refine bwp_seq fun K hK => bwp_region rfl ?_
    simp -implicitDefEqProofs only [go_sem, ↓reduceIte, h]
    refine hK _ ?_; clear hK
    refine bwp_ret ?_
    simp only [go_sem]
    refine aend_ret _ rfl rfl ⟨?_, rfl⟩
    simp [fget, isRegB, h]
  · refine bwp_seq fun K hK => bwp_region rfl ?_
    simp -implicitDefEqProofs only [go_sem, ↓reduceIte, h]
    refine hK _ ?_; clear hK
    refine bwp_ret ?_
    simp only [go_sem]
    refine aend_ret _ rfl rfl ⟨?_, rfl⟩
    simp [fget, isRegB, h]
theorem isOp_pure (o : Opnd) : Pure Tryz.prog 137 [.agg (o.cells.map .d)] (.d (.bool (isOpB o))) := by
  refine acalls_of Tryz.func137 ac137_ok Tryz.ntmps137 Tryz.results137 rfl ?_
  unfold ac137
  refine bwp_seq fun K hK => bwp_region rfl ?_
  simp -implicitDefEqProofs only [go_sem, ↓reduceIte, Opnd.cells]
  refine hK _ ?_; clear hK
  by_cases h : o.reg = -1
  · refine bwp_seq fun K hK => bwp_region rfl ?_
    simp -implicitDefEqProofs only [go_sem, ↓reduceIte, h]
    refine hK _ ?_; clear hK
    refine bwp_ret ?_
    simp only [go_sem]
    refine aend_ret _ rfl rfl ⟨?_, rfl⟩
    simp [fget, isOpB, h]
  · refine bwp_seq fun K hK => bwp_region rfl ?_
    simp -implicitDefEqProofs only [go_sem, ↓reduceIte, h]
    refine callK_pure (isReg_pure o.reg) rfl rfl ?_
    cases h2 : isRegB o.reg
    · simp -implicitDefEqProofs only [go_sem, ↓reduceIte]
      refine hK _ ?_; clear hK
      refine bwp_ret ?_
      simp only [go_sem]
      refine aend_ret _ rfl rfl ⟨?_, rfl⟩
      simp [fget, isOpB, h, h2]
    · simp -implicitDefEqProofs only [go_sem, ↓reduceIte]
      refine hK _ ?_; clear hK
      refine bwp_ret ?_
      simp only [go_sem]
      refine aend_ret _ rfl rfl ⟨?_, rfl⟩
      simp [fget, isOpB, h, h2]
def wdS (s : List UInt8) (i : Nat) : St := ⟨[(7, .d (.int .i64 i)), (6, .d (.int .i64 s.length)), (0, .d (.str s)), (2, .d (.bool false))], [], 0⟩
theorem isWord_pure (s : List UInt8) (hs : s.length ≤ 9223372036854775807) : Pure Tryz.prog 73 [.d (.str s)] (.d (.bool (isWordB s))) := by
  refine acalls_of Tryz.func73 ac73_ok Tryz.ntmps73 Tryz.results73 rfl ?_
  unfold ac73
  refine bwp_seq fun K hK => bwp_region rfl ?_
  simp -implicitDefEqProofs only [go_sem, ↓reduceIte]
  refine hK _ ?_; clear hK
  refine bwp_seq fun K1 hK1 => ?_
  refine bwp_seq fun K2 hK2 => ?_
  refine bwp_region rfl ?_
  simp -implicitDefEqProofs only [go_sem, ↓reduceIte]
  refine hK2 _ ?_; clear hK2
  refine bwp_block ?_
  refine bwp_leads (S' := wdS s 0) (Leads.ent [] ⟨by simp [entT, fget, AV.ren, renL, pget, wdS], by simp [entM, pinv, mget, mset, renL, AV.ren, pget, renL_append, -List.map_map, wdS], rfl, rfl⟩) ?_
  refine bwp_countI (fun i => wdS s i) (fun i => ∀ j, j < i → wordAt j (s.getD j 0) = true) s.length (fun j h => by omega) ?_
  intro i hi hp
  unfold ac73L0 wdS
  by_cases hlt : i < s.length
  · have hlt' : (i : Int) < s.length := by omega
    refine bwp_seq fun K hK => bwp_region rfl ?_
    simp -implicitDefEqProofs only [go_sem, ↓reduceIte, hlt']
    refine hK _ ?_; clear hK
    refine bwp_seq fun K2 hK2 => ?_
    refine bwp_cond true (by simp [ev, fget]) (fun _ => ?_) (fun h => nomatch h)
    refine bwp_skip ?_
    refine hK2 _ ?_; clear hK2
    refine bwp_seq fun K2 hK2 => ?_
    refine bwp_block ?_
    refine bwp_seq fun K hK => bwp_region rfl ?_
    simp -implicitDefEqProofs only [go_sem, ↓reduceIte]
    refine hK _ ?_; clear hK
    refine bwp_seq fun K hK => bwp_region rfl ?_
    simp -implicitDefEqProofs only [go_sem, ↓reduceIte, Int.natCast_nonneg, hlt', Int.toNat_natCast]
    refine hK _ ?_; clear hK
    have hc := (s.getD i 0).toNat_lt
    generalize hcd : s.getD i 0 = c at hc
    refine bwp_seq fun K3 hK3 => ?_
    have bad : ∀ t : Fr, fget t 30 = .d (.bool true) → wordAt i c = false → K3 ⟨t, [], 0⟩ := by
      intro t h30 hw
      refine hK3 _ ?_; clear hK3
      refine bwp_cond true (by simp [ev, fget, h30]) (fun _ => ?_) (fun h => nomatch h)
      refine bwp_seq fun K hK => bwp_region rfl ?_
      simp -implicitDefEqProofs only [go_sem, ↓reduceIte]
      refine hK _ ?_; clear hK
      refine bwp_ret ?_
      simp only [go_sem]
      refine aend_ret _ rfl rfl ⟨?_, rfl⟩
      simp [fget, isWord_at s hlt (by rw [hcd]; exact hw)]
    have good : ∀ t : Fr, fget t 30 = .d (.bool false) → fget t 0 = .d (.str s) → fget t 6 = .d (.int .i64 s.length) → fget t 7 = .d (.int .i64 i) → fget t 2 = .d (.bool false) → wordAt i c = true → K3 ⟨t, [], 0⟩ := by
      intro t h30 h0 h6 h7 h2 hw
      refine hK3 _ ?_; clear hK3
      refine bwp_cond false (by simp [ev, fget, h30]) (fun h => nomatch h) (fun _ => ?_)
      refine bwp_skip ?_
      simp -implicitDefEqProofs only [go_sem, ↓reduceIte]
      refine hK2 _ ?_; clear hK2
      have hwi : IntKind.i64.wrap ((i : Int) + 1) = ((i + 1 : Nat) : Int) := by rw [wrap_i64 (by omega) (by omega)]; rfl
      refine bwp_region rfl ?_
      simp -implicitDefEqProofs only [go_sem, ↓reduceIte, h7, hwi]
      refine ⟨hlt, fun j hj => ?_, Leads.ent [] ⟨by simp [wdS, entT, fget, AV.ren, pget, h0, h6, h7, h2], by simp [wdS, entM], rfl, rfl⟩⟩
      by_cases hji : j = i
      · subst hji; rw [hcd]; exact hw
      · exact hp j (by omega)
    have hz : ((i : Int) = 0) = (i = 0) := by apply propext; omega
    by_cases h1 : (c.toNat : Int) < 97
    · by_cases h2 : i = 0
      · have h2' : ((i : Nat) : Int) = 0 := by omega
        refine bwp_region rfl ?_
        simp -implicitDefEqProofs only [go_sem, ↓reduceIte, h1, h2']
        exact bad _ rfl (by unfold wordAt; have : ¬ 97 ≤ c.toNat := by omega
                            simp [h2, this])
      · have h2' : ¬ ((i : Nat) : Int) = 0 := by omega
        by_cases h3 : (c.toNat : Int) < 48
        · refine bwp_region rfl ?_
          simp -implicitDefEqProofs only [go_sem, ↓reduceIte, h1, h2', h3]
          exact bad _ rfl (by unfold wordAt; have e1 : ¬ 97 ≤ c.toNat := by omega
                              have e2 : ¬ 48 ≤ c.toNat := by omega
                              simp [e1, e2])
        · by_cases h4 : (57 : Int) < c.toNat
          · refine bwp_region rfl ?_
            simp -implicitDefEqProofs only [go_sem, ↓reduceIte, h1, h2', h3, h4]
            exact bad _ rfl (by unfold wordAt; have e1 : ¬ 97 ≤ c.toNat := by omega
                                have e2 : ¬ c.toNat ≤ 57 := by omega
                                simp [e1, e2])
          · refine bwp_region rfl ?_
            simp -implicitDefEqProofs only [go_sem, ↓reduceIte, h1, h2', h3, h4]
            exact good _ rfl rfl rfl rfl rfl (by unfold wordAt; have e1 : 48 ≤ c.toNat := by omega
                                                 have e2 : c.toNat ≤ 57 := by omega
                                                 simp [e1, e2, h2])
    · by_cases h5 : (122 : Int) < c.toNat
      · by_cases h2 : i = 0
        · have h2' : ((i : Nat) : Int) = 0 := by omega
          refine bwp_region rfl ?_
          simp -implicitDefEqProofs only [go_sem, ↓reduceIte, h1, h5, h2']
          exact bad _ rfl (by unfold wordAt; have : ¬ c.toNat ≤ 122 := by omega
                              simp [h2, this])
        · have h2' : ¬ ((i : Nat) : Int) = 0 := by omega
          have h3 : ¬ (c.toNat : Int) < 48 := by omega
          have h4 : (57 : Int) < c.toNat := by omega
          refine bwp_region rfl ?_
          simp -implicitDefEqProofs only [go_sem, ↓reduceIte, h1, h5, h2', h3, h4]
          exact bad _ rfl (by unfold wordAt; have e1 : ¬ c.toNat ≤ 122 := by omega
                              have e2 : ¬ c.toNat ≤ 57 := by omega
                              simp [e1, e2])
      · refine bwp_region rfl ?_
        simp -implicitDefEqProofs only [go_sem, ↓reduceIte, h1, h5]
        exact good _ rfl rfl rfl rfl rfl (by unfold wordAt; have e1 : 97 ≤ c.toNat := by omega
                                             have e2 : c.toNat ≤ 122 := by omega
                                             simp [e1, e2])
  · have hlt' : ¬ (i : Int) < s.length := by omega
    refine bwp_seq fun K hK => bwp_region rfl ?_
    simp -implicitDefEqProofs only [go_sem, ↓reduceIte, hlt']
    refine hK _ ?_; clear hK
    refine bwp_seq fun K2 hK2 => ?_
    refine bwp_cond false (by simp [ev, fget]) (fun h => nomatch h) (fun _ => ?_)
    refine bwp_exit ?_
    simp -implicitDefEqProofs only [go_sem, ↓reduceIte]
    refine hK1 _ ?_; clear hK1
    have hall := isWord_all s fun j hj => hp j (by omega)
    refine bwp_seq fun K hK => bwp_region rfl ?_
    simp -implicitDefEqProofs only [go_sem, ↓reduceIte]
    refine hK _ ?_; clear hK
    refine bwp_ret ?_
    simp only [go_sem]
    refine aend_ret _ rfl rfl ⟨?_, rfl⟩
    simp [fget, hall]
end Go.Proofs.YtpfbljkfbjjlkaaGreatDoor

/- Which instructions may be, told without a heap. -/
namespace Go.Proofs.YtpfbljkfbjjlkaaGreatDoor
open Go Go.Jq
set_option maxRecDepth 100000
set_option linter.unusedSimpArgs false
set_option maxHeartbeats 4000000 in
theorem fields_pure (x : Ins) : Pure Tryz.prog 109 [.agg (x.cells.map .d), .fn 76 []] (.d (.bool (okInsB x))) := by
  refine acalls_of Tryz.func109 ac109_ok Tryz.ntmps109 Tryz.results109 rfl ?_
  unfold ac109
  refine bwp_seq fun K hK => bwp_region rfl ?_
  simp -implicitDefEqProofs only [go_sem, ↓reduceIte, Ins.cells]
  refine hK _ ?_; clear hK
  refine bwp_seq fun K hK => bwp_region rfl ?_
  simp -implicitDefEqProofs only [go_sem, ↓reduceIte]
  refine hK _ ?_; clear hK
  refine bwp_seq fun K hK => bwp_region rfl ?_
  simp -implicitDefEqProofs only [go_sem, ↓reduceIte]
  refine hK _ ?_; clear hK
  refine bwp_seq fun K1 hK1 => ?_
  have tail : ∀ (t : Fr) (n : Nat) (w : Ins) (ok : Bool), fget t 6 = .d (.bool ok) → fget t 2 = .ptr 0 0 → fget t 5 = .ptr 1 0 → okInsB x = (ok && eqIns x w) → K1 ⟨t, [(0, x.cells.map .d), (1, w.cells.map .d)], n⟩ := by
    intro t n w ok h6 h2 h5 hok
    refine hK1 _ ?_; clear hK1
    refine bwp_seq fun K hK => bwp_region (by simp [mbound]) ?_
    cases ok
    · simp -implicitDefEqProofs only [go_sem, ↓reduceIte, h6, h2, h5, Ins.cells]
      refine hK _ ?_; clear hK
      refine bwp_ret ?_
      simp only [go_sem]
      refine aend_ret _ rfl rfl ⟨?_, rfl⟩
      simp [fget, hok]
    · simp -implicitDefEqProofs only [go_sem, ↓reduceIte, h6, h2, h5, Ins.cells]
      refine hK _ ?_; clear hK
      refine bwp_ret ?_
      simp only [go_sem]
      refine aend_ret _ rfl rfl ⟨?_, rfl⟩
      simp [fget, hok, eqIns]
  refine bwp_seq fun K hK => bwp_region rfl ?_
  simp -implicitDefEqProofs only [go_sem, ↓reduceIte]
  refine hK _ ?_; clear hK
  refine bwp_block ?_
  refine bwp_seq fun K hK => bwp_region rfl ?_
  simp -implicitDefEqProofs only [go_sem, ↓reduceIte]
  refine hK _ ?_; clear hK
  by_cases h1 : x.kind = 1
  · refine bwp_cond true (by simp [ev, fget, h1]) (fun _ => ?_) (fun h => nomatch h)
    refine bwp_seq fun K hK => bwp_region_draw rfl rfl ?_
    simp -implicitDefEqProofs only [go_sem, ↓reduceIte]
    refine ⟨rfl, hK _ ?_⟩; clear hK
    refine bwp_region rfl ?_
    simp -implicitDefEqProofs only [go_sem, ↓reduceIte]
    refine ⟨rfl, callK_pure (isLoc_pure x.loc) rfl rfl ?_⟩
    cases hb : isLocB x.loc
    · simp -implicitDefEqProofs only [go_sem, ↓reduceIte]
      exact tail _ _ ⟨x.kind, 0, x.loc, x.a, 0, ⟨0, 0⟩, 0⟩ false rfl rfl rfl (by simp [okInsB, h1, hb])
    · simp -implicitDefEqProofs only [go_sem, ↓reduceIte]
      refine callK_pure (isOp_pure x.a) rfl rfl ?_
      simp -implicitDefEqProofs only [go_sem, ↓reduceIte]
      exact tail _ _ ⟨x.kind, 0, x.loc, x.a, 0, ⟨0, 0⟩, 0⟩ (isOpB x.a) (by simp [fget]) rfl rfl (by simp [okInsB, h1, hb])
  refine bwp_cond false (by simp [ev, fget, h1]) (fun h => nomatch h) (fun _ => ?_)
  refine bwp_seq fun K hK => bwp_region rfl ?_
  simp -implicitDefEqProofs only [go_sem, ↓reduceIte]
  refine hK _ ?_; clear hK
  by_cases h2 : x.kind = 2
  · refine bwp_cond true (by simp [ev, fget, h2]) (fun _ => ?_) (fun h => nomatch h)
    refine bwp_seq fun K hK => bwp_region_draw rfl rfl ?_
    simp -implicitDefEqProofs only [go_sem, ↓reduceIte]
    refine ⟨rfl, hK _ ?_⟩; clear hK
    refine bwp_region rfl ?_
    simp -implicitDefEqProofs only [go_sem, ↓reduceIte]
    refine ⟨rfl, callK_pure (isLoc_pure x.loc) rfl rfl ?_⟩
    cases hb : isLocB x.loc
    · simp -implicitDefEqProofs only [go_sem, ↓reduceIte]
      exact tail _ _ ⟨x.kind, x.reg, x.loc, ⟨0, 0⟩, 0, ⟨0, 0⟩, 0⟩ false rfl rfl rfl (by simp [okInsB, h2, hb])
    · simp -implicitDefEqProofs only [go_sem, ↓reduceIte]
      refine callK_pure (isReg_pure x.reg) rfl rfl ?_
      simp -implicitDefEqProofs only [go_sem, ↓reduceIte]
      exact tail _ _ ⟨x.kind, x.reg, x.loc, ⟨0, 0⟩, 0, ⟨0, 0⟩, 0⟩ (isRegB x.reg) (by simp [fget]) rfl rfl (by simp [okInsB, h2, hb])
  refine bwp_cond false (by simp [ev, fget, h2]) (fun h => nomatch h) (fun _ => ?_)
  refine bwp_seq fun K hK => bwp_region rfl ?_
  simp -implicitDefEqProofs only [go_sem, ↓reduceIte]
  refine hK _ ?_; clear hK
  by_cases h3 : x.kind = 3
  · refine bwp_cond true (by simp [ev, fget, h3]) (fun _ => ?_) (fun h => nomatch h)
    refine bwp_skip ?_
    simp -implicitDefEqProofs only [go_sem, ↓reduceIte]
    exact tail _ _ ⟨x.kind, 0, 0, ⟨0, 0⟩, 0, ⟨0, 0⟩, 0⟩ true rfl rfl rfl (by simp [okInsB, h3])
  refine bwp_cond false (by simp [ev, fget, h3]) (fun h => nomatch h) (fun _ => ?_)
  refine bwp_seq fun K hK => bwp_region rfl ?_
  simp -implicitDefEqProofs only [go_sem, ↓reduceIte]
  refine hK _ ?_; clear hK
  by_cases h4 : x.kind = 4
  · refine bwp_cond true (by simp [ev, fget, h4]) (fun _ => ?_) (fun h => nomatch h)
    refine bwp_seq fun K hK => bwp_region_draw rfl rfl ?_
    simp -implicitDefEqProofs only [go_sem, ↓reduceIte]
    refine ⟨rfl, hK _ ?_⟩; clear hK
    refine bwp_region rfl ?_
    simp -implicitDefEqProofs only [go_sem, ↓reduceIte]
    refine ⟨rfl, callK_pure (isLoc_pure x.loc) rfl rfl ?_⟩
    cases hb : isLocB x.loc
    · simp -implicitDefEqProofs only [go_sem, ↓reduceIte]
      exact tail _ _ ⟨x.kind, x.reg, x.loc, x.a, 0, x.b, 0⟩ false rfl rfl rfl (by simp [okInsB, h4, hb])
    · simp -implicitDefEqProofs only [go_sem, ↓reduceIte]
      refine callK_pure (isReg_pure x.reg) rfl rfl ?_
      cases hb2 : isRegB x.reg
      · simp -implicitDefEqProofs only [go_sem, ↓reduceIte]
        exact tail _ _ ⟨x.kind, x.reg, x.loc, x.a, 0, x.b, 0⟩ false rfl rfl rfl (by simp [okInsB, h4, hb2])
      · simp -implicitDefEqProofs only [go_sem, ↓reduceIte]
        refine callK_pure (isOp_pure x.a) rfl rfl ?_
        cases hb3 : isOpB x.a
        · simp -implicitDefEqProofs only [go_sem, ↓reduceIte]
          exact tail _ _ ⟨x.kind, x.reg, x.loc, x.a, 0, x.b, 0⟩ false rfl rfl rfl (by simp [okInsB, h4, hb3])
        · simp -implicitDefEqProofs only [go_sem, ↓reduceIte]
          refine callK_pure (isOp_pure x.b) rfl rfl ?_
          simp -implicitDefEqProofs only [go_sem, ↓reduceIte]
          exact tail _ _ ⟨x.kind, x.reg, x.loc, x.a, 0, x.b, 0⟩ (isOpB x.b) (by simp [fget]) rfl rfl (by simp [okInsB, h4, hb, hb2, hb3])
  refine bwp_cond false (by simp [ev, fget, h4]) (fun h => nomatch h) (fun _ => ?_)
  refine bwp_seq fun K hK => bwp_region rfl ?_
  simp -implicitDefEqProofs only [go_sem, ↓reduceIte]
  refine hK _ ?_; clear hK
  by_cases h5 : x.kind = 5
  · refine bwp_cond true (by simp [ev, fget, h5]) (fun _ => ?_) (fun h => nomatch h)
    refine bwp_seq fun K hK => bwp_region_draw rfl rfl ?_
    simp -implicitDefEqProofs only [go_sem, ↓reduceIte]
    refine ⟨rfl, hK _ ?_⟩; clear hK
    refine bwp_region rfl ?_
    simp -implicitDefEqProofs only [go_sem, ↓reduceIte]
    refine callK_pure (isReg_pure x.reg) rfl rfl ?_
    cases hb : isRegB x.reg
    · simp -implicitDefEqProofs only [go_sem, ↓reduceIte]
      exact tail _ _ ⟨x.kind, x.reg, 0, x.a, x.op, x.b, 0⟩ false rfl rfl rfl (by simp [okInsB, h5, hb])
    · simp -implicitDefEqProofs only [go_sem, ↓reduceIte]
      refine callK_pure (isOp_pure x.a) rfl rfl ?_
      cases hb3 : isOpB x.a
      · simp -implicitDefEqProofs only [go_sem, ↓reduceIte]
        exact tail _ _ ⟨x.kind, x.reg, 0, x.a, x.op, x.b, 0⟩ false rfl rfl rfl (by simp [okInsB, h5, hb3])
      · simp -implicitDefEqProofs only [go_sem, ↓reduceIte]
        refine callK_pure (isOp_pure x.b) rfl rfl ?_
        cases hb4 : isOpB x.b
        · simp -implicitDefEqProofs only [go_sem, ↓reduceIte]
          exact tail _ _ ⟨x.kind, x.reg, 0, x.a, x.op, x.b, 0⟩ false rfl rfl rfl (by simp [okInsB, h5, hb4])
        · by_cases g1 : 0 ≤ x.op
          · by_cases g2 : x.op ≤ 11
            · by_cases g3 : 0 < x.op
              · simp -implicitDefEqProofs only [go_sem, ↓reduceIte, g1, g2, g3]
                exact tail _ _ ⟨x.kind, x.reg, 0, x.a, x.op, x.b, 0⟩ true rfl rfl rfl (by simp [okInsB, h5, hb, hb3, hb4, g1, g2, g3])
              · simp -implicitDefEqProofs only [go_sem, ↓reduceIte, g1, g2, g3]
                exact tail _ _ ⟨x.kind, x.reg, 0, x.a, x.op, x.b, 0⟩ (decide (x.b.reg = -1) && decide (x.b.value = 0)) (by simp [fget]) rfl rfl (by simp [okInsB, h5, hb, hb3, hb4, g1, g2, g3])
            · simp -implicitDefEqProofs only [go_sem, ↓reduceIte, g1, g2]
              exact tail _ _ ⟨x.kind, x.reg, 0, x.a, x.op, x.b, 0⟩ false rfl rfl rfl (by simp [okInsB, h5, g2])
          · simp -implicitDefEqProofs only [go_sem, ↓reduceIte, g1]
            exact tail _ _ ⟨x.kind, x.reg, 0, x.a, x.op, x.b, 0⟩ false rfl rfl rfl (by simp [okInsB, h5, g1])
  refine bwp_cond false (by simp [ev, fget, h5]) (fun h => nomatch h) (fun _ => ?_)
  refine bwp_seq fun K hK => bwp_region rfl ?_
  simp -implicitDefEqProofs only [go_sem, ↓reduceIte]
  refine hK _ ?_; clear hK
  by_cases h6 : x.kind = 6
  · refine bwp_cond true (by simp [ev, fget, h6]) (fun _ => ?_) (fun h => nomatch h)
    refine bwp_seq fun K hK => bwp_region_draw rfl rfl ?_
    simp -implicitDefEqProofs only [go_sem, ↓reduceIte]
    refine ⟨rfl, hK _ ?_⟩; clear hK
    by_cases g1 : 0 ≤ x.n
    · refine bwp_region rfl ?_
      simp -implicitDefEqProofs only [go_sem, ↓reduceIte, g1]
      refine callK_pure (isOp_pure x.a) rfl rfl ?_
      cases hb3 : isOpB x.a
      · simp -implicitDefEqProofs only [go_sem, ↓reduceIte]
        exact tail _ _ ⟨x.kind, 0, 0, x.a, 0, x.b, x.n⟩ false rfl rfl rfl (by simp [okInsB, h6, hb3])
      · simp -implicitDefEqProofs only [go_sem, ↓reduceIte]
        refine callK_pure (isOp_pure x.b) rfl rfl ?_
        simp -implicitDefEqProofs only [go_sem, ↓reduceIte]
        exact tail _ _ ⟨x.kind, 0, 0, x.a, 0, x.b, x.n⟩ (isOpB x.b) (by simp [fget]) rfl rfl (by simp [okInsB, h6, hb3, g1])
    · refine bwp_region rfl ?_
      simp -implicitDefEqProofs only [go_sem, ↓reduceIte, g1]
      exact tail _ _ ⟨x.kind, 0, 0, x.a, 0, x.b, x.n⟩ false rfl rfl rfl (by simp [okInsB, h6, g1])
  refine bwp_cond false (by simp [ev, fget, h6]) (fun h => nomatch h) (fun _ => ?_)
  refine bwp_seq fun K hK => bwp_region rfl ?_
  simp -implicitDefEqProofs only [go_sem, ↓reduceIte]
  refine hK _ ?_; clear hK
  refine bwp_ret ?_
  simp only [go_sem]
  refine aend_ret _ rfl rfl ⟨?_, rfl⟩
  simp [fget, okInsB, h1, h2, h3, h4, h5, h6]
theorem okIns_pure (x : Ins) : Pure Tryz.prog 72 [.agg (x.cells.map .d)] (.d (.bool (okInsB x))) := by
  refine acalls_of Tryz.func72 ac72_ok Tryz.ntmps72 Tryz.results72 rfl ?_
  unfold ac72
  refine bwp_seq fun K hK => bwp_region rfl ?_
  simp -implicitDefEqProofs only [go_sem, ↓reduceIte, Ins.cells]
  refine hK _ ?_; clear hK
  refine bwp_seq fun K hK => bwp_region rfl ?_
  simp -implicitDefEqProofs only [go_sem, ↓reduceIte]
  refine callK_pure (fields_pure x) rfl rfl ?_
  simp -implicitDefEqProofs only [go_sem, ↓reduceIte]
  refine hK _ ?_; clear hK
  refine bwp_ret ?_
  simp only [go_sem]
  refine aend_ret _ rfl rfl ⟨?_, rfl⟩
  rfl
end Go.Proofs.YtpfbljkfbjjlkaaGreatDoor

/- Which tests may be, told without a heap. -/
namespace Go.Proofs.YtpfbljkfbjjlkaaGreatDoor
open Go Go.Jq
set_option maxRecDepth 100000
set_option linter.unusedSimpArgs false
theorem anyAtoms {gf : Nat} {caps : List AV} (hg : goesB Tryz.prog gf = true) (hcap : inL (fun _ => none) caps = true) {l : List Atom} {X : DV} (hX : IsSl Atom.cells l X) (q : Atom → Bool)
    (hq : ∀ a ∈ l, Pure Tryz.prog gf (.agg ((Atom.cells a).map .d) :: caps) (.d (.bool (q a)))) : Pure Tryz.prog 54 [.d X, .fn gf caps] (.d (.bool (l.any q))) := by
  have h1 : Pure Tryz.prog 100 [.d X, .fn gf caps] _ := indexFunc Tryz.func100 ac100_ok Tryz.ntmps100 rfl Tryz.results100
    (slE_agg (k := 4) atom_len (by omega) hX) hg hcap (fun i hi => by simp [eltA, hi, inB, inL_data]) (p := fun i => (l[i]?.map q).getD false)
    (fun i hi => by simp only [eltA, List.getElem?_eq_getElem hi, Option.map_some, Option.getD_some]; exact hq _ (List.getElem_mem hi))
  have h2 := containsFunc Tryz.func54 ac54_ok Tryz.ntmps54 rfl Tryz.results54 hcap h1
  rw [any_idx] at h2
  exact h2
theorem anyInss {gf : Nat} {caps : List AV} (hg : goesB Tryz.prog gf = true) (hcap : inL (fun _ => none) caps = true) {l : List Ins} {X : DV} (hX : IsSl Ins.cells l X) (q : Ins → Bool)
    (hq : ∀ a ∈ l, Pure Tryz.prog gf (.agg ((Ins.cells a).map .d) :: caps) (.d (.bool (q a)))) : Pure Tryz.prog 70 [.d X, .fn gf caps] (.d (.bool (l.any q))) := by
  have h1 : Pure Tryz.prog 108 [.d X, .fn gf caps] _ := indexFunc Tryz.func108 ac108_ok Tryz.ntmps108 rfl Tryz.results108
    (slE_agg (k := 9) ins_len (by omega) hX) hg hcap (fun i hi => by simp [eltA, hi, inB, inL_data]) (p := fun i => (l[i]?.map q).getD false)
    (fun i hi => by simp only [eltA, List.getElem?_eq_getElem hi, Option.map_some, Option.getD_some]; exact hq _ (List.getElem_mem hi))
  have h2 := containsFunc Tryz.func70 ac70_ok Tryz.ntmps70 rfl Tryz.results70 hcap h1
  rw [any_idx] at h2
  exact h2
theorem anyInits {gf : Nat} {caps : List AV} (hg : goesB Tryz.prog gf = true) (hcap : inL (fun _ => none) caps = true) {l : List Init} {X : DV} (hX : IsSl Init.cells l X) (q : Init → Bool)
    (hq : ∀ a ∈ l, Pure Tryz.prog gf (.agg ((Init.cells a).map .d) :: caps) (.d (.bool (q a)))) : Pure Tryz.prog 74 [.d X, .fn gf caps] (.d (.bool (l.any q))) := by
  have h1 : Pure Tryz.prog 110 [.d X, .fn gf caps] _ := indexFunc Tryz.func110 ac110_ok Tryz.ntmps110 rfl Tryz.results110
    (slE_agg (k := 2) init_len (by omega) hX) hg hcap (fun i hi => by simp [eltA, hi, inB, inL_data]) (p := fun i => (l[i]?.map q).getD false)
    (fun i hi => by simp only [eltA, List.getElem?_eq_getElem hi, Option.map_some, Option.getD_some]; exact hq _ (List.getElem_mem hi))
  have h2 := containsFunc Tryz.func74 ac74_ok Tryz.ntmps74 rfl Tryz.results74 hcap h1
  rw [any_idx] at h2
  exact h2
theorem anyRows {gf : Nat} {caps : List AV} (hg : goesB Tryz.prog gf = true) (hcap : inL (fun _ => none) caps = true) {ls : List (List Atom)} {X : DV} (hX : IsSl2 Atom.cells ls X) (q : List Atom → Bool)
    (hq : ∀ l ∈ ls, ∀ d, IsSl Atom.cells l d → Pure Tryz.prog gf (.d d :: caps) (.d (.bool (q l)))) : Pure Tryz.prog 98 [.d X, .fn gf caps] (.d (.bool (ls.any q))) := by
  obtain ⟨ds, h1, h2⟩ := hX
  have hl := h2.length
  have h3 : Pure Tryz.prog 131 [.d X, .fn gf caps] _ := indexFunc Tryz.func131 ac131_ok Tryz.ntmps131 rfl Tryz.results131
    (slE_one h1) hg hcap (fun i hi => by simp [eltD, hi, inB]) (p := fun i => (ls[i]?.map q).getD false)
    (fun i hi => by
      have hi' : i < ls.length := by omega
      obtain ⟨d, h4, h5⟩ := h2.get i _ (List.getElem?_eq_getElem hi')
      simp only [eltD, h4, List.getElem?_eq_getElem hi', Option.map_some, Option.getD_some]
      exact hq _ (List.getElem_mem hi') _ h5)
  have h4 := containsFunc Tryz.func98 ac98_ok Tryz.ntmps98 rfl Tryz.results98 hcap h3
  rw [hl, any_idx] at h4
  exact h4
theorem anyThreads {gf : Nat} {caps : List AV} (hg : goesB Tryz.prog gf = true) (hcap : inL (fun _ => none) caps = true) {ls : List (List Ins)} {X : DV} (hX : IsSl2 Ins.cells ls X) (q : List Ins → Bool)
    (hq : ∀ l ∈ ls, ∀ d, IsSl Ins.cells l d → Pure Tryz.prog gf (.d d :: caps) (.d (.bool (q l)))) : Pure Tryz.prog 51 [.d X, .fn gf caps] (.d (.bool (ls.any q))) := by
  obtain ⟨ds, h1, h2⟩ := hX
  have hl := h2.length
  have h3 : Pure Tryz.prog 99 [.d X, .fn gf caps] _ := indexFunc Tryz.func99 ac99_ok Tryz.ntmps99 rfl Tryz.results99
    (slE_one h1) hg hcap (fun i hi => by simp [eltD, hi, inB]) (p := fun i => (ls[i]?.map q).getD false)
    (fun i hi => by
      have hi' : i < ls.length := by omega
      obtain ⟨d, h4, h5⟩ := h2.get i _ (List.getElem?_eq_getElem hi')
      simp only [eltD, h4, List.getElem?_eq_getElem hi', Option.map_some, Option.getD_some]
      exact hq _ (List.getElem_mem hi') _ h5)
  have h4 := containsFunc Tryz.func51 ac51_ok Tryz.ntmps51 rfl Tryz.results51 hcap h3
  rw [hl, any_idx] at h4
  exact h4
theorem okAtom_pure (a : Atom) : Pure Tryz.prog 113 [.agg (a.cells.map .d)] (.d (.bool (okAtomB a))) := by
  refine acalls_of Tryz.func113 ac113_ok Tryz.ntmps113 Tryz.results113 rfl ?_
  unfold ac113
  refine bwp_seq fun K hK => bwp_region rfl ?_
  simp -implicitDefEqProofs only [go_sem, ↓reduceIte, Atom.cells]
  refine hK _ ?_; clear hK
  refine bwp_seq fun K hK => ?_
  refine bwp_seq fun K hK => bwp_region rfl ?_
  simp -implicitDefEqProofs only [go_sem, ↓reduceIte]
  refine hK _ ?_; clear hK
  by_cases h1 : a.thread = -1
  · refine bwp_cond true (by simp [ev, fget, h1]) (fun _ => ?_) (fun h => nomatch h)
    by_cases h2 : a.reg = 0
    · refine bwp_seq fun K hK => bwp_region rfl ?_
      simp -implicitDefEqProofs only [go_sem, ↓reduceIte, h2]
      refine callK_pure (isLoc_pure a.loc) rfl rfl ?_
      simp -implicitDefEqProofs only [go_sem, ↓reduceIte]
      refine hK _ ?_; clear hK
      refine bwp_ret ?_
      simp only [go_sem]
      refine aend_ret _ rfl rfl ⟨?_, rfl⟩
      simp [fget, okAtomB, h1, h2]
    · refine bwp_seq fun K hK => bwp_region rfl ?_
      simp -implicitDefEqProofs only [go_sem, ↓reduceIte, h2]
      refine hK _ ?_; clear hK
      refine bwp_ret ?_
      simp only [go_sem]
      refine aend_ret _ rfl rfl ⟨?_, rfl⟩
      simp [fget, okAtomB, h1, h2]
  · refine bwp_cond false (by simp [ev, fget, h1]) (fun h => nomatch h) (fun _ => ?_)
    refine bwp_skip ?_
    refine hK _ ?_; clear hK
    by_cases g1 : 0 ≤ a.thread
    · by_cases g2 : a.thread ≤ 9
      · by_cases g3 : a.loc = 0
        · refine bwp_seq fun K hK => bwp_region rfl ?_
          simp -implicitDefEqProofs only [go_sem, ↓reduceIte, g1, g2, g3]
          refine callK_pure (isReg_pure a.reg) rfl rfl ?_
          simp -implicitDefEqProofs only [go_sem, ↓reduceIte]
          refine hK _ ?_; clear hK
          refine bwp_ret ?_
          simp only [go_sem]
          refine aend_ret _ rfl rfl ⟨?_, rfl⟩
          simp [fget, okAtomB, h1, g1, g2, g3]
        · refine bwp_seq fun K hK => bwp_region rfl ?_
          simp -implicitDefEqProofs only [go_sem, ↓reduceIte, g1, g2, g3]
          refine hK _ ?_; clear hK
          refine bwp_ret ?_
          simp only [go_sem]
          refine aend_ret _ rfl rfl ⟨?_, rfl⟩
          simp [fget, okAtomB, h1, g1, g2, g3]
      · refine bwp_seq fun K hK => bwp_region rfl ?_
        simp -implicitDefEqProofs only [go_sem, ↓reduceIte, g1, g2]
        refine hK _ ?_; clear hK
        refine bwp_ret ?_
        simp only [go_sem]
        refine aend_ret _ rfl rfl ⟨?_, rfl⟩
        simp [fget, okAtomB, h1, g1, g2]
    · refine bwp_seq fun K hK => bwp_region rfl ?_
      simp -implicitDefEqProofs only [go_sem, ↓reduceIte, g1]
      refine hK _ ?_; clear hK
      refine bwp_ret ?_
      simp only [go_sem]
      refine aend_ret _ rfl rfl ⟨?_, rfl⟩
      simp [fget, okAtomB, h1, g1]
theorem badAtom_pure (a : Atom) : Pure Tryz.prog 112 [.agg (a.cells.map .d)] (.d (.bool (!okAtomB a))) := by
  refine acalls_of Tryz.func112 ac112_ok Tryz.ntmps112 Tryz.results112 rfl ?_
  unfold ac112
  refine bwp_seq fun K hK => bwp_region rfl ?_
  simp -implicitDefEqProofs only [go_sem, ↓reduceIte, Atom.cells]
  refine hK _ ?_; clear hK
  refine bwp_seq fun K hK => bwp_region rfl ?_
  simp -implicitDefEqProofs only [go_sem, ↓reduceIte]
  refine callK_pure (okAtom_pure a) rfl rfl ?_
  simp -implicitDefEqProofs only [go_sem, ↓reduceIte]
  refine hK _ ?_; clear hK
  refine bwp_ret ?_
  simp only [go_sem]
  refine aend_ret _ rfl rfl ⟨?_, rfl⟩
  simp [fget]
theorem badRow_pure {l : List Atom} {X : DV} (hX : IsSl Atom.cells l X) : Pure Tryz.prog 111 [.d X] (.d (.bool (badRowB l))) := by
  refine acalls_of Tryz.func111 ac111_ok Tryz.ntmps111 Tryz.results111 rfl ?_
  unfold ac111
  refine bwp_seq fun K hK => bwp_region rfl ?_
  simp -implicitDefEqProofs only [go_sem, ↓reduceIte]
  refine hK _ ?_; clear hK
  have hl := hX.len
  by_cases h : l.length = 0
  · have h' : (l.length : Int) = 0 := by omega
    refine bwp_seq fun K hK => bwp_region rfl ?_
    simp -implicitDefEqProofs only [go_sem, ↓reduceIte, hl, h']
    refine hK _ ?_; clear hK
    refine bwp_ret ?_
    simp only [go_sem]
    refine aend_ret _ rfl rfl ⟨?_, rfl⟩
    simp [fget, badRowB, h]
  · have h' : ¬ (l.length : Int) = 0 := by omega
    refine bwp_seq fun K hK => bwp_region rfl ?_
    simp -implicitDefEqProofs only [go_sem, ↓reduceIte, hl, h']
    refine callK_pure (anyAtoms rfl rfl hX (fun a => !okAtomB a) fun a _ => badAtom_pure a) rfl rfl ?_
    simp -implicitDefEqProofs only [go_sem, ↓reduceIte]
    refine hK _ ?_; clear hK
    refine bwp_ret ?_
    simp only [go_sem]
    refine aend_ret _ rfl rfl ⟨?_, rfl⟩
    simp [fget, badRowB, h]
theorem okCond_pure {rows : List (List Atom)} {A : DV} (hA : IsSl2 Atom.cells rows A) (kind : Int) : Pure Tryz.prog 77 [.agg [.d (.int .i64 kind), .d A]] (.d (.bool (okCondB kind rows))) := by
  refine acalls_of Tryz.func77 ac77_ok Tryz.ntmps77 Tryz.results77 rfl ?_
  unfold ac77
  refine bwp_seq fun K hK => bwp_region rfl ?_
  simp -implicitDefEqProofs only [go_sem, ↓reduceIte]
  refine hK _ ?_; clear hK
  refine bwp_seq fun K hK => ?_
  refine bwp_seq fun K hK => bwp_region rfl ?_
  simp -implicitDefEqProofs only [go_sem, ↓reduceIte]
  refine hK _ ?_; clear hK
  have hl := hA.len
  by_cases h0 : kind = 0
  · refine bwp_cond true (by simp [ev, fget, h0]) (fun _ => ?_) (fun h => nomatch h)
    refine bwp_seq fun K hK => bwp_region rfl ?_
    simp -implicitDefEqProofs only [go_sem, ↓reduceIte, hl]
    refine hK _ ?_; clear hK
    refine bwp_ret ?_
    simp only [go_sem]
    refine aend_ret _ rfl rfl ⟨?_, rfl⟩
    have : ((rows.length : Int) = 0) = (rows.length = 0) := by apply propext; omega
    simp [fget, okCondB, h0]
  · refine bwp_cond false (by simp [ev, fget, h0]) (fun h => nomatch h) (fun _ => ?_)
    refine bwp_skip ?_
    refine hK _ ?_; clear hK
    refine bwp_seq fun K hK => bwp_region rfl ?_
    simp -implicitDefEqProofs only [go_sem, ↓reduceIte]
    refine hK _ ?_; clear hK
    by_cases hk : kind = 1 ∨ kind = 2
    · by_cases hr : 0 < rows.length
      · have hr' : (0 : Int) < rows.length := by omega
        have key : ∀ (dst : Option Nat) (r : List AOper) (K : St → Prop) (t : Fr) (m : Mem) (n : Nat), runOps Tryz.prog r ⟨putF t dst (.d (.bool (rows.any badRowB))), m, n⟩ K → callK Tryz.prog 98 [.d A, .fn 111 []] dst r K t m n :=
          fun dst r K t m n h => callK_pure (anyRows rfl rfl hA badRowB fun l _ d hd => badRow_pure hd) rfl rfl h
        rcases hk with h1 | h2
        · refine bwp_seq fun K hK => bwp_region rfl ?_
          simp -implicitDefEqProofs only [go_sem, ↓reduceIte, h1, hl, hr']
          refine key _ _ _ _ _ _ ?_
          simp -implicitDefEqProofs only [go_sem, ↓reduceIte]
          refine hK _ ?_; clear hK
          refine bwp_ret ?_
          simp only [go_sem]
          refine aend_ret _ rfl rfl ⟨?_, rfl⟩
          simp [fget, okCondB, h1, hr]
        · refine bwp_seq fun K hK => bwp_region rfl ?_
          simp -implicitDefEqProofs only [go_sem, ↓reduceIte, h2, hl, hr']
          refine key _ _ _ _ _ _ ?_
          simp -implicitDefEqProofs only [go_sem, ↓reduceIte]
          refine hK _ ?_; clear hK
          refine bwp_ret ?_
          simp only [go_sem]
          refine aend_ret _ rfl rfl ⟨?_, rfl⟩
          simp [fget, okCondB, h2, hr]
      · have hr' : ¬ (0 : Int) < rows.length := by omega
        rcases hk with h1 | h2
        · refine bwp_seq fun K hK => bwp_region rfl ?_
          simp -implicitDefEqProofs only [go_sem, ↓reduceIte, h1, hl, hr']
          refine hK _ ?_; clear hK
          refine bwp_ret ?_
          simp only [go_sem]
          refine aend_ret _ rfl rfl ⟨?_, rfl⟩
          simp [fget, okCondB, h1, hr]
        · refine bwp_seq fun K hK => bwp_region rfl ?_
          simp -implicitDefEqProofs only [go_sem, ↓reduceIte, h2, hl, hr']
          refine hK _ ?_; clear hK
          refine bwp_ret ?_
          simp only [go_sem]
          refine aend_ret _ rfl rfl ⟨?_, rfl⟩
          simp [fget, okCondB, h2, hr]
    · have h1 : ¬ kind = 1 := fun h => hk (.inl h)
      have h2 : ¬ kind = 2 := fun h => hk (.inr h)
      refine bwp_seq fun K hK => bwp_region rfl ?_
      simp -implicitDefEqProofs only [go_sem, ↓reduceIte, h1, h2]
      refine hK _ ?_; clear hK
      refine bwp_ret ?_
      simp only [go_sem]
      refine aend_ret _ rfl rfl ⟨?_, rfl⟩
      simp [fget, okCondB, h0, h1, h2]
theorem badIns_pure (x : Ins) : Pure Tryz.prog 71 [.agg (x.cells.map .d)] (.d (.bool (!okInsB x))) := by
  refine acalls_of Tryz.func71 ac71_ok Tryz.ntmps71 Tryz.results71 rfl ?_
  unfold ac71
  refine bwp_seq fun K hK => bwp_region rfl ?_
  simp -implicitDefEqProofs only [go_sem, ↓reduceIte, Ins.cells]
  refine hK _ ?_; clear hK
  refine bwp_seq fun K hK => bwp_region rfl ?_
  simp -implicitDefEqProofs only [go_sem, ↓reduceIte]
  refine callK_pure (okIns_pure x) rfl rfl ?_
  simp -implicitDefEqProofs only [go_sem, ↓reduceIte]
  refine hK _ ?_; clear hK
  refine bwp_ret ?_
  simp only [go_sem]
  refine aend_ret _ rfl rfl ⟨?_, rfl⟩
  simp [fget]
theorem badThread_pure {l : List Ins} {X : DV} (hX : IsSl Ins.cells l X) : Pure Tryz.prog 69 [.d X] (.d (.bool (badThreadB l))) := by
  refine acalls_of Tryz.func69 ac69_ok Tryz.ntmps69 Tryz.results69 rfl ?_
  unfold ac69
  refine bwp_seq fun K hK => bwp_region rfl ?_
  simp -implicitDefEqProofs only [go_sem, ↓reduceIte]
  refine hK _ ?_; clear hK
  refine bwp_seq fun K hK => bwp_region rfl ?_
  simp -implicitDefEqProofs only [go_sem, ↓reduceIte]
  refine callK_pure (anyInss rfl rfl hX (fun x => !okInsB x) fun a _ => badIns_pure a) rfl rfl ?_
  simp -implicitDefEqProofs only [go_sem, ↓reduceIte]
  refine hK _ ?_; clear hK
  refine bwp_ret ?_
  simp only [go_sem]
  refine aend_ret _ rfl rfl ⟨?_, rfl⟩
  rfl
theorem badInit_pure (x : Init) : Pure Tryz.prog 75 [.agg (x.cells.map .d)] (.d (.bool (!isLocB x.loc))) := by
  refine acalls_of Tryz.func75 ac75_ok Tryz.ntmps75 Tryz.results75 rfl ?_
  unfold ac75
  refine bwp_seq fun K hK => bwp_region rfl ?_
  simp -implicitDefEqProofs only [go_sem, ↓reduceIte, Init.cells]
  refine hK _ ?_; clear hK
  refine bwp_seq fun K hK => bwp_region rfl ?_
  simp -implicitDefEqProofs only [go_sem, ↓reduceIte]
  refine callK_pure (isLoc_pure x.loc) rfl rfl ?_
  simp -implicitDefEqProofs only [go_sem, ↓reduceIte]
  refine hK _ ?_; clear hK
  refine bwp_ret ?_
  simp only [go_sem]
  refine aend_ret _ rfl rfl ⟨?_, rfl⟩
  simp [fget]
theorem ok_pure {t : Test} {cs : List DV} (hT : IsTest t cs) (hn : t.name.length ≤ 9223372036854775807) : Pure Tryz.prog 20 [.agg (cs.map .d)] (.d (.bool (okB t))) := by
  obtain ⟨I, T, A, rfl, hI, hTh, hA⟩ := hT
  have kI : ∀ (dst : Option Nat) (r : List AOper) (K : St → Prop) (t' : Fr) (m : Mem) (n : Nat), runOps Tryz.prog r ⟨putF t' dst (.d (.bool (badInitB t.inits))), m, n⟩ K → callK Tryz.prog 74 [.d I, .fn 75 []] dst r K t' m n :=
    fun dst r K t m n h => callK_pure (anyInits rfl rfl hI (fun x => !isLocB x.loc) fun a _ => badInit_pure a) rfl rfl h
  have kT : ∀ (dst : Option Nat) (r : List AOper) (K : St → Prop) (t' : Fr) (m : Mem) (n : Nat), runOps Tryz.prog r ⟨putF t' dst (.d (.bool (t.threads.any badThreadB))), m, n⟩ K → callK Tryz.prog 51 [.d T, .fn 69 []] dst r K t' m n :=
    fun dst r K t m n h => callK_pure (anyThreads rfl rfl hTh badThreadB fun l _ d hd => badThread_pure hd) rfl rfl h
  refine acalls_of Tryz.func20 ac20_ok Tryz.ntmps20 Tryz.results20 rfl ?_
  unfold ac20
  refine bwp_seq fun K hK => bwp_region rfl ?_
  simp -implicitDefEqProofs only [go_sem, ↓reduceIte]
  refine hK _ ?_; clear hK
  refine bwp_seq fun K hK => bwp_region rfl ?_
  simp -implicitDefEqProofs only [go_sem, ↓reduceIte]
  refine hK _ ?_; clear hK
  refine bwp_seq fun K hK => bwp_region rfl ?_
  simp -implicitDefEqProofs only [go_sem, ↓reduceIte]
  refine callK_pure (isWord_pure t.name hn) rfl rfl ?_
  cases hw : isWordB t.name
  · simp -implicitDefEqProofs only [go_sem, ↓reduceIte]
    refine hK _ ?_; clear hK
    refine bwp_ret ?_
    simp only [go_sem]
    refine aend_ret _ rfl rfl ⟨?_, rfl⟩
    simp [fget, okB, hw]
  · simp -implicitDefEqProofs only [go_sem, ↓reduceIte]
    refine kI _ _ _ _ _ _ ?_
    cases hi : badInitB t.inits
    · simp -implicitDefEqProofs only [go_sem, ↓reduceIte]
      refine kT _ _ _ _ _ _ ?_
      cases ht : t.threads.any badThreadB
      · simp -implicitDefEqProofs only [go_sem, ↓reduceIte]
        refine callK_pure (okCond_pure hA t.kind) rfl rfl ?_
        simp -implicitDefEqProofs only [go_sem, ↓reduceIte]
        refine hK _ ?_; clear hK
        refine bwp_ret ?_
        simp only [go_sem]
        refine aend_ret _ rfl rfl ⟨?_, rfl⟩
        simp [fget, okB, hw, hi, ht]
      · simp -implicitDefEqProofs only [go_sem, ↓reduceIte]
        refine hK _ ?_; clear hK
        refine bwp_ret ?_
        simp only [go_sem]
        refine aend_ret _ rfl rfl ⟨?_, rfl⟩
        simp [fget, okB, hw, hi, ht]
    · simp -implicitDefEqProofs only [go_sem, ↓reduceIte]
      refine hK _ ?_; clear hK
      refine bwp_ret ?_
      simp only [go_sem]
      refine aend_ret _ rfl rfl ⟨?_, rfl⟩
      simp [fget, okB, hw, hi]
end Go.Proofs.YtpfbljkfbjjlkaaGreatDoor

/- A test's locations as the program tells them, without a heap: a bit each. -/
namespace Go.Proofs.YtpfbljkfbjjlkaaGreatDoor
open Go Go.Jq
set_option maxRecDepth 100000
set_option linter.unusedSimpArgs false
def addLoc (s : Nat) (x : Int) : Nat := if isLocB x = true then addBit s (x - 97).toNat else s
theorem addLoc_lt {s : Nat} (hs : s < 67108864) (x : Int) : addLoc s x < 67108864 := by
  unfold addLoc
  split
  · rename_i h
    have := (isLocB_iff x).1 h
    exact addBit_lt hs (by omega)
  · exact hs
theorem adds_lt {α : Type} (f : α → Int) : ∀ (l : List α) {s : Nat}, s < 67108864 → l.foldl (fun s x => addLoc s (f x)) s < 67108864
  | [], s, h => h
  | a :: l, s, h => by rw [List.foldl_cons]; exact adds_lt f l (addLoc_lt h _)
theorem addss_lt {α : Type} (f : α → Int) : ∀ (l : List (List α)) {s : Nat}, s < 67108864 → l.foldl (fun s l => l.foldl (fun s x => addLoc s (f x)) s) s < 67108864
  | [], s, h => h
  | a :: l, s, h => by rw [List.foldl_cons]; exact addss_lt f l (adds_lt f a h)
theorem shl_bit {x : Int} (h0 : 97 ≤ x) (h1 : x ≤ 122) : IntKind.u64.wrap (1 * 2 ^ min (x - 97).toNat (IntKind.u64.bits)) = ((2 ^ (x - 97).toNat : Nat) : Int) := by
  have hm : min (x - 97).toNat (IntKind.u64.bits) = (x - 97).toNat := Nat.min_eq_left (by have : IntKind.u64.bits = 64 := rfl; omega)
  have hlt : (2 : Nat) ^ (x - 97).toNat < 2 ^ 26 := Nat.pow_lt_pow_right (by omega) (by omega)
  rw [hm, wrap_u64]
  · simp
  · have : (0 : Int) ≤ ((2 ^ (x - 97).toNat : Nat) : Int) := Int.natCast_nonneg _
    simpa using this
  · have : ((2 ^ (x - 97).toNat : Nat) : Int) < 18446744073709551616 := by omega
    simpa using this
theorem add_calls (x : Int) {s : Nat} (hs : s < 67108864) :
    ACalls Tryz.prog 132 [.d (.int .i64 x), .ptr 0 0] [(0, [.d (.int .u64 s)])] fun r m' => r = .tup [] ∧ m' = [(0, [.d (.int .u64 (addLoc s x))])] := by
  refine acalls_of Tryz.func132 ac132_ok Tryz.ntmps132 Tryz.results132 rfl ?_
  unfold ac132
  refine bwp_seq fun K hK => bwp_region rfl ?_
  simp -implicitDefEqProofs only [go_sem, ↓reduceIte]
  refine callK_pure (isLoc_pure x) rfl rfl ?_
  simp -implicitDefEqProofs only [go_sem, ↓reduceIte]
  refine hK _ ?_; clear hK
  cases hb : isLocB x
  · refine bwp_cond false (by simp [ev, fget]) (fun h => nomatch h) (fun _ => ?_)
    refine bwp_skip ?_
    exact ⟨.tup [], rfl, [(0, 0)], [(0, [.d (.int .u64 s)])], rfl, rfl, by simp [entM, pinv, mget, renL, AV.ren], rfl, by simp [addLoc, hb]⟩
  · refine bwp_cond true (by simp [ev, fget]) (fun _ => ?_) (fun h => nomatch h)
    have h := (isLocB_iff x).1 hb
    have hw : IntKind.i64.wrap (x - 97) = x - 97 := wrap_i64 (by omega) (by omega)
    have hp : (2 : Nat) ^ (x - 97).toNat < 18446744073709551616 := by
      have : (2 : Nat) ^ (x - 97).toNat < 2 ^ 26 := Nat.pow_lt_pow_right (by omega) (by omega)
      omega
    have hor := or_u64 (a := s) (b := 2 ^ (x - 97).toNat) (by omega) hp
    have hs2 := shl_bit h.1 h.2
    have hs3 : IntKind.u64.wrap (2 ^ min (x - 97).toNat 64) = ((2 ^ (x - 97).toNat : Nat) : Int) := by rw [Int.one_mul] at hs2; exact hs2
    have hn : ¬ x - 97 < 0 := by omega
    refine bwp_region_draw rfl rfl ?_
    have hk64 : (x - 97).toNat ≤ 64 := by omega
    have hbits : IntKind.u64.bits = 64 := rfl
    have hmin : min (x - 97).toNat 64 = (x - 97).toNat := Nat.min_eq_left hk64
    rw [hbits, hmin] at hs2
    rw [hmin] at hs3
    simp -implicitDefEqProofs only [go_sem, ↓reduceIte, hw, hn, hbits, hk64, hs2, hs3, hor]
    refine ⟨rfl, ?_⟩
    exact ⟨.tup [], rfl, [(0, 0)], [(0, [.d (.int .u64 (addLoc s x))])], rfl, rfl, by simp only [entM, pinv, mget, renL, AV.ren, addLoc, hb, addBit, if_true, Int.one_mul, hs2, hs3, hor, and_true, true_and, ↓reduceIte], rfl, rfl⟩
theorem add_callK (x : Int) {s : Nat} (hs : s < 67108864) {j : Nat} {dst : Option Nat} {r : List AOper} {K : St → Prop} {t : Fr} {m : Mem} {n : Nat} (hm : mget m j = some [.d (.int .u64 s)])
    (hk : runOps Tryz.prog r ⟨putF t dst (.tup []), mset m j [.d (.int .u64 (addLoc s x))], n + 1⟩ K) : callK Tryz.prog 132 [.d (.int .i64 x), .ptr j 0] dst r K t m n := by
  refine callK_gen [(0, j)] [.d (.int .i64 x), .ptr 0 0] [(0, [.d (.int .u64 s)])] (nb := j + 1) (add_calls x hs) (by simp [okRen]) (by simp [renL, AV.ren, pget]) (by simp [inL, inB, pget]) ⟨by simp [pget, hm, renL, AV.ren, inL, inB], trivial⟩ (by simp [mget]) ?_
  rintro r0 m' ⟨rfl, rfl⟩
  have e : callMem [(0, j)] [(0, [AV.d (.int .u64 s)])] [(0, [AV.d (.int .u64 (addLoc s x))])] n m = mset m j [.d (.int .u64 (addLoc s x))] := by
    simp [callMem, updNew, updOld, mget, renL, AV.ren]
  rw [e]
  exact hk
def ltS (cs : List DV) (s : Nat) (ex : Fr) : St := ⟨ex ++ [(1, .dptr cs), (2, .d (.int .u64 0)), (3, .ptr 0 0), (4, .fn 132 [.ptr 0 0])], [(0, [.d (.int .u64 s)])], 1⟩
theorem lets_inits {l : List Init} {D : DV} (hD : IsSl Init.cells l D) {cs : List DV} {s : Nat} (hs : s < 67108864) {Q : Exit → St → Prop}
    (hQ : Q (.exit 0) (ltS cs (l.foldl (fun s x => addLoc s x.loc) s) [])) :
    BWP Tryz.prog (mbound []) 68 (.loop ac101L0) (ltS cs s [(19, .d (.int .i64 (0 : Nat))), (17, .d D), (18, .d (.int .i64 l.length))]) Q := by
  have hbig := hD.1
  refine bwp_count (fun i => ltS cs ((l.take i).foldl (fun s x => addLoc s x.loc) s) [(19, .d (.int .i64 (i : Nat))), (17, .d D), (18, .d (.int .i64 l.length))]) l.length ?_
  intro i hi
  have hsi : (l.take i).foldl (fun s (x : Init) => addLoc s x.loc) s < 67108864 := adds_lt _ _ hs
  generalize hv : (l.take i).foldl (fun s (x : Init) => addLoc s x.loc) s = si at hsi
  unfold ac101L0 ltS
  by_cases hlt : i < l.length
  · have hlt' : (i : Int) < l.length := by omega
    obtain ⟨cs2, rest, hDe, hdrop, hcs⟩ := hD.at init_len (by omega) i hlt
    have hnx := foldl_next (fun s (x : Init) => addLoc s x.loc) s l i hlt
    rw [hv] at hnx
    have hw : IntKind.i64.wrap ((i : Int) + 1) = ((i + 1 : Nat) : Int) := by rw [wrap_i64 (by omega) (by omega)]; rfl
    refine bwp_seq fun K hK => bwp_region rfl ?_
    simp -implicitDefEqProofs only [go_sem, ↓reduceIte, hlt']
    refine hK _ ?_; clear hK
    refine bwp_seq fun K1 hK1 => ?_
    refine bwp_cond true (by simp [ev, fget]) (fun _ => ?_) (fun h => nomatch h)
    refine bwp_skip ?_
    refine hK1 _ ?_; clear hK1
    refine bwp_seq fun K1 hK1 => ?_
    refine bwp_block ?_
    have hl2 : ∀ (n : Nat), (2 ≤ (n + 1 + 1)) = True := fun n => by simp
    refine bwp_seq fun K hK => bwp_region rfl ?_
    simp -implicitDefEqProofs only [go_sem, ↓reduceIte, hDe, hlt', Int.natCast_nonneg, Int.toNat_natCast, hcs, hdrop, Init.cells, hl2]
    refine hK _ ?_; clear hK
    generalize l[i] = x at hnx hdrop
    refine bwp_region rfl ?_
    simp -implicitDefEqProofs only [go_sem, ↓reduceIte]
    refine ⟨rfl, add_callK x.loc hsi rfl ?_⟩
    simp -implicitDefEqProofs only [go_sem, ↓reduceIte]
    refine hK1 _ ?_; clear hK1
    refine bwp_region rfl ?_
    simp -implicitDefEqProofs only [go_sem, ↓reduceIte, hw]
    exact ⟨hlt, (Leads.ent [(0, 0)] ⟨by simp [entT, fget, AV.ren, renL, pget, hDe, hnx], by simp [entM, pinv, mget, mset, renL, AV.ren, pget, renL_append, -List.map_map, hDe, hnx], rfl, rfl⟩)⟩
  · have hlt' : ¬ (i : Int) < l.length := by omega
    have hin : i = l.length := by omega
    subst hin
    rw [List.take_of_length_le (Nat.le_refl _)] at hv
    refine bwp_seq fun K hK => bwp_region rfl ?_
    simp -implicitDefEqProofs only [go_sem, ↓reduceIte, hlt']
    refine hK _ ?_; clear hK
    refine bwp_seq fun K1 hK1 => ?_
    refine bwp_cond false (by simp [ev, fget]) (fun h => nomatch h) (fun _ => ?_)
    refine bwp_leads (S' := ltS cs (l.foldl (fun s x => addLoc s x.loc) s) []) (Leads.ent [(0, 0)] ⟨by simp [entT, fget, AV.ren, renL, pget, ltS, hv], by simp [entM, pinv, mget, mset, renL, AV.ren, pget, renL_append, -List.map_map, ltS, hv], rfl, rfl⟩) ?_
    exact bwp_exit hQ
theorem lets_ins {l : List Ins} {D D2 : DV} (hD : IsSl Ins.cells l D) {cs : List DV} {s j n : Nat} (hs : s < 67108864) {Q : Exit → St → Prop}
    (hQ : Q (.exit 4) (ltS cs (l.foldl (fun s x => addLoc s x.loc) s) [(31, .d (.int .i64 (j : Nat))), (29, .d D2), (30, .d (.int .i64 n))])) :
    BWP Tryz.prog (mbound []) 68 (.loop ac101L1) (ltS cs s [(37, .d (.int .i64 (0 : Nat))), (35, .d D), (36, .d (.int .i64 l.length)), (31, .d (.int .i64 (j : Nat))), (29, .d D2), (30, .d (.int .i64 n))]) Q := by
  have hbig := hD.1
  refine bwp_count (fun i => ltS cs ((l.take i).foldl (fun s x => addLoc s x.loc) s) [(37, .d (.int .i64 (i : Nat))), (35, .d D), (36, .d (.int .i64 l.length)), (31, .d (.int .i64 (j : Nat))), (29, .d D2), (30, .d (.int .i64 n))]) l.length ?_
  intro i hi
  have hsi : (l.take i).foldl (fun s (x : Ins) => addLoc s x.loc) s < 67108864 := adds_lt _ _ hs
  generalize hv : (l.take i).foldl (fun s (x : Ins) => addLoc s x.loc) s = si at hsi
  unfold ac101L1 ltS
  by_cases hlt : i < l.length
  · have hlt' : (i : Int) < l.length := by omega
    obtain ⟨cs2, rest, hDe, hdrop, hcs⟩ := hD.at ins_len (by omega) i hlt
    have hnx := foldl_next (fun s (x : Ins) => addLoc s x.loc) s l i hlt
    rw [hv] at hnx
    have hw : IntKind.i64.wrap ((i : Int) + 1) = ((i + 1 : Nat) : Int) := by rw [wrap_i64 (by omega) (by omega)]; rfl
    refine bwp_seq fun K hK => bwp_region rfl ?_
    simp -implicitDefEqProofs only [go_sem, ↓reduceIte, hlt']
    refine hK _ ?_; clear hK
    refine bwp_seq fun K1 hK1 => ?_
    refine bwp_cond true (by simp [ev, fget]) (fun _ => ?_) (fun h => nomatch h)
    refine bwp_skip ?_
    refine hK1 _ ?_; clear hK1
    refine bwp_seq fun K1 hK1 => ?_
    refine bwp_block ?_
    have hl2 : ∀ (n : Nat), (9 ≤ (n + 1 + 1 + 1 + 1 + 1 + 1 + 1 + 1 + 1)) = True := fun n => by simp
    refine bwp_seq fun K hK => bwp_region rfl ?_
    simp -implicitDefEqProofs only [go_sem, ↓reduceIte, hDe, hlt', Int.natCast_nonneg, Int.toNat_natCast, hcs, hdrop, Ins.cells, hl2]
    refine hK _ ?_; clear hK
    generalize l[i] = x at hnx hdrop
    refine bwp_region rfl ?_
    simp -implicitDefEqProofs only [go_sem, ↓reduceIte]
    refine ⟨rfl, add_callK x.loc hsi rfl ?_⟩
    simp -implicitDefEqProofs only [go_sem, ↓reduceIte]
    refine hK1 _ ?_; clear hK1
    refine bwp_region rfl ?_
    simp -implicitDefEqProofs only [go_sem, ↓reduceIte, hw]
    exact ⟨hlt, (Leads.ent [(0, 0)] ⟨by simp [entT, fget, AV.ren, renL, pget, hDe, hnx], by simp [entM, pinv, mget, mset, renL, AV.ren, pget, renL_append, -List.map_map, hDe, hnx], rfl, rfl⟩)⟩
  · have hlt' : ¬ (i : Int) < l.length := by omega
    have hin : i = l.length := by omega
    subst hin
    rw [List.take_of_length_le (Nat.le_refl _)] at hv
    refine bwp_seq fun K hK => bwp_region rfl ?_
    simp -implicitDefEqProofs only [go_sem, ↓reduceIte, hlt']
    refine hK _ ?_; clear hK
    refine bwp_seq fun K1 hK1 => ?_
    refine bwp_cond false (by simp [ev, fget]) (fun h => nomatch h) (fun _ => ?_)
    refine bwp_leads (S' := ltS cs (l.foldl (fun s x => addLoc s x.loc) s) [(31, .d (.int .i64 (j : Nat))), (29, .d D2), (30, .d (.int .i64 n))]) (Leads.ent [(0, 0)] ⟨by simp [entT, fget, AV.ren, renL, pget, ltS, hv], by simp [entM, pinv, mget, mset, renL, AV.ren, pget, renL_append, -List.map_map, ltS, hv], rfl, rfl⟩) ?_
    exact bwp_exit hQ
theorem lets_inss {ls : List (List Ins)} {D : DV} (hD : IsSl2 Ins.cells ls D) {cs : List DV} {s : Nat} (hs : s < 67108864) {Q : Exit → St → Prop}
    (hQ : Q (.exit 2) (ltS cs (ls.foldl (fun s l => l.foldl (fun s x => addLoc s x.loc) s) s) [])) :
    BWP Tryz.prog (mbound []) 68 (.loop ac101L2) (ltS cs s [(31, .d (.int .i64 (0 : Nat))), (29, .d D), (30, .d (.int .i64 ls.length))]) Q := by
  have hbig := hD.big
  refine bwp_count (fun j => ltS cs ((ls.take j).foldl (fun s l => l.foldl (fun s x => addLoc s x.loc) s) s) [(31, .d (.int .i64 (j : Nat))), (29, .d D), (30, .d (.int .i64 ls.length))]) ls.length ?_
  intro j hj
  have hsi : (ls.take j).foldl (fun s (l : List Ins) => l.foldl (fun s x => addLoc s x.loc) s) s < 67108864 := addss_lt _ _ hs
  generalize hv : (ls.take j).foldl (fun s (l : List Ins) => l.foldl (fun s x => addLoc s x.loc) s) s = si at hsi
  unfold ac101L2
  by_cases hlt : j < ls.length
  · have hlt' : (j : Int) < ls.length := by omega
    obtain ⟨cs2, d, rest, hDe, hdr, hjc, hd⟩ := hD.at j hlt
    have hnx := foldl_next (fun s (l : List Ins) => l.foldl (fun s x => addLoc s x.loc) s) s ls j hlt
    rw [hv] at hnx
    have hw : IntKind.i64.wrap ((j : Int) + 1) = ((j + 1 : Nat) : Int) := by rw [wrap_i64 (by omega) (by omega)]; rfl
    have hdl := hd.len
    unfold ltS
    refine bwp_seq fun K hK => bwp_region rfl ?_
    simp -implicitDefEqProofs only [go_sem, ↓reduceIte, hlt']
    refine hK _ ?_; clear hK
    refine bwp_seq fun K1 hK1 => ?_
    refine bwp_cond true (by simp [ev, fget]) (fun _ => ?_) (fun h => nomatch h)
    refine bwp_skip ?_
    refine hK1 _ ?_; clear hK1
    refine bwp_seq fun K1 hK1 => ?_
    refine bwp_block ?_
    refine bwp_seq fun K hK => bwp_region rfl ?_
    simp -implicitDefEqProofs only [go_sem, ↓reduceIte, hDe, hlt', Int.natCast_nonneg, Int.toNat_natCast, Nat.mul_one, hjc, hdr]
    refine hK _ ?_; clear hK
    refine bwp_seq fun K hK => bwp_region rfl ?_
    simp -implicitDefEqProofs only [go_sem, ↓reduceIte, hdl]
    refine hK _ ?_; clear hK
    refine bwp_block ?_
    refine bwp_leads (S' := ltS cs si [(37, .d (.int .i64 (0 : Nat))), (35, .d d), (36, .d (.int .i64 ls[j].length)), (31, .d (.int .i64 (j : Nat))), (29, .d D), (30, .d (.int .i64 ls.length))]) (Leads.ent [(0, 0)] ⟨by simp [entT, fget, AV.ren, renL, pget, ltS, hDe], by simp [entM, pinv, mget, mset, renL, AV.ren, pget, renL_append, -List.map_map, ltS, hDe], rfl, rfl⟩) ?_
    refine lets_ins hd hsi ?_
    rw [← hnx]
    unfold ltS
    simp -implicitDefEqProofs only [go_sem, ↓reduceIte]
    refine hK1 _ ?_; clear hK1
    refine bwp_region rfl ?_
    simp -implicitDefEqProofs only [go_sem, ↓reduceIte, hw]
    exact ⟨hlt, (Leads.ent [(0, 0)] ⟨by simp [entT, fget, AV.ren, renL, pget, ltS], by simp [entM, pinv, mget, mset, renL, AV.ren, pget, renL_append, -List.map_map, ltS], rfl, rfl⟩)⟩
  · have hlt' : ¬ (j : Int) < ls.length := by omega
    have hin : j = ls.length := by omega
    subst hin
    rw [List.take_of_length_le (Nat.le_refl _)] at hv
    unfold ltS
    refine bwp_seq fun K hK => bwp_region rfl ?_
    simp -implicitDefEqProofs only [go_sem, ↓reduceIte, hlt']
    refine hK _ ?_; clear hK
    refine bwp_seq fun K1 hK1 => ?_
    refine bwp_cond false (by simp [ev, fget]) (fun h => nomatch h) (fun _ => ?_)
    refine bwp_leads (S' := ltS cs (ls.foldl (fun s l => l.foldl (fun s x => addLoc s x.loc) s) s) []) (Leads.ent [(0, 0)] ⟨by simp [entT, fget, AV.ren, renL, pget, ltS, hv], by simp [entM, pinv, mget, mset, renL, AV.ren, pget, renL_append, -List.map_map, ltS, hv], rfl, rfl⟩) ?_
    exact bwp_exit hQ
theorem lets_atom {l : List Atom} {D D2 : DV} (hD : IsSl Atom.cells l D) {cs : List DV} {s j n : Nat} (hs : s < 67108864) {Q : Exit → St → Prop}
    (hQ : Q (.exit 8) (ltS cs (l.foldl (fun s x => addLoc s x.loc) s) [(51, .d (.int .i64 (j : Nat))), (49, .d D2), (50, .d (.int .i64 n))])) :
    BWP Tryz.prog (mbound []) 68 (.loop ac101L3) (ltS cs s [(57, .d (.int .i64 (0 : Nat))), (55, .d D), (56, .d (.int .i64 l.length)), (51, .d (.int .i64 (j : Nat))), (49, .d D2), (50, .d (.int .i64 n))]) Q := by
  have hbig := hD.1
  refine bwp_count (fun i => ltS cs ((l.take i).foldl (fun s x => addLoc s x.loc) s) [(57, .d (.int .i64 (i : Nat))), (55, .d D), (56, .d (.int .i64 l.length)), (51, .d (.int .i64 (j : Nat))), (49, .d D2), (50, .d (.int .i64 n))]) l.length ?_
  intro i hi
  have hsi : (l.take i).foldl (fun s (x : Atom) => addLoc s x.loc) s < 67108864 := adds_lt _ _ hs
  generalize hv : (l.take i).foldl (fun s (x : Atom) => addLoc s x.loc) s = si at hsi
  unfold ac101L3 ltS
  by_cases hlt : i < l.length
  · have hlt' : (i : Int) < l.length := by omega
    obtain ⟨cs2, rest, hDe, hdrop, hcs⟩ := hD.at atom_len (by omega) i hlt
    have hnx := foldl_next (fun s (x : Atom) => addLoc s x.loc) s l i hlt
    rw [hv] at hnx
    have hw : IntKind.i64.wrap ((i : Int) + 1) = ((i + 1 : Nat) : Int) := by rw [wrap_i64 (by omega) (by omega)]; rfl
    refine bwp_seq fun K hK => bwp_region rfl ?_
    simp -implicitDefEqProofs only [go_sem, ↓reduceIte, hlt']
    refine hK _ ?_; clear hK
    refine bwp_seq fun K1 hK1 => ?_
    refine bwp_cond true (by simp [ev, fget]) (fun _ => ?_) (fun h => nomatch h)
    refine bwp_skip ?_
    refine hK1 _ ?_; clear hK1
    refine bwp_seq fun K1 hK1 => ?_
    refine bwp_block ?_
    have hl2 : ∀ (n : Nat), (4 ≤ (n + 1 + 1 + 1 + 1)) = True := fun n => by simp
    refine bwp_seq fun K hK => bwp_region rfl ?_
    simp -implicitDefEqProofs only [go_sem, ↓reduceIte, hDe, hlt', Int.natCast_nonneg, Int.toNat_natCast, hcs, hdrop, Atom.cells, hl2]
    refine hK _ ?_; clear hK
    generalize l[i] = x at hnx hdrop
    refine bwp_region rfl ?_
    simp -implicitDefEqProofs only [go_sem, ↓reduceIte]
    refine ⟨rfl, add_callK x.loc hsi rfl ?_⟩
    simp -implicitDefEqProofs only [go_sem, ↓reduceIte]
    refine hK1 _ ?_; clear hK1
    refine bwp_region rfl ?_
    simp -implicitDefEqProofs only [go_sem, ↓reduceIte, hw]
    exact ⟨hlt, (Leads.ent [(0, 0)] ⟨by simp [entT, fget, AV.ren, renL, pget, hDe, hnx], by simp [entM, pinv, mget, mset, renL, AV.ren, pget, renL_append, -List.map_map, hDe, hnx], rfl, rfl⟩)⟩
  · have hlt' : ¬ (i : Int) < l.length := by omega
    have hin : i = l.length := by omega
    subst hin
    rw [List.take_of_length_le (Nat.le_refl _)] at hv
    refine bwp_seq fun K hK => bwp_region rfl ?_
    simp -implicitDefEqProofs only [go_sem, ↓reduceIte, hlt']
    refine hK _ ?_; clear hK
    refine bwp_seq fun K1 hK1 => ?_
    refine bwp_cond false (by simp [ev, fget]) (fun h => nomatch h) (fun _ => ?_)
    refine bwp_leads (S' := ltS cs (l.foldl (fun s x => addLoc s x.loc) s) [(51, .d (.int .i64 (j : Nat))), (49, .d D2), (50, .d (.int .i64 n))]) (Leads.ent [(0, 0)] ⟨by simp [entT, fget, AV.ren, renL, pget, ltS, hv], by simp [entM, pinv, mget, mset, renL, AV.ren, pget, renL_append, -List.map_map, ltS, hv], rfl, rfl⟩) ?_
    exact bwp_exit hQ
theorem lets_atoms {ls : List (List Atom)} {D : DV} (hD : IsSl2 Atom.cells ls D) {cs : List DV} {s : Nat} (hs : s < 67108864) {Q : Exit → St → Prop}
    (hQ : Q (.exit 6) (ltS cs (ls.foldl (fun s l => l.foldl (fun s x => addLoc s x.loc) s) s) [])) :
    BWP Tryz.prog (mbound []) 68 (.loop ac101L4) (ltS cs s [(51, .d (.int .i64 (0 : Nat))), (49, .d D), (50, .d (.int .i64 ls.length))]) Q := by
  have hbig := hD.big
  refine bwp_count (fun j => ltS cs ((ls.take j).foldl (fun s l => l.foldl (fun s x => addLoc s x.loc) s) s) [(51, .d (.int .i64 (j : Nat))), (49, .d D), (50, .d (.int .i64 ls.length))]) ls.length ?_
  intro j hj
  have hsi : (ls.take j).foldl (fun s (l : List Atom) => l.foldl (fun s x => addLoc s x.loc) s) s < 67108864 := addss_lt _ _ hs
  generalize hv : (ls.take j).foldl (fun s (l : List Atom) => l.foldl (fun s x => addLoc s x.loc) s) s = si at hsi
  unfold ac101L4
  by_cases hlt : j < ls.length
  · have hlt' : (j : Int) < ls.length := by omega
    obtain ⟨cs2, d, rest, hDe, hdr, hjc, hd⟩ := hD.at j hlt
    have hnx := foldl_next (fun s (l : List Atom) => l.foldl (fun s x => addLoc s x.loc) s) s ls j hlt
    rw [hv] at hnx
    have hw : IntKind.i64.wrap ((j : Int) + 1) = ((j + 1 : Nat) : Int) := by rw [wrap_i64 (by omega) (by omega)]; rfl
    have hdl := hd.len
    unfold ltS
    refine bwp_seq fun K hK => bwp_region rfl ?_
    simp -implicitDefEqProofs only [go_sem, ↓reduceIte, hlt']
    refine hK _ ?_; clear hK
    refine bwp_seq fun K1 hK1 => ?_
    refine bwp_cond true (by simp [ev, fget]) (fun _ => ?_) (fun h => nomatch h)
    refine bwp_skip ?_
    refine hK1 _ ?_; clear hK1
    refine bwp_seq fun K1 hK1 => ?_
    refine bwp_block ?_
    refine bwp_seq fun K hK => bwp_region rfl ?_
    simp -implicitDefEqProofs only [go_sem, ↓reduceIte, hDe, hlt', Int.natCast_nonneg, Int.toNat_natCast, Nat.mul_one, hjc, hdr]
    refine hK _ ?_; clear hK
    refine bwp_seq fun K hK => bwp_region rfl ?_
    simp -implicitDefEqProofs only [go_sem, ↓reduceIte, hdl]
    refine hK _ ?_; clear hK
    refine bwp_block ?_
    refine bwp_leads (S' := ltS cs si [(57, .d (.int .i64 (0 : Nat))), (55, .d d), (56, .d (.int .i64 ls[j].length)), (51, .d (.int .i64 (j : Nat))), (49, .d D), (50, .d (.int .i64 ls.length))]) (Leads.ent [(0, 0)] ⟨by simp [entT, fget, AV.ren, renL, pget, ltS, hDe], by simp [entM, pinv, mget, mset, renL, AV.ren, pget, renL_append, -List.map_map, ltS, hDe], rfl, rfl⟩) ?_
    refine lets_atom hd hsi ?_
    rw [← hnx]
    unfold ltS
    simp -implicitDefEqProofs only [go_sem, ↓reduceIte]
    refine hK1 _ ?_; clear hK1
    refine bwp_region rfl ?_
    simp -implicitDefEqProofs only [go_sem, ↓reduceIte, hw]
    exact ⟨hlt, (Leads.ent [(0, 0)] ⟨by simp [entT, fget, AV.ren, renL, pget, ltS], by simp [entM, pinv, mget, mset, renL, AV.ren, pget, renL_append, -List.map_map, ltS], rfl, rfl⟩)⟩
  · have hlt' : ¬ (j : Int) < ls.length := by omega
    have hin : j = ls.length := by omega
    subst hin
    rw [List.take_of_length_le (Nat.le_refl _)] at hv
    unfold ltS
    refine bwp_seq fun K hK => bwp_region rfl ?_
    simp -implicitDefEqProofs only [go_sem, ↓reduceIte, hlt']
    refine hK _ ?_; clear hK
    refine bwp_seq fun K1 hK1 => ?_
    refine bwp_cond false (by simp [ev, fget]) (fun h => nomatch h) (fun _ => ?_)
    refine bwp_leads (S' := ltS cs (ls.foldl (fun s l => l.foldl (fun s x => addLoc s x.loc) s) s) []) (Leads.ent [(0, 0)] ⟨by simp [entT, fget, AV.ren, renL, pget, ltS, hv], by simp [entM, pinv, mget, mset, renL, AV.ren, pget, renL_append, -List.map_map, ltS, hv], rfl, rfl⟩) ?_
    exact bwp_exit hQ
def maskT (t : Test) : Nat := t.rows.foldl (fun s l => l.foldl (fun s x => addLoc s x.loc) s) (t.threads.foldl (fun s l => l.foldl (fun s x => addLoc s x.loc) s) (t.inits.foldl (fun s x => addLoc s x.loc) 0))
theorem maskT_lt (t : Test) : maskT t < 67108864 := addss_lt _ _ (addss_lt _ _ (adds_lt _ _ (by omega)))
theorem letters_pure {t : Test} {cs : List DV} (hT : IsTest t cs) : Pure Tryz.prog 101 [.agg (cs.map .d)] (.d (.int .u64 (maskT t))) := by
  obtain ⟨I, T, A, rfl, hI, hTh, hA⟩ := hT
  have h1 : t.inits.foldl (fun s (x : Init) => addLoc s x.loc) 0 < 67108864 := adds_lt _ _ (by omega)
  have h2 : t.threads.foldl (fun s (l : List Ins) => l.foldl (fun s x => addLoc s x.loc) s) (t.inits.foldl (fun s (x : Init) => addLoc s x.loc) 0) < 67108864 := addss_lt _ _ h1
  have hIl := hI.len
  have hTl := hTh.len
  have hAl := hA.len
  refine acalls_of Tryz.func101 ac101_ok Tryz.ntmps101 Tryz.results101 rfl ?_
  unfold ac101
  refine bwp_seq fun K hK => bwp_region rfl ?_
  simp -implicitDefEqProofs only [go_sem, ↓reduceIte]
  refine hK _ ?_; clear hK
  refine bwp_leads (S' := ⟨[(1, .dptr [.str t.name, I, T, .int .i64 t.kind, A]), (2, .d (.int .u64 0))], [], 0⟩) (Leads.frz [] [(0, [.str t.name, I, T, .int .i64 t.kind, A])] ⟨?_, ?_, rfl, rfl, ?_⟩) ?_
  · simp [frzT, fget, AV.cv, cvL, zget, pget]
  · simp [frzM, pinv, zget, mget, cvL, AV.cv]
  · simp [zokFrom, mget, cvL, AV.cv]
  refine bwp_seq fun K hK => bwp_region rfl ?_
  simp -implicitDefEqProofs only [go_sem, ↓reduceIte]
  refine hK _ ?_; clear hK
  refine bwp_seq fun K hK => bwp_region rfl ?_
  simp -implicitDefEqProofs only [go_sem, ↓reduceIte]
  refine hK _ ?_; clear hK
  refine bwp_seq fun K1 hK1 => ?_
  refine bwp_seq fun K2 hK2 => ?_
  refine bwp_region rfl ?_
  simp -implicitDefEqProofs only [go_sem, ↓reduceIte, hIl]
  refine hK2 _ ?_; clear hK2
  refine bwp_block ?_
  refine bwp_leads (S' := ltS [.str t.name, I, T, .int .i64 t.kind, A] 0 [(19, .d (.int .i64 (0 : Nat))), (17, .d I), (18, .d (.int .i64 t.inits.length))]) (Leads.ent [(0, 0)] ⟨by simp [entT, fget, AV.ren, renL, pget, ltS], by simp [entM, pinv, mget, mset, renL, AV.ren, pget, renL_append, -List.map_map, ltS], rfl, rfl⟩) ?_
  refine lets_inits hI (by omega) ?_
  unfold ltS
  simp -implicitDefEqProofs only [go_sem, ↓reduceIte]
  refine hK1 _ ?_; clear hK1
  refine bwp_seq fun K1 hK1 => ?_
  refine bwp_seq fun K2 hK2 => ?_
  refine bwp_region rfl ?_
  simp -implicitDefEqProofs only [go_sem, ↓reduceIte, hTl]
  refine hK2 _ ?_; clear hK2
  refine bwp_block ?_
  refine bwp_leads (S' := ltS [.str t.name, I, T, .int .i64 t.kind, A] (t.inits.foldl (fun s x => addLoc s x.loc) 0) [(31, .d (.int .i64 (0 : Nat))), (29, .d T), (30, .d (.int .i64 t.threads.length))]) (Leads.ent [(0, 0)] ⟨by simp [entT, fget, AV.ren, renL, pget, ltS], by simp [entM, pinv, mget, mset, renL, AV.ren, pget, renL_append, -List.map_map, ltS], rfl, rfl⟩) ?_
  refine lets_inss hTh h1 ?_
  unfold ltS
  simp -implicitDefEqProofs only [go_sem, ↓reduceIte]
  refine hK1 _ ?_; clear hK1
  refine bwp_seq fun K1 hK1 => ?_
  refine bwp_seq fun K2 hK2 => ?_
  refine bwp_region rfl ?_
  simp -implicitDefEqProofs only [go_sem, ↓reduceIte, hAl]
  refine hK2 _ ?_; clear hK2
  refine bwp_block ?_
  refine bwp_leads (S' := ltS [.str t.name, I, T, .int .i64 t.kind, A] (t.threads.foldl (fun s l => l.foldl (fun s x => addLoc s x.loc) s) (t.inits.foldl (fun s x => addLoc s x.loc) 0)) [(51, .d (.int .i64 (0 : Nat))), (49, .d A), (50, .d (.int .i64 t.rows.length))]) (Leads.ent [(0, 0)] ⟨by simp [entT, fget, AV.ren, renL, pget, ltS], by simp [entM, pinv, mget, mset, renL, AV.ren, pget, renL_append, -List.map_map, ltS], rfl, rfl⟩) ?_
  refine lets_atoms hA h2 ?_
  unfold ltS
  simp -implicitDefEqProofs only [go_sem, ↓reduceIte]
  refine hK1 _ ?_; clear hK1
  refine bwp_seq fun K hK => bwp_region rfl ?_
  simp -implicitDefEqProofs only [go_sem, ↓reduceIte]
  refine hK _ ?_; clear hK
  refine bwp_ret ?_
  simp only [go_sem]
  refine aend_ret _ rfl rfl ⟨?_, rfl⟩
  rfl
end Go.Proofs.YtpfbljkfbjjlkaaGreatDoor

/- What the test made of numbers comes to, told without a heap: the whole. -/
namespace Go.Proofs.YtpfbljkfbjjlkaaGreatDoor
open Go Go.Jq
set_option maxRecDepth 100000
set_option linter.unusedSimpArgs false
set_option maxHeartbeats 4000000 in
theorem small_calls {ls : List Int} {X : DV} (hX : IsInts ls X) {most : Nat} (hmost : most ≤ 1000) :
    ACalls Tryz.prog 8 [.d X, .d (.int .i64 most)] [] fun r m' => (∃ cs, r = .agg (cs.map .d) ∧ IsTest (small ls most) cs) ∧ m' = [] := by
  refine acalls_of Tryz.func8 ac8_ok Tryz.ntmps8 Tryz.results8 rfl ?_
  unfold ac8
  refine bwp_seq fun K hK => bwp_region rfl ?_
  simp -implicitDefEqProofs only [go_sem, ↓reduceIte]
  refine hK _ ?_; clear hK
  refine bwp_seq fun K hK => bwp_region rfl ?_
  simp -implicitDefEqProofs only [go_sem, ↓reduceIte]
  refine hK _ ?_; clear hK
  refine bwp_seq fun K hK => bwp_region rfl ?_
  simp -implicitDefEqProofs only [go_sem, ↓reduceIte]
  refine hK _ ?_; clear hK
  refine bwp_seq fun K hK => bwp_region rfl ?_
  simp -implicitDefEqProofs only [go_sem, ↓reduceIte]
  refine hK _ ?_; clear hK
  refine bwp_leads (Leads.frz (S' := ⟨[(1, .d (.int .i64 most)), (4, .ptr 0 0), (5, .ptr 1 0), (7, .fn 26 [.ptr 2 0, .dptr [X]])],
    [(0, [.d (.str []), .d .nsl, .d .nsl, .d (.int .i64 0), .d .nsl]), (1, [.d (.str [116]), .d .nsl, .d .nsl, .d (.int .i64 0), .d .nsl]), (2, [.d (.int .i64 (0 : Nat))])], 3⟩) [(1, 0), (2, 1), (3, 2)] [(0, [X])] ⟨?_, ?_, rfl, rfl, ?_⟩) ?_
  · simp [frzT, fget, AV.cv, cvL, zget, pget]
  · simp [frzM, pinv, zget, mget, cvL, AV.cv]
  · simp [zokFrom, mget, cvL, AV.cv]
  have hw2 : ∀ q : Nat, q ≤ 10 → IntKind.i64.wrap ((q : Int) + 2) = ((q + 2 : Nat) : Int) := fun q hq => by rw [wrap_i64 (by omega) (by omega)]; rfl
  have hn : smallN ls ≤ 3 := by unfold smallN; omega
  have hl : smallLocs ls ≤ 10 := by unfold smallLocs; omega
  have hl0 : 0 < smallLocs ls := by unfold smallLocs; omega
  refine bwp_seq fun K hK => bwp_region rfl ?_
  simp -implicitDefEqProofs only [go_sem, ↓reduceIte]
  refine ⟨rfl, smNext_callK (a := 0) hX (by omega) rfl ?_⟩
  simp -implicitDefEqProofs only [go_sem, ↓reduceIte, tm2, hw2 (nxN ls 0 % 2) (by omega)]
  refine hK _ ?_; clear hK
  refine bwp_seq fun K hK => bwp_region rfl ?_
  simp -implicitDefEqProofs only [go_sem, ↓reduceIte]
  refine ⟨rfl, smNext_callK (a := 1) hX (by omega) rfl ?_⟩
  simp -implicitDefEqProofs only [go_sem, ↓reduceIte, tm2, hw2 (nxN ls 1 % 2) (by omega)]
  refine hK _ ?_; clear hK
  refine bwp_seq fun K1 hK1 => ?_
  refine bwp_seq fun K hK => bwp_region rfl ?_
  simp -implicitDefEqProofs only [go_sem, ↓reduceIte]
  refine ⟨rfl, smNext_callK (a := 2) hX (by omega) rfl ?_⟩
  simp -implicitDefEqProofs only [go_sem, ↓reduceIte, tm4]
  refine hK _ ?_; clear hK
  have mid : ∀ (S : St) (Iv : DV), Leads (mbound []) 184 S ⟨[(1, .d (.int .i64 most)), (4, .ptr 0 0), (5, .ptr 1 0), (7, .fn 26 [.ptr 2 0, .dptr [X]]), (8, .d (.int .i64 (smallN ls))), (9, .d (.int .i64 (smallLocs ls)))],
      [(0, [.d (.str []), .d .nsl, .d .nsl, .d (.int .i64 0), .d .nsl]), (1, [.d (.str [116]), .d Iv, .d .nsl, .d (.int .i64 0), .d .nsl]), (2, [.d (.int .i64 (smallAt ls))])], 3⟩ → IsSl Init.cells (smallInits ls) Iv → K1 S := by
    intro S Iv hS hIv
    refine hK1 _ ?_; clear hK1
    refine bwp_leads hS ?_
    refine bwp_leads (Leads.nilCell 1 2 1 rfl rfl rfl rfl) ?_
    refine bwp_seq fun K hK => bwp_region rfl ?_
    simp -implicitDefEqProofs only [go_sem, ↓reduceIte]
    refine hK _ ?_; clear hK
    refine bwp_seq fun K1 hK1 => ?_
    refine bwp_seq fun K2 hK2 => ?_
    refine bwp_region rfl ?_
    simp -implicitDefEqProofs only [go_sem, ↓reduceIte]
    refine hK2 _ ?_; clear hK2
    refine bwp_block ?_
    refine bwp_leads (S' := smO X Iv [] (smallN ls) (smallLocs ls) most 0 (smallAt ls) 0) (Leads.ent [(0, 0), (1, 1), (2, 2), (3, 3)] ⟨?_, ?_, rfl, rfl⟩) ?_
    · simp [smO, entT, fget, AV.ren, renL, pget]
    · simp [smO, entM, pinv, mget, mset, renL, AV.ren, pget]
    refine small_threads hX hn hl0 hl hmost (by unfold smallAt; split <;> omega) ?_
    intro ds hds hdl hat mem
    simp -implicitDefEqProofs only [go_sem, ↓reduceIte]
    refine hK1 _ ?_; clear hK1
    have hts : smallThreads ls (smallLocs ls) most (smallN ls) (smallAt ls) 0 [] = smallTs ls most := rfl
    rw [hts] at hds hat ⊢
    have htk : ds.take (smallN ls) = ds := List.take_of_length_le (by omega)
    refine bwp_leads (S' := smL X Iv ds (smallN ls) (smallTs ls most).1) (Leads.frz [(0, 0), (1, 1), (2, 2)] [(3, ds)] ⟨?_, ?_, rfl, rfl, ?_⟩) ?_
    · simp [smL, smO, frzT, fget, AV.cv, cvL, zget, pget]
    · simp [smL, smO, frzM, pinv, zget, mget, cvL, AV.cv, htk]
    · simp [smO, zokFrom, mget, cvL_d]
    refine small_tail (x := smallC ls most) hX (by omega) rfl hdl ?_
    intro Av hAv
    have hc : ∀ l : List DV, (AV.agg (l.map .d)).ren (pget []) = .agg (l.map .d) := fun l => by simp [AV.ren]
    exact ⟨⟨[.str [116], Iv, .sl (smallN ls) ds, .int .i64 (smallKind (smallC ls most)), Av], rfl, Iv, .sl (smallN ls) ds, Av, rfl, hIv, ⟨ds, ⟨by omega, .inr (by simp [hdl])⟩, hds⟩, hAv⟩, rfl⟩
  by_cases hz : nxN ls 2 % 4 = 0
  · refine bwp_cond true (by simp [ev, fget, hz]) (fun _ => ?_) (fun h => nomatch h)
    refine bwp_region_draw rfl rfl ?_
    simp -implicitDefEqProofs only [go_sem, ↓reduceIte]
    refine ⟨rfl, smNext_dCallK (a := 3) hX (by omega) rfl ?_⟩
    simp -implicitDefEqProofs only [go_sem, ↓reduceIte, tm3]
    refine ⟨rfl, mid _ (.sl 1 [.int .i64 120, .int .i64 (nxN ls 3 % 3 : Nat)]) (Leads.frz [(0, 0), (1, 1), (2, 2)] [(13, [.int .i64 120, .int .i64 (nxN ls 3 % 3 : Nat)])] ⟨?_, ?_, rfl, rfl, ?_⟩) ?_⟩
    · simp [frzT, fget, AV.cv, cvL, zget, pget, smallN, smallLocs]
    · simp [frzM, pinv, zget, mget, cvL, AV.cv, smallAt, hz]
    · simp [zokFrom, mget, cvL, AV.cv]
    · simp [smallInits, hz, IsSl, Init.cells]
  · refine bwp_cond false (by simp [ev, fget]; omega) (fun h => nomatch h) (fun _ => ?_)
    refine bwp_skip ?_
    refine mid _ .nsl (Leads.ent [(0, 0), (1, 1), (2, 2)] ⟨?_, ?_, rfl, rfl⟩) ?_
    · simp [entT, fget, AV.ren, renL, pget, smallN, smallLocs]
    · simp [entM, pinv, mget, renL, AV.ren, smallAt, hz]
    · simp [smallInits, hz, IsSl]
end Go.Proofs.YtpfbljkfbjjlkaaGreatDoor

/- Which locations a test names, told without a heap. -/
namespace Go.Proofs.YtpfbljkfbjjlkaaGreatDoor
open Go Go.Jq
set_option maxRecDepth 100000
set_option linter.unusedSimpArgs false
def letter (i : Nat) : UInt8 := UInt8.ofNat (97 + i)
def byteD (b : UInt8) : DV := .int .u8 b.toNat
end Go.Proofs.YtpfbljkfbjjlkaaGreatDoor

/- A test's locations as the program lists them, without a heap. -/
namespace Go.Proofs.YtpfbljkfbjjlkaaGreatDoor
open Go Go.Jq
set_option maxRecDepth 100000
set_option linter.unusedSimpArgs false
def bitLets (s i : Nat) : List UInt8 := ((List.range i).filter fun c => s.testBit c).map letter
theorem bitLets_zero (s : Nat) : bitLets s 0 = [] := rfl
theorem bitLets_next (s i : Nat) : bitLets s (i + 1) = if s.testBit i = true then bitLets s i ++ [letter i] else bitLets s i := by
  unfold bitLets
  rw [List.range_succ, List.filter_append, List.map_append]
  by_cases h : s.testBit i = true
  · rw [if_pos h, List.filter_cons, if_pos h]; rfl
  · rw [if_neg h, List.filter_cons, if_neg h]; simp
theorem bitLets_len (s i : Nat) : (bitLets s i).length ≤ i := by
  unfold bitLets
  rw [List.length_map]
  exact Nat.le_trans (List.length_filter_le _ _) (by simp)
def wellLocs (t : Test) : List UInt8 := bitLets (maskT t) 26
def wlO (cs : List DV) (s i : Nat) : St :=
  ⟨[(8, .d (.int .i64 (i : Nat))), (3, .sl 0 1 0 (bitLets s i).length), (1, .dptr cs), (2, .d .nsl), (4, .d (.int .u64 s))], [(0, ((bitLets s i).map byteD).map .d)], 1⟩
theorem wellLocs_loop {cs : List DV} {s : Nat} (hs : s < 67108864) {Q : Exit → St → Prop} (hQ : Q (.exit 0) (wlO cs s 26)) :
    BWP Tryz.prog (mbound []) 24 (.loop ac56L0) (wlO cs s 0) Q := by
  refine bwp_count (wlO cs s) 26 ?_
  intro i hi
  unfold ac56L0
  by_cases hlt : i < 26
  · have hlt' : (i : Int) < 26 := by omega
    have hn : ¬ ((i : Nat) : Int) < 0 := by omega
    have hi64 : i ≤ 64 := by omega
    have hdv : s / 2 ^ i < 18446744073709551616 := Nat.lt_of_le_of_lt (Nat.div_le_self _ _) (by omega)
    have hw : IntKind.i64.wrap (((i : Nat) : Int) + 1) = ((i + 1 : Nat) : Int) := by rw [wrap_i64 (by omega) (by omega)]; omega
    have hwb : IntKind.u8.wrap (((i : Nat) : Int)) = ((i : Nat) : Int) := wrap_u8 (by omega) (by omega)
    have hwc : IntKind.u8.wrap (97 + ((i : Nat) : Int)) = ((97 + i : Nat) : Int) := by rw [wrap_u8 (by omega) (by omega)]; omega
    have hl := bitLets_len s i
    have hl2 : (bitLets s i).length + 1 ≤ 140737488351232 := by omega
    have hlt2 := bitLets_next s i
    have hbits : IntKind.u64.bits = 64 := rfl
    unfold wlO
    refine bwp_seq fun K hK => bwp_region rfl ?_
    simp -implicitDefEqProofs only [go_sem, ↓reduceIte, hlt']
    refine hK _ ?_; clear hK
    refine bwp_seq fun K1 hK1 => ?_
    refine bwp_cond true (by simp [ev, fget]) (fun _ => ?_) (fun h => nomatch h)
    refine bwp_skip ?_
    refine hK1 _ ?_; clear hK1
    refine bwp_seq fun K1 hK1 => ?_
    refine bwp_block ?_
    refine bwp_seq fun K hK => bwp_region rfl ?_
    simp -implicitDefEqProofs only [go_sem, ↓reduceIte]
    refine hK _ ?_; clear hK
    refine bwp_seq fun K hK => bwp_region rfl ?_
    simp -implicitDefEqProofs only [go_sem, ↓reduceIte, hn, Int.toNat_natCast, hbits, hi64, fdiv_pow, and1_u64 _ hdv]
    refine hK _ ?_; clear hK
    have hbs := bit_seen s i
    generalize s / 2 ^ i % 2 = q at hbs
    by_cases hb : s.testBit i = true
    · rw [if_pos hb] at hlt2
      have hb' := hbs.2 hb
      refine bwp_cond true (by simp [ev, fget, hb']) (fun _ => ?_) (fun h => nomatch h)
      refine bwp_region rfl ?_
      simp -implicitDefEqProofs only [go_sem, ↓reduceIte, hwb, hwc, hl2, List.length_append]
      refine hK1 _ ?_; clear hK1
      have hbn : byteD (letter i) = .int .u8 (97 + i : Nat) := by
        have : (letter i).toNat = 97 + i := by simp [letter]; omega
        rw [byteD, this]
      refine bwp_region rfl ?_
      simp -implicitDefEqProofs only [go_sem, ↓reduceIte, hw]
      exact ⟨hlt, (Leads.ent [(2, 0)] ⟨by simp [entT, fget, AV.ren, renL, pget, wlO, hlt2, hbn], by simp [entM, pinv, mget, mset, renL, AV.ren, pget, renL_append, -List.map_map, wlO, hlt2, hbn], rfl, rfl⟩)⟩
    · rw [if_neg hb] at hlt2
      have hb' : ¬ ((q : Nat) : Int) = 1 := fun h => hb (hbs.1 h)
      refine bwp_cond false (by simp [ev, fget, hb']) (fun h => nomatch h) (fun _ => ?_)
      refine bwp_skip ?_
      refine hK1 _ ?_; clear hK1
      refine bwp_region rfl ?_
      simp -implicitDefEqProofs only [go_sem, ↓reduceIte, hw]
      exact ⟨hlt, (Leads.ent [(0, 0)] ⟨by simp [entT, fget, AV.ren, renL, pget, wlO, hlt2], by simp [entM, pinv, mget, mset, renL, AV.ren, pget, renL_append, -List.map_map, wlO, hlt2], rfl, rfl⟩)⟩
  · have hlt' : ¬ ((i : Nat) : Int) < 26 := by omega
    have hin : i = 26 := by omega
    unfold wlO
    refine bwp_seq fun K hK => bwp_region rfl ?_
    simp -implicitDefEqProofs only [go_sem, ↓reduceIte, hlt']
    refine hK _ ?_; clear hK
    refine bwp_seq fun K1 hK1 => ?_
    refine bwp_cond false (by simp [ev, fget]) (fun h => nomatch h) (fun _ => ?_)
    subst hin
    refine bwp_leads (S' := wlO cs s 26) (Leads.ent [(0, 0)] ⟨by simp [entT, fget, AV.ren, renL, pget, wlO], by simp [entM, pinv, mget, mset, renL, AV.ren, pget, renL_append, -List.map_map, wlO], rfl, rfl⟩) ?_
    exact bwp_exit hQ
theorem wellLocs_pure {t : Test} {cs : List DV} (hT : IsTest t cs) : Pure Tryz.prog 56 [.agg (cs.map .d)] (.d (bytesD (wellLocs t))) := by
  have hT0 := hT
  obtain ⟨I, T, A, rfl, hI, hTh, hA⟩ := hT
  refine acalls_of Tryz.func56 ac56_ok Tryz.ntmps56 Tryz.results56 rfl ?_
  unfold ac56
  refine bwp_seq fun K hK => bwp_region rfl ?_
  simp -implicitDefEqProofs only [go_sem, ↓reduceIte]
  refine hK _ ?_; clear hK
  refine bwp_leads (S' := ⟨[(1, .dptr [.str t.name, I, T, .int .i64 t.kind, A]), (2, .d .nsl)], [], 0⟩) (Leads.frz [] [(0, [.str t.name, I, T, .int .i64 t.kind, A])] ⟨?_, ?_, rfl, rfl, ?_⟩) ?_
  · simp [frzT, fget, AV.cv, cvL, zget, pget]
  · simp [frzM, pinv, zget, mget, cvL, AV.cv]
  · simp [zokFrom, mget, cvL, AV.cv]
  refine bwp_seq fun K hK => bwp_region rfl ?_
  simp -implicitDefEqProofs only [go_sem, ↓reduceIte]
  refine hK _ ?_; clear hK
  refine bwp_seq fun K hK => bwp_region rfl ?_
  simp -implicitDefEqProofs only [go_sem, ↓reduceIte]
  refine callK_pure (letters_pure hT0) rfl rfl ?_
  simp -implicitDefEqProofs only [go_sem, ↓reduceIte]
  refine hK _ ?_; clear hK
  refine bwp_leads (Leads.nil 3 1 rfl rfl) ?_
  refine bwp_seq fun K1 hK1 => ?_
  refine bwp_seq fun K2 hK2 => ?_
  refine bwp_region rfl ?_
  simp -implicitDefEqProofs only [go_sem, ↓reduceIte]
  refine hK2 _ ?_; clear hK2
  refine bwp_block ?_
  refine bwp_leads (S' := wlO [.str t.name, I, T, .int .i64 t.kind, A] (maskT t) 0) (Leads.ent [(0, 0)] ⟨by simp [entT, fget, AV.ren, renL, pget, wlO, bitLets_zero], by simp [entM, pinv, mget, mset, renL, AV.ren, pget, renL_append, -List.map_map, wlO, bitLets_zero], rfl, rfl⟩) ?_
  refine wellLocs_loop (maskT_lt t) ?_
  simp -implicitDefEqProofs only [go_sem, ↓reduceIte]
  refine hK1 _ ?_; clear hK1
  unfold wlO
  refine bwp_seq fun K hK => bwp_region rfl ?_
  simp -implicitDefEqProofs only [go_sem, ↓reduceIte]
  refine hK _ ?_; clear hK
  have htk : ((bitLets (maskT t) 26).map byteD).take (bitLets (maskT t) 26).length = (bitLets (maskT t) 26).map byteD := List.take_of_length_le (by simp)
  refine bwp_leads (S' := ⟨[(2, .d (bytesD (wellLocs t)))], [], 0⟩) (Leads.frz [] [(0, (bitLets (maskT t) 26).map byteD)] ⟨?_, ?_, rfl, rfl, ?_⟩) ?_
  · have e : (fun b : UInt8 => DV.int .u8 b.toNat) = byteD := rfl
    simp [frzT, fget, AV.cv, cvL, zget, pget, htk, bytesD, wellLocs, e, -List.map_map]
  · simp [frzM]
  · simp [zokFrom, mget, cvL_d, -List.map_map]
  refine bwp_ret ?_
  simp only [go_sem]
  refine aend_ret _ rfl rfl ⟨?_, rfl⟩
  rfl
end Go.Proofs.YtpfbljkfbjjlkaaGreatDoor

/- Whether a test is too big, begins a location twice, jumps too far: without a heap. -/
namespace Go.Proofs.YtpfbljkfbjjlkaaGreatDoor
open Go Go.Jq
set_option maxRecDepth 100000
set_option linter.unusedSimpArgs false
def sumLen (l : List (List Ins)) : Nat := l.foldl (fun s x => s + x.length) 0
def longB (l : List Atom) : Bool := decide (8 < l.length)
def bigB (t : Test) : Bool :=
  t.threads.any (fun l => decide (10 < l.length)) || (decide (t.threads.length = 0) || (decide (4 < t.threads.length) || (decide (24 < sumLen t.threads) || (decide (4 < (wellLocs t).length) || (decide (8 < t.rows.length) || (t.rows.any longB || decide (20 < t.name.length)))))))
theorem wlong_pure {l : List Atom} {X : DV} (hX : IsSl Atom.cells l X) : Pure Tryz.prog 97 [.d X] (.d (.bool (longB l))) := by
  have hl := hX.len
  refine acalls_of Tryz.func97 ac97_ok Tryz.ntmps97 Tryz.results97 rfl ?_
  unfold ac97
  refine bwp_seq fun K hK => bwp_region rfl ?_
  simp -implicitDefEqProofs only [go_sem, ↓reduceIte]
  refine hK _ ?_; clear hK
  refine bwp_seq fun K hK => bwp_region rfl ?_
  simp -implicitDefEqProofs only [go_sem, ↓reduceIte, hl]
  refine hK _ ?_; clear hK
  refine bwp_ret ?_
  simp only [go_sem]
  refine aend_ret _ rfl rfl ⟨?_, rfl⟩
  have : ((8 : Int) < l.length) = (8 < l.length) := by apply propext; omega
  simp [fget, longB, this]
def bgS (cs : List DV) (D : DV) (n s j : Nat) : St := ⟨[(10, .d (.int .i64 j)), (8, .d D), (9, .d (.int .i64 n)), (3, .d (.int .i64 s)), (1, .dptr cs), (2, .d (.bool false))], [], 0⟩
theorem big_pure {t : Test} {cs : List DV} (hT : IsTest t cs) (hbig : t.threads.length ≤ 1000000) : Pure Tryz.prog 49 [.agg (cs.map .d)] (.d (.bool (bigB t))) := by
  have hT0 := hT
  obtain ⟨I, T, A, rfl, hI, hTh, hA⟩ := hT
  have hTl := hTh.len
  have hAl := hA.len
  refine acalls_of Tryz.func49 ac49_ok Tryz.ntmps49 Tryz.results49 rfl ?_
  unfold ac49
  refine bwp_seq fun K hK => bwp_region rfl ?_
  simp -implicitDefEqProofs only [go_sem, ↓reduceIte]
  refine hK _ ?_; clear hK
  refine bwp_leads (S' := ⟨[(1, .dptr [.str t.name, I, T, .int .i64 t.kind, A]), (2, .d (.bool false))], [], 0⟩) (Leads.frz [] [(0, [.str t.name, I, T, .int .i64 t.kind, A])] ⟨?_, ?_, rfl, rfl, ?_⟩) ?_
  · simp [frzT, fget, AV.cv, cvL, zget, pget]
  · simp [frzM, pinv, zget, mget, cvL, AV.cv]
  · simp [zokFrom, mget, cvL, AV.cv]
  refine bwp_seq fun K hK => bwp_region rfl ?_
  simp -implicitDefEqProofs only [go_sem, ↓reduceIte]
  refine hK _ ?_; clear hK
  refine bwp_seq fun K1 hK1 => ?_
  refine bwp_seq fun K2 hK2 => ?_
  refine bwp_region rfl ?_
  simp -implicitDefEqProofs only [go_sem, ↓reduceIte, hTl]
  refine hK2 _ ?_; clear hK2
  refine bwp_block ?_
  refine bwp_leads (S' := bgS [.str t.name, I, T, .int .i64 t.kind, A] T t.threads.length 0 0) (Leads.ent [] ⟨by simp [entT, fget, AV.ren, renL, pget, bgS], by simp [entM, pinv, mget, mset, renL, AV.ren, pget, renL_append, -List.map_map, bgS], rfl, rfl⟩) ?_
  refine bwp_countI (fun j => bgS [.str t.name, I, T, .int .i64 t.kind, A] T t.threads.length (sumLen (t.threads.take j)) j) (fun j => (∀ l ∈ t.threads.take j, l.length ≤ 10) ∧ sumLen (t.threads.take j) ≤ 10 * j) t.threads.length ⟨by simp, by simp [sumLen]⟩ ?_
  intro j hj hp
  unfold ac49L0
  generalize hs : sumLen (t.threads.take j) = s at hp
  obtain ⟨hp1, hp2⟩ := hp
  by_cases hlt : j < t.threads.length
  · have hlt' : (j : Int) < t.threads.length := by omega
    obtain ⟨cs2, d, rest, hDe, hdr, hjc, hd⟩ := hTh.at j hlt
    have hdl := hd.len
    have hw : IntKind.i64.wrap ((j : Int) + 1) = ((j + 1 : Nat) : Int) := by rw [wrap_i64 (by omega) (by omega)]; rfl
    unfold bgS
    refine bwp_seq fun K hK => bwp_region rfl ?_
    simp -implicitDefEqProofs only [go_sem, ↓reduceIte, hlt']
    refine hK _ ?_; clear hK
    refine bwp_seq fun K2 hK2 => ?_
    refine bwp_cond true (by simp [ev, fget]) (fun _ => ?_) (fun h => nomatch h)
    refine bwp_skip ?_
    refine hK2 _ ?_; clear hK2
    refine bwp_seq fun K2 hK2 => ?_
    refine bwp_block ?_
    refine bwp_seq fun K hK => bwp_region rfl ?_
    simp -implicitDefEqProofs only [go_sem, ↓reduceIte, hDe, hlt', Int.natCast_nonneg, Int.toNat_natCast, Nat.mul_one, hjc, hdr]
    refine hK _ ?_; clear hK
    refine bwp_seq fun K3 hK3 => ?_
    refine bwp_seq fun K hK => bwp_region rfl ?_
    simp -implicitDefEqProofs only [go_sem, ↓reduceIte, hdl]
    refine hK _ ?_; clear hK
    by_cases h10 : 10 < t.threads[j].length
    · have h10' : (10 : Int) < t.threads[j].length := by omega
      refine bwp_cond true (by simp [ev, fget, h10']) (fun _ => ?_) (fun h => nomatch h)
      refine bwp_seq fun K hK => bwp_region rfl ?_
      simp -implicitDefEqProofs only [go_sem, ↓reduceIte]
      refine hK _ ?_; clear hK
      refine bwp_ret ?_
      simp only [go_sem]
      refine aend_ret _ rfl rfl ⟨?_, rfl⟩
      have : t.threads.any (fun l => decide (10 < l.length)) = true := List.any_eq_true.2 ⟨_, List.getElem_mem hlt, by simpa using h10⟩
      simp [fget, bigB, this]
    · have h10' : ¬ (10 : Int) < t.threads[j].length := by omega
      have hsum : sumLen (t.threads.take (j + 1)) = s + t.threads[j].length := by
        have := foldl_next (fun s (x : List Ins) => s + x.length) 0 t.threads j hlt
        unfold sumLen at hs ⊢
        rw [this, hs]
      have hws : IntKind.i64.wrap ((s : Int) + t.threads[j].length) = ((s + t.threads[j].length : Nat) : Int) := by rw [wrap_i64 (by omega) (by omega)]; omega
      refine bwp_cond false (by simp [ev, fget, h10']) (fun h => nomatch h) (fun _ => ?_)
      refine bwp_skip ?_
      simp -implicitDefEqProofs only [go_sem, ↓reduceIte]
      refine hK3 _ ?_; clear hK3
      refine bwp_region rfl ?_
      simp -implicitDefEqProofs only [go_sem, ↓reduceIte, hdl, hws]
      refine hK2 _ ?_; clear hK2
      refine bwp_region rfl ?_
      simp -implicitDefEqProofs only [go_sem, ↓reduceIte, hw]
      refine ⟨hlt, ⟨?_, by rw [hsum]; omega⟩, Leads.ent [] ⟨by simp [bgS, entT, fget, AV.ren, pget, hDe, hsum], by simp [bgS, entM], rfl, rfl⟩⟩
      intro l hl
      rw [List.take_add_one, List.getElem?_eq_getElem hlt, List.mem_append] at hl
      rcases hl with hl | hl
      · exact hp1 l hl
      · simp only [Option.toList_some, List.mem_singleton] at hl
        subst hl
        omega
  · have hlt' : ¬ (j : Int) < t.threads.length := by omega
    have hin : j = t.threads.length := by omega
    subst hin
    rw [List.take_of_length_le (Nat.le_refl _)] at hs hp1
    have hany : t.threads.any (fun l => decide (10 < l.length)) = false := by
      rw [List.any_eq_false]
      intro l hl
      have := hp1 l hl
      simp only [decide_eq_true_eq]; omega
    unfold bgS
    refine bwp_seq fun K hK => bwp_region rfl ?_
    simp -implicitDefEqProofs only [go_sem, ↓reduceIte, hlt']
    refine hK _ ?_; clear hK
    refine bwp_seq fun K2 hK2 => ?_
    refine bwp_cond false (by simp [ev, fget]) (fun h => nomatch h) (fun _ => ?_)
    refine bwp_exit ?_
    simp -implicitDefEqProofs only [go_sem, ↓reduceIte]
    refine hK1 _ ?_; clear hK1
    refine bwp_seq fun K hK => bwp_region rfl ?_
    simp -implicitDefEqProofs only [go_sem, ↓reduceIte]
    refine hK _ ?_; clear hK
    by_cases a1 : t.threads.length = 0
    · have a1' : (t.threads.length : Int) = 0 := by omega
      refine bwp_seq fun K hK => bwp_region rfl ?_
      simp -implicitDefEqProofs only [go_sem, ↓reduceIte, hTl, a1']
      refine hK _ ?_; clear hK
      refine bwp_ret ?_
      simp only [go_sem]
      refine aend_ret _ rfl rfl ⟨?_, rfl⟩
      simp [fget, bigB, a1]
    have a1' : ¬ (t.threads.length : Int) = 0 := by omega
    by_cases a2 : 4 < t.threads.length
    · have a2' : (4 : Int) < t.threads.length := by omega
      refine bwp_seq fun K hK => bwp_region rfl ?_
      simp -implicitDefEqProofs only [go_sem, ↓reduceIte, hTl, a1', a2']
      refine hK _ ?_; clear hK
      refine bwp_ret ?_
      simp only [go_sem]
      refine aend_ret _ rfl rfl ⟨?_, rfl⟩
      simp [fget, bigB, a2]
    have a2' : ¬ (4 : Int) < t.threads.length := by omega
    by_cases a3 : 24 < s
    · have a3' : (24 : Int) < s := by omega
      refine bwp_seq fun K hK => bwp_region rfl ?_
      simp -implicitDefEqProofs only [go_sem, ↓reduceIte, hTl, a1', a2', a3']
      refine hK _ ?_; clear hK
      refine bwp_ret ?_
      simp only [go_sem]
      refine aend_ret _ rfl rfl ⟨?_, rfl⟩
      simp [fget, bigB, hs, a3]
    have a3' : ¬ (24 : Int) < s := by omega
    refine bwp_seq fun K hK => bwp_region rfl ?_
    simp -implicitDefEqProofs only [go_sem, ↓reduceIte, hTl, a1', a2', a3']
    refine callK_pure (wellLocs_pure hT0) rfl rfl ?_
    have hln : ∀ l : List UInt8, lenA (.d (bytesD l)) = some l.length := fun l => rfl
    have kA : ∀ (dst : Option Nat) (r : List AOper) (K : St → Prop) (t' : Fr) (m : Mem) (n : Nat), runOps Tryz.prog r ⟨putF t' dst (.d (.bool (t.rows.any longB))), m, n⟩ K → callK Tryz.prog 98 [.d A, .fn 97 []] dst r K t' m n :=
      fun dst r K t m n h => callK_pure (anyRows rfl rfl hA longB fun l _ d hd => wlong_pure hd) rfl rfl h
    by_cases a4 : 4 < (wellLocs t).length
    · have a4' : (4 : Int) < (wellLocs t).length := by omega
      simp -implicitDefEqProofs only [go_sem, ↓reduceIte, hln, a4']
      refine hK _ ?_; clear hK
      refine bwp_ret ?_
      simp only [go_sem]
      refine aend_ret _ rfl rfl ⟨?_, rfl⟩
      simp [fget, bigB, a4]
    have a4' : ¬ (4 : Int) < (wellLocs t).length := by omega
    by_cases a5 : 8 < t.rows.length
    · have a5' : (8 : Int) < t.rows.length := by omega
      simp -implicitDefEqProofs only [go_sem, ↓reduceIte, hln, a4', hAl, a5']
      refine hK _ ?_; clear hK
      refine bwp_ret ?_
      simp only [go_sem]
      refine aend_ret _ rfl rfl ⟨?_, rfl⟩
      simp [fget, bigB, a5]
    have a5' : ¬ (8 : Int) < t.rows.length := by omega
    simp -implicitDefEqProofs only [go_sem, ↓reduceIte, hln, a4', hAl, a5']
    refine kA _ _ _ _ _ _ ?_
    cases a6 : t.rows.any longB
    · simp -implicitDefEqProofs only [go_sem, ↓reduceIte]
      refine hK _ ?_; clear hK
      refine bwp_ret ?_
      simp only [go_sem]
      refine aend_ret _ rfl rfl ⟨?_, rfl⟩
      have e : ((20 : Int) < (t.name.length : Int)) = (20 < t.name.length) := by apply propext; omega
      simp [fget, bigB, hany, a1, a2, hs, a3, a4, a5, a6, e]
    · simp -implicitDefEqProofs only [go_sem, ↓reduceIte]
      refine hK _ ?_; clear hK
      refine bwp_ret ?_
      simp only [go_sem]
      refine aend_ret _ rfl rfl ⟨?_, rfl⟩
      simp [fget, bigB, a6]
end Go.Proofs.YtpfbljkfbjjlkaaGreatDoor

/- Whether a test begins a location twice, jumps too far, is small enough: without a heap. -/
namespace Go.Proofs.YtpfbljkfbjjlkaaGreatDoor
open Go Go.Jq
set_option maxRecDepth 100000
set_option linter.unusedSimpArgs false
def initBit (x : Init) : Nat := (x.loc - 97).toNat
def initMask (l : List Init) : Nat := l.foldl (fun s x => addBit s (initBit x)) 0
def twiceB (l : List Init) : Bool := !decide (l.map (·.loc)).Nodup
theorem initMask_test (l : List Init) (i : Nat) : (initMask l).testBit i = l.any fun x => decide (initBit x = i) := by
  have : ∀ (l : List Init) (s : Nat), (l.foldl (fun s x => addBit s (initBit x)) s).testBit i = (s.testBit i || l.any fun x => decide (initBit x = i)) := by
    intro l
    induction l with
    | nil => intro s; simp
    | cons a l ih => intro s; rw [List.foldl_cons, ih, addBit_test, List.any_cons, Bool.or_assoc]
  unfold initMask
  rw [this, Nat.zero_testBit, Bool.false_or]
theorem initMask_lt {l : List Init} (h : ∀ x ∈ l, 97 ≤ x.loc ∧ x.loc ≤ 122) : initMask l < 67108864 := by
  have : ∀ (l : List Init) (s : Nat), (∀ x ∈ l, 97 ≤ x.loc ∧ x.loc ≤ 122) → s < 67108864 → l.foldl (fun s x => addBit s (initBit x)) s < 67108864 := by
    intro l
    induction l with
    | nil => intro s _ hs; exact hs
    | cons a l ih =>
      intro s hl hs
      rw [List.foldl_cons]
      have := hl a List.mem_cons_self
      exact ih _ (fun x hx => hl x (List.mem_cons_of_mem _ hx)) (addBit_lt hs (by unfold initBit; omega))
  exact this l 0 h (by omega)
theorem nodup_next {l : List Init} (h : ∀ x ∈ l, 97 ≤ x.loc ∧ x.loc ≤ 122) {i : Nat} (hlt : i < l.length) :
    (initMask (l.take i)).testBit (initBit l[i]) = true ↔ ∃ x ∈ l.take i, x.loc = l[i].loc := by
  rw [initMask_test, List.any_eq_true]
  constructor
  · rintro ⟨x, hx, he⟩
    have h1 := h x (List.mem_of_mem_take hx)
    have h2 := h l[i] (List.getElem_mem hlt)
    refine ⟨x, hx, ?_⟩
    have he' : initBit x = initBit l[i] := by simpa using he
    unfold initBit at he'
    omega
  · rintro ⟨x, hx, he⟩
    exact ⟨x, hx, by simp [initBit, he]⟩
theorem take_next (l : List Init) (i : Nat) (hlt : i < l.length) : (l.take (i + 1)).map (·.loc) = (l.take i).map (·.loc) ++ [l[i].loc] := by
  rw [List.take_add_one, List.getElem?_eq_getElem hlt, List.map_append]; rfl
def wtwS (X : DV) (n s i : Nat) : St := ⟨[(8, .d (.int .i64 i)), (6, .d X), (7, .d (.int .i64 n)), (3, .d (.int .u64 s)), (2, .d (.bool false))], [], 0⟩
theorem twice_pure {l : List Init} {X : DV} (hX : IsSl Init.cells l X) (hl : ∀ x ∈ l, 97 ≤ x.loc ∧ x.loc ≤ 122) : Pure Tryz.prog 50 [.d X] (.d (.bool (twiceB l))) := by
  have hlen := hX.len
  have hbig := hX.1
  refine acalls_of Tryz.func50 ac50_ok Tryz.ntmps50 Tryz.results50 rfl ?_
  unfold ac50
  refine bwp_seq fun K hK => bwp_region rfl ?_
  simp -implicitDefEqProofs only [go_sem, ↓reduceIte]
  refine hK _ ?_; clear hK
  refine bwp_seq fun K hK => bwp_region rfl ?_
  simp -implicitDefEqProofs only [go_sem, ↓reduceIte]
  refine hK _ ?_; clear hK
  refine bwp_seq fun K1 hK1 => ?_
  refine bwp_seq fun K2 hK2 => ?_
  refine bwp_region rfl ?_
  simp -implicitDefEqProofs only [go_sem, ↓reduceIte, hlen]
  refine hK2 _ ?_; clear hK2
  refine bwp_block ?_
  refine bwp_leads (S' := wtwS X l.length 0 0) (Leads.ent [] ⟨by simp [entT, fget, AV.ren, renL, pget, wtwS], by simp [entM, pinv, mget, mset, renL, AV.ren, pget, renL_append, -List.map_map, wtwS], rfl, rfl⟩) ?_
  refine bwp_countI (fun i => wtwS X l.length (initMask (l.take i)) i) (fun i => ((l.take i).map (·.loc)).Nodup) l.length (by simp) ?_
  intro i hi hp
  have hsl : initMask (l.take i) < 67108864 := initMask_lt fun x hx => hl x (List.mem_of_mem_take hx)
  unfold ac50L0
  by_cases hlt : i < l.length
  · have hlt' : (i : Int) < l.length := by omega
    obtain ⟨cs2, rest, hDe, hdrop, hcs⟩ := hX.at init_len (by omega) i hlt
    have hnd := nodup_next hl hlt
    have hnx : initMask (l.take (i + 1)) = initMask (l.take i) ||| 2 ^ initBit l[i] := foldl_next (fun s (x : Init) => addBit s (initBit x)) 0 l i hlt
    have htn := take_next l i hlt
    have hr := hl l[i] (List.getElem_mem hlt)
    have hex : ∀ x ∈ l.take i, x.loc = l[i].loc → ¬ (l.map (·.loc)).Nodup := by
      intro x hx he hnod
      have h1 : ((l.take (i + 1)).map (·.loc)).Nodup := hnod.sublist ((List.take_sublist _ _).map _)
      rw [htn, List.nodup_append] at h1
      exact h1.2.2 x.loc (List.mem_map.2 ⟨x, hx, rfl⟩) l[i].loc (by simp) he
    have hw : IntKind.i64.wrap ((i : Int) + 1) = ((i + 1 : Nat) : Int) := by rw [wrap_i64 (by omega) (by omega)]; rfl
    generalize hse : initMask (l.take i) = s at *
    have hkb : initBit l[i] < 26 := by unfold initBit; omega
    have hwk : IntKind.i64.wrap (l[i].loc - 97) = ((initBit l[i] : Nat) : Int) := by
      rw [wrap_i64 (by omega) (by omega)]; unfold initBit; omega
    have hl2 : ∀ (n : Nat), (2 ≤ (n + 1 + 1)) = True := fun n => by simp
    generalize hxe : l[i] = x at *
    generalize hke : initBit x = k at *
    have hk64 : k ≤ 64 := by omega
    have hk0 : ¬ ((k : Nat) : Int) < 0 := by omega
    have hdv : s / 2 ^ k < 18446744073709551616 := Nat.lt_of_le_of_lt (Nat.div_le_self _ _) (by omega)
    have hbits : IntKind.u64.bits = 64 := rfl
    have hpk : (2 : Nat) ^ k < 18446744073709551616 := by
      have : (2 : Nat) ^ k < 2 ^ 26 := Nat.pow_lt_pow_right (by omega) hkb
      omega
    have hsh : IntKind.u64.wrap (1 * 2 ^ k) = ((2 ^ k : Nat) : Int) := by
      have e : (1 * 2 ^ k : Int) = ((2 ^ k : Nat) : Int) := by simp
      rw [e, wrap_u64 (Int.natCast_nonneg _) (by have := Int.ofNat_lt.2 hpk; exact this)]
    have hor := or_u64 (a := s) (b := 2 ^ k) (by omega) hpk
    have hbs := bit_seen s k
    unfold wtwS
    refine bwp_seq fun K hK => bwp_region rfl ?_
    simp -implicitDefEqProofs only [go_sem, ↓reduceIte, hlt']
    refine hK _ ?_; clear hK
    refine bwp_seq fun K2 hK2 => ?_
    refine bwp_cond true (by simp [ev, fget]) (fun _ => ?_) (fun h => nomatch h)
    refine bwp_skip ?_
    refine hK2 _ ?_; clear hK2
    refine bwp_seq fun K2 hK2 => ?_
    refine bwp_block ?_
    refine bwp_seq fun K hK => bwp_region rfl ?_
    simp -implicitDefEqProofs only [go_sem, ↓reduceIte, hDe, hlt', Int.natCast_nonneg, Int.toNat_natCast, hcs, hdrop, Init.cells, hl2]
    refine hK _ ?_; clear hK
    refine bwp_seq fun K3 hK3 => ?_
    refine bwp_seq fun K hK => bwp_region rfl ?_
    simp -implicitDefEqProofs only [go_sem, ↓reduceIte, hwk, hk0, Int.toNat_natCast, hbits, hk64, fdiv_pow, and1_u64 _ hdv]
    refine hK _ ?_; clear hK
    generalize s / 2 ^ k % 2 = q at hbs
    by_cases hb : s.testBit k = true
    · refine bwp_cond true (by simp [ev, fget, hbs.2 hb]) (fun _ => ?_) (fun h => nomatch h)
      obtain ⟨y, hy, hye⟩ := hnd.1 hb
      refine bwp_seq fun K hK => bwp_region rfl ?_
      simp -implicitDefEqProofs only [go_sem, ↓reduceIte]
      refine hK _ ?_; clear hK
      refine bwp_ret ?_
      simp only [go_sem]
      refine aend_ret _ rfl rfl ⟨?_, rfl⟩
      have : ¬ (l.map (·.loc)).Nodup := hex y hy hye
      simp [fget, twiceB, this]
    · have hb' : ¬ ((q : Nat) : Int) = 1 := fun h => hb (hbs.1 h)
      refine bwp_cond false (by simp [ev, fget, hb']) (fun h => nomatch h) (fun _ => ?_)
      refine bwp_skip ?_
      simp -implicitDefEqProofs only [go_sem, ↓reduceIte]
      refine hK3 _ ?_; clear hK3
      refine bwp_region rfl ?_
      simp -implicitDefEqProofs only [go_sem, ↓reduceIte, hwk, hk0, Int.toNat_natCast, hbits, hk64, hsh, hor]
      refine hK2 _ ?_; clear hK2
      refine bwp_region rfl ?_
      simp -implicitDefEqProofs only [go_sem, ↓reduceIte, hw]
      refine ⟨hlt, ?_, Leads.ent [] ⟨by simp [wtwS, entT, fget, AV.ren, pget, hDe, hnx], by simp [wtwS, entM], rfl, rfl⟩⟩
      rw [htn, List.nodup_append]
      refine ⟨hp, by simp, fun a ha b hb2 => ?_⟩
      simp only [List.mem_singleton] at hb2
      subst hb2
      obtain ⟨y, hy, rfl⟩ := List.mem_map.1 ha
      intro he
      exact hb (hnd.2 ⟨y, hy, he⟩)
  · have hlt' : ¬ (i : Int) < l.length := by omega
    have hin : i = l.length := by omega
    subst hin
    rw [List.take_of_length_le (Nat.le_refl _)] at hp
    unfold wtwS
    refine bwp_seq fun K hK => bwp_region rfl ?_
    simp -implicitDefEqProofs only [go_sem, ↓reduceIte, hlt']
    refine hK _ ?_; clear hK
    refine bwp_seq fun K2 hK2 => ?_
    refine bwp_cond false (by simp [ev, fget]) (fun h => nomatch h) (fun _ => ?_)
    refine bwp_exit ?_
    simp -implicitDefEqProofs only [go_sem, ↓reduceIte]
    refine hK1 _ ?_; clear hK1
    refine bwp_seq fun K hK => bwp_region rfl ?_
    simp -implicitDefEqProofs only [go_sem, ↓reduceIte]
    refine hK _ ?_; clear hK
    refine bwp_ret ?_
    simp only [go_sem]
    refine aend_ret _ rfl rfl ⟨?_, rfl⟩
    simp [fget, twiceB, hp]
def jumpBadAt (l : List Ins) (i : Nat) : Bool := match l[i]? with
  | some x => decide (x.kind = 6) && (decide (x.n < 1) || decide ((l.length : Int) - i - 1 < x.n))
  | none => false
def jumpsB (l : List Ins) : Bool := !(List.range l.length).any (jumpBadAt l)
def jpS (X : DV) (n i : Nat) : St := ⟨[(7, .d (.int .i64 i)), (5, .d X), (6, .d (.int .i64 n)), (0, .d X), (2, .d (.bool false))], [], 0⟩
theorem jumps_pure {l : List Ins} {X : DV} (hX : IsSl Ins.cells l X) : Pure Tryz.prog 53 [.d X] (.d (.bool (jumpsB l))) := by
  have hlen := hX.len
  have hbig := hX.1
  refine acalls_of Tryz.func53 ac53_ok Tryz.ntmps53 Tryz.results53 rfl ?_
  unfold ac53
  refine bwp_seq fun K hK => bwp_region rfl ?_
  simp -implicitDefEqProofs only [go_sem, ↓reduceIte]
  refine hK _ ?_; clear hK
  refine bwp_seq fun K1 hK1 => ?_
  refine bwp_seq fun K2 hK2 => ?_
  refine bwp_region rfl ?_
  simp -implicitDefEqProofs only [go_sem, ↓reduceIte, hlen]
  refine hK2 _ ?_; clear hK2
  refine bwp_block ?_
  refine bwp_leads (S' := jpS X l.length 0) (Leads.ent [] ⟨by simp [entT, fget, AV.ren, renL, pget, jpS], by simp [entM, pinv, mget, mset, renL, AV.ren, pget, renL_append, -List.map_map, jpS], rfl, rfl⟩) ?_
  refine bwp_countI (fun i => jpS X l.length i) (fun i => ∀ j, j < i → jumpBadAt l j = false) l.length (fun j h => by omega) ?_
  intro i hi hp
  unfold ac53L0
  by_cases hlt : i < l.length
  · have hlt' : (i : Int) < l.length := by omega
    obtain ⟨cs2, rest, hDe, hdrop, hcs⟩ := hX.at ins_len (by omega) i hlt
    have hw : IntKind.i64.wrap ((i : Int) + 1) = ((i + 1 : Nat) : Int) := by rw [wrap_i64 (by omega) (by omega)]; rfl
    have hw1 : IntKind.i64.wrap ((l.length : Int) - i) = (l.length : Int) - i := wrap_i64 (by omega) (by omega)
    have hw2 : IntKind.i64.wrap ((l.length : Int) - i - 1) = (l.length : Int) - i - 1 := wrap_i64 (by omega) (by omega)
    have hl9 : ∀ (n : Nat), (9 ≤ (n + 1 + 1 + 1 + 1 + 1 + 1 + 1 + 1 + 1)) = True := fun n => by simp
    have hat : jumpBadAt l i = (decide (l[i].kind = 6) && (decide (l[i].n < 1) || decide ((l.length : Int) - i - 1 < l[i].n))) := by
      unfold jumpBadAt
      rw [List.getElem?_eq_getElem hlt]
    generalize l[i] = x at hat hdrop
    unfold jpS
    refine bwp_seq fun K hK => bwp_region rfl ?_
    simp -implicitDefEqProofs only [go_sem, ↓reduceIte, hlt']
    refine hK _ ?_; clear hK
    refine bwp_seq fun K2 hK2 => ?_
    refine bwp_cond true (by simp [ev, fget]) (fun _ => ?_) (fun h => nomatch h)
    refine bwp_skip ?_
    refine hK2 _ ?_; clear hK2
    refine bwp_seq fun K2 hK2 => ?_
    refine bwp_block ?_
    refine bwp_seq fun K hK => bwp_region rfl ?_
    simp -implicitDefEqProofs only [go_sem, ↓reduceIte, hDe, hlt', Int.natCast_nonneg, Int.toNat_natCast, hcs, hdrop, Ins.cells, hl9]
    refine hK _ ?_; clear hK
    have bad : ∀ (t : Fr) (m : Mem) (n : Nat) (R : St → Prop), fget t 29 = .d (.bool true) → jumpBadAt l i = true → BWP Tryz.prog (mbound []) 31 (.cond (.t 29) (.seq (.region false [⟨(some 2), .mv (.c (.d (.bool false))), none⟩] []) .ret) .skip) ⟨t, m, n⟩ (Exit.inBlockA 1 (Exit.thenA K2 (Exit.thenA R (Exit.inBlockA 0 (Exit.thenA K1 (AEnd Tryz.prog #[.tmp 2] (mbound []) fun r m' => r = .d (.bool (jumpsB l)) ∧ m' = [])))))) := by
      intro t m n R h29 hb
      refine bwp_cond true (by simp [ev, fget, h29]) (fun _ => ?_) (fun h => nomatch h)
      refine bwp_seq fun K hK => bwp_region (by simp [mbound]) ?_
      simp -implicitDefEqProofs only [go_sem, ↓reduceIte]
      refine hK _ ?_; clear hK
      refine bwp_ret ?_
      simp only [go_sem]
      refine aend_ret _ rfl rfl ⟨?_, rfl⟩
      have : (List.range l.length).any (jumpBadAt l) = true := List.any_eq_true.2 ⟨i, List.mem_range.2 hlt, hb⟩
      simp [fget, jumpsB, this]
    have good : ∀ (t : Fr) (m : Mem) (n : Nat) (Q' : Exit → St → Prop), fget t 29 = .d (.bool false) → fget t 7 = .d (.int .i64 i) → fget t 5 = .d X → fget t 6 = .d (.int .i64 l.length) → fget t 0 = .d X → fget t 2 = .d (.bool false) → jumpBadAt l i = false →
        (∀ S, K2 S → Q' .normal S) → BWP Tryz.prog (mbound []) 31 (.cond (.t 29) (.seq (.region false [⟨(some 2), .mv (.c (.d (.bool false))), none⟩] []) .ret) .skip) ⟨t, m, n⟩ Q' := by
      intro t m n Q' h29 h7 h5 h6 h0 h2 hb hQ'
      refine bwp_cond false (by simp [ev, fget, h29]) (fun h => nomatch h) (fun _ => ?_)
      refine bwp_skip ?_
      refine hQ' _ ?_
      refine hK2 _ ?_; clear hK2
      refine bwp_region (by simp [mbound]) ?_
      simp -implicitDefEqProofs only [go_sem, ↓reduceIte, h7, hw]
      refine ⟨hlt, fun j hj => ?_, Leads.ent [] ⟨by simp [jpS, entT, fget, AV.ren, pget, h5, h6, h0, h2], by simp [jpS, entM], rfl, rfl⟩⟩
      by_cases hji : j = i
      · subst hji; exact hb
      · exact hp j (by omega)
    by_cases g1 : x.kind = 6
    · by_cases g2 : x.n < 1
      · refine bwp_seq fun K hK => bwp_region rfl ?_
        simp -implicitDefEqProofs only [go_sem, ↓reduceIte, g1, g2]
        refine hK _ ?_; clear hK
        exact bad _ _ _ _ rfl (by rw [hat]; simp [g1, g2])
      · by_cases g3 : (l.length : Int) - i - 1 < x.n
        · refine bwp_seq fun K hK => bwp_region rfl ?_
          simp -implicitDefEqProofs only [go_sem, ↓reduceIte, g1, g2, hlen, hw1, hw2, g3]
          refine hK _ ?_; clear hK
          exact bad _ _ _ _ rfl (by rw [hat]; simp [g1, g3])
        · refine bwp_seq fun K hK => bwp_region rfl ?_
          simp -implicitDefEqProofs only [go_sem, ↓reduceIte, g1, g2, hlen, hw1, hw2, g3]
          refine hK _ ?_; clear hK
          exact good _ _ _ _ rfl rfl (by simp [fget, hDe]) rfl (by simp [fget, hDe]) rfl (by rw [hat]; simp [g2, g3]) (fun S h => h)
    · refine bwp_seq fun K hK => bwp_region rfl ?_
      simp -implicitDefEqProofs only [go_sem, ↓reduceIte, g1]
      refine hK _ ?_; clear hK
      exact good _ _ _ _ rfl rfl (by simp [fget, hDe]) rfl (by simp [fget, hDe]) rfl (by rw [hat]; simp [g1]) (fun S h => h)
  · have hlt' : ¬ (i : Int) < l.length := by omega
    unfold jpS
    refine bwp_seq fun K hK => bwp_region rfl ?_
    simp -implicitDefEqProofs only [go_sem, ↓reduceIte, hlt']
    refine hK _ ?_; clear hK
    refine bwp_seq fun K2 hK2 => ?_
    refine bwp_cond false (by simp [ev, fget]) (fun h => nomatch h) (fun _ => ?_)
    refine bwp_exit ?_
    simp -implicitDefEqProofs only [go_sem, ↓reduceIte]
    refine hK1 _ ?_; clear hK1
    refine bwp_seq fun K hK => bwp_region rfl ?_
    simp -implicitDefEqProofs only [go_sem, ↓reduceIte]
    refine hK _ ?_; clear hK
    refine bwp_ret ?_
    simp only [go_sem]
    refine aend_ret _ rfl rfl ⟨?_, rfl⟩
    have : (List.range l.length).any (jumpBadAt l) = false := by
      rw [List.any_eq_false]
      intro j hj
      rw [hp j (by have := List.mem_range.1 hj; omega)]
      decide
    simp [fget, jumpsB, this]
end Go.Proofs.YtpfbljkfbjjlkaaGreatDoor

/- Whether a test is small enough, without a heap. -/
namespace Go.Proofs.YtpfbljkfbjjlkaaGreatDoor
open Go Go.Jq
set_option maxRecDepth 100000
set_option linter.unusedSimpArgs false
theorem badJumps_pure {l : List Ins} {X : DV} (hX : IsSl Ins.cells l X) : Pure Tryz.prog 52 [.d X] (.d (.bool (!jumpsB l))) := by
  refine acalls_of Tryz.func52 ac52_ok Tryz.ntmps52 Tryz.results52 rfl ?_
  unfold ac52
  refine bwp_seq fun K hK => bwp_region rfl ?_
  simp -implicitDefEqProofs only [go_sem, ↓reduceIte]
  refine hK _ ?_; clear hK
  refine bwp_seq fun K hK => bwp_region rfl ?_
  simp -implicitDefEqProofs only [go_sem, ↓reduceIte]
  refine callK_pure (jumps_pure hX) rfl rfl ?_
  simp -implicitDefEqProofs only [go_sem, ↓reduceIte]
  refine hK _ ?_; clear hK
  refine bwp_ret ?_
  simp only [go_sem]
  refine aend_ret _ rfl rfl ⟨?_, rfl⟩
  rfl
def farB (n : Nat) (a : Atom) : Bool := !decide (a.thread = -1) && decide ((n : Int) ≤ a.thread)
theorem far_pure {t : Test} {cs : List DV} (hT : IsTest t cs) (a : Atom) : Pure Tryz.prog 55 [.agg (a.cells.map .d), .dptr cs] (.d (.bool (farB t.threads.length a))) := by
  obtain ⟨I, T, A, rfl, hI, hTh, hA⟩ := hT
  have hTl := hTh.len
  refine acalls_of Tryz.func55 ac55_ok Tryz.ntmps55 Tryz.results55 rfl ?_
  unfold ac55
  refine bwp_seq fun K hK => bwp_region rfl ?_
  simp -implicitDefEqProofs only [go_sem, ↓reduceIte, Atom.cells]
  refine hK _ ?_; clear hK
  by_cases h : a.thread = -1
  · refine bwp_seq fun K hK => bwp_region rfl ?_
    simp -implicitDefEqProofs only [go_sem, ↓reduceIte, h]
    refine hK _ ?_; clear hK
    refine bwp_ret ?_
    simp only [go_sem]
    refine aend_ret _ rfl rfl ⟨?_, rfl⟩
    simp [fget, farB, h]
  · refine bwp_seq fun K hK => bwp_region rfl ?_
    simp -implicitDefEqProofs only [go_sem, ↓reduceIte, h, hTl]
    refine hK _ ?_; clear hK
    refine bwp_ret ?_
    simp only [go_sem]
    refine aend_ret _ rfl rfl ⟨?_, rfl⟩
    simp [fget, farB, h]
def checkW (t : Test) : Int :=
  if okB t = false then 1 else if bigB t = true then 8 else if twiceB t.inits = true then 9 else if t.threads.any (fun l => !jumpsB l) = true then 10
  else if t.rows.any (fun l => l.any (farB t.threads.length)) = true then 10 else 0
def ckS (cs : List DV) (A : DV) (n j : Nat) : St := ⟨[(24, .d (.int .i64 j)), (22, .d A), (23, .d (.int .i64 n)), (1, .dptr cs), (2, .d (.int .i64 0))], [], 0⟩
theorem okB_inits {t : Test} (h : okB t = true) : ∀ x ∈ t.inits, 97 ≤ x.loc ∧ x.loc ≤ 122 := by
  intro x hx
  simp only [okB, Bool.and_eq_true, Bool.not_eq_true', badInitB, List.any_eq_false, Bool.not_eq_true] at h
  have := h.1.1.2 x hx
  exact (isLocB_iff x.loc).1 (by simpa using this)
theorem check_pure {t : Test} {cs : List DV} (hT : IsTest t cs) (hn : t.name.length ≤ 9223372036854775807) (hbig : t.threads.length ≤ 1000000) : Pure Tryz.prog 14 [.agg (cs.map .d)] (.d (.int .i64 (checkW t))) := by
  have hT0 := hT
  obtain ⟨I, T, A, rfl, hI, hTh, hA⟩ := hT
  have hAl := hA.len
  have hAb := hA.big
  refine acalls_of Tryz.func14 ac14_ok Tryz.ntmps14 Tryz.results14 rfl ?_
  unfold ac14
  refine bwp_seq fun K hK => bwp_region rfl ?_
  simp -implicitDefEqProofs only [go_sem, ↓reduceIte]
  refine hK _ ?_; clear hK
  refine bwp_leads (S' := ⟨[(1, .dptr [.str t.name, I, T, .int .i64 t.kind, A]), (2, .d (.int .i64 0))], [], 0⟩) (Leads.frz [] [(0, [.str t.name, I, T, .int .i64 t.kind, A])] ⟨?_, ?_, rfl, rfl, ?_⟩) ?_
  · simp [frzT, fget, AV.cv, cvL, zget, pget]
  · simp [frzM, pinv, zget, mget, cvL, AV.cv]
  · simp [zokFrom, mget, cvL, AV.cv]
  refine bwp_seq fun K1 hK1 => ?_
  refine bwp_block ?_
  refine bwp_seq fun K hK => bwp_region rfl ?_
  simp -implicitDefEqProofs only [go_sem, ↓reduceIte]
  refine callK_pure (ok_pure hT0 hn) rfl rfl ?_
  simp -implicitDefEqProofs only [go_sem, ↓reduceIte]
  refine hK _ ?_; clear hK
  cases h1 : okB t
  · refine bwp_cond true (by simp [ev, fget]) (fun _ => ?_) (fun h => nomatch h)
    refine bwp_seq fun K hK => bwp_region rfl ?_
    simp -implicitDefEqProofs only [go_sem, ↓reduceIte]
    refine hK _ ?_; clear hK
    refine bwp_ret ?_
    simp only [go_sem]
    refine aend_ret _ rfl rfl ⟨?_, rfl⟩
    simp [fget, checkW, h1]
  refine bwp_cond false (by simp [ev, fget]) (fun h => nomatch h) (fun _ => ?_)
  refine bwp_seq fun K hK => bwp_region rfl ?_
  simp -implicitDefEqProofs only [go_sem, ↓reduceIte]
  refine callK_pure (big_pure hT0 hbig) rfl rfl ?_
  simp -implicitDefEqProofs only [go_sem, ↓reduceIte]
  refine hK _ ?_; clear hK
  cases h2 : bigB t
  case true =>
    refine bwp_cond true (by simp [ev, fget]) (fun _ => ?_) (fun h => nomatch h)
    refine bwp_seq fun K hK => bwp_region rfl ?_
    simp -implicitDefEqProofs only [go_sem, ↓reduceIte]
    refine hK _ ?_; clear hK
    refine bwp_ret ?_
    simp only [go_sem]
    refine aend_ret _ rfl rfl ⟨?_, rfl⟩
    simp [fget, checkW, h1, h2]
  refine bwp_cond false (by simp [ev, fget]) (fun h => nomatch h) (fun _ => ?_)
  refine bwp_seq fun K hK => bwp_region rfl ?_
  simp -implicitDefEqProofs only [go_sem, ↓reduceIte]
  refine callK_pure (twice_pure hI (okB_inits h1)) rfl rfl ?_
  simp -implicitDefEqProofs only [go_sem, ↓reduceIte]
  refine hK _ ?_; clear hK
  cases h3 : twiceB t.inits
  case true =>
    refine bwp_cond true (by simp [ev, fget]) (fun _ => ?_) (fun h => nomatch h)
    refine bwp_seq fun K hK => bwp_region rfl ?_
    simp -implicitDefEqProofs only [go_sem, ↓reduceIte]
    refine hK _ ?_; clear hK
    refine bwp_ret ?_
    simp only [go_sem]
    refine aend_ret _ rfl rfl ⟨?_, rfl⟩
    simp [fget, checkW, h1, h2, h3]
  refine bwp_cond false (by simp [ev, fget]) (fun h => nomatch h) (fun _ => ?_)
  refine bwp_seq fun K hK => bwp_region rfl ?_
  simp -implicitDefEqProofs only [go_sem, ↓reduceIte]
  refine callK_pure (anyThreads rfl rfl hTh (fun l => !jumpsB l) fun l _ d hd => badJumps_pure hd) rfl rfl ?_
  simp -implicitDefEqProofs only [go_sem, ↓reduceIte]
  refine hK _ ?_; clear hK
  cases h4 : t.threads.any (fun l => !jumpsB l)
  case true =>
    refine bwp_cond true (by simp [ev, fget]) (fun _ => ?_) (fun h => nomatch h)
    refine bwp_seq fun K hK => bwp_region rfl ?_
    simp -implicitDefEqProofs only [go_sem, ↓reduceIte]
    refine hK _ ?_; clear hK
    refine bwp_ret ?_
    simp only [go_sem]
    refine aend_ret _ rfl rfl ⟨?_, rfl⟩
    simp [fget, checkW, h1, h2, h3, h4]
  refine bwp_cond false (by simp [ev, fget]) (fun h => nomatch h) (fun _ => ?_)
  refine bwp_skip ?_
  simp -implicitDefEqProofs only [go_sem, ↓reduceIte]
  refine hK1 _ ?_; clear hK1
  refine bwp_seq fun K1 hK1 => ?_
  refine bwp_seq fun K2 hK2 => ?_
  refine bwp_region rfl ?_
  simp -implicitDefEqProofs only [go_sem, ↓reduceIte, hAl]
  refine hK2 _ ?_; clear hK2
  refine bwp_block ?_
  refine bwp_leads (S' := ckS [.str t.name, I, T, .int .i64 t.kind, A] A t.rows.length 0) (Leads.ent [] ⟨by simp [entT, fget, AV.ren, renL, pget, ckS], by simp [entM, pinv, mget, mset, renL, AV.ren, pget, renL_append, -List.map_map, ckS], rfl, rfl⟩) ?_
  refine bwp_countI (fun j => ckS [.str t.name, I, T, .int .i64 t.kind, A] A t.rows.length j) (fun j => ∀ l ∈ t.rows.take j, l.any (farB t.threads.length) = false) t.rows.length (by simp) ?_
  intro j hj hp
  unfold ac14L0
  by_cases hlt : j < t.rows.length
  · have hlt' : (j : Int) < t.rows.length := by omega
    obtain ⟨cs2, d, rest, hDe, hdr, hjc, hd⟩ := hA.at j hlt
    have hw : IntKind.i64.wrap ((j : Int) + 1) = ((j + 1 : Nat) : Int) := by rw [wrap_i64 (by omega) (by omega)]; rfl
    unfold ckS
    refine bwp_seq fun K hK => bwp_region rfl ?_
    simp -implicitDefEqProofs only [go_sem, ↓reduceIte, hlt']
    refine hK _ ?_; clear hK
    refine bwp_seq fun K2 hK2 => ?_
    refine bwp_cond true (by simp [ev, fget]) (fun _ => ?_) (fun h => nomatch h)
    refine bwp_skip ?_
    refine hK2 _ ?_; clear hK2
    refine bwp_seq fun K2 hK2 => ?_
    refine bwp_block ?_
    refine bwp_seq fun K hK => bwp_region rfl ?_
    simp -implicitDefEqProofs only [go_sem, ↓reduceIte, hDe, hlt', Int.natCast_nonneg, Int.toNat_natCast, Nat.mul_one, hjc, hdr]
    refine hK _ ?_; clear hK
    refine bwp_seq fun K hK => bwp_region rfl ?_
    simp -implicitDefEqProofs only [go_sem, ↓reduceIte]
    rw [← hDe]
    refine callK_pure (anyAtoms (caps := [.dptr [.str t.name, I, T, .int .i64 t.kind, A]]) rfl rfl hd (farB t.threads.length) fun a _ => far_pure hT0 a) rfl rfl ?_
    simp -implicitDefEqProofs only [go_sem, ↓reduceIte]
    refine hK _ ?_; clear hK
    cases h5 : t.rows[j].any (farB t.threads.length)
    · refine bwp_cond false (by simp [ev, fget]) (fun h => nomatch h) (fun _ => ?_)
      refine bwp_skip ?_
      simp -implicitDefEqProofs only [go_sem, ↓reduceIte]
      refine hK2 _ ?_; clear hK2
      refine bwp_region rfl ?_
      simp -implicitDefEqProofs only [go_sem, ↓reduceIte, hw]
      refine ⟨hlt, ?_, Leads.ent [] ⟨by simp [ckS, entT, fget, AV.ren, pget], by simp [ckS, entM], rfl, rfl⟩⟩
      intro l hl
      rw [List.take_add_one, List.getElem?_eq_getElem hlt, List.mem_append] at hl
      rcases hl with hl | hl
      · exact hp l hl
      · simp only [Option.toList_some, List.mem_singleton] at hl
        subst hl
        exact h5
    · refine bwp_cond true (by simp [ev, fget]) (fun _ => ?_) (fun h => nomatch h)
      refine bwp_seq fun K hK => bwp_region rfl ?_
      simp -implicitDefEqProofs only [go_sem, ↓reduceIte]
      refine hK _ ?_; clear hK
      refine bwp_ret ?_
      simp only [go_sem]
      refine aend_ret _ rfl rfl ⟨?_, rfl⟩
      have : t.rows.any (fun l => l.any (farB t.threads.length)) = true := List.any_eq_true.2 ⟨_, List.getElem_mem hlt, h5⟩
      simp [fget, checkW, h1, h2, h3, h4, this]
  · have hlt' : ¬ (j : Int) < t.rows.length := by omega
    have hin : j = t.rows.length := by omega
    subst hin
    rw [List.take_of_length_le (Nat.le_refl _)] at hp
    unfold ckS
    refine bwp_seq fun K hK => bwp_region rfl ?_
    simp -implicitDefEqProofs only [go_sem, ↓reduceIte, hlt']
    refine hK _ ?_; clear hK
    refine bwp_seq fun K2 hK2 => ?_
    refine bwp_cond false (by simp [ev, fget]) (fun h => nomatch h) (fun _ => ?_)
    refine bwp_exit ?_
    simp -implicitDefEqProofs only [go_sem, ↓reduceIte]
    refine hK1 _ ?_; clear hK1
    refine bwp_seq fun K hK => bwp_region rfl ?_
    simp -implicitDefEqProofs only [go_sem, ↓reduceIte]
    refine hK _ ?_; clear hK
    refine bwp_ret ?_
    simp only [go_sem]
    refine aend_ret _ rfl rfl ⟨?_, rfl⟩
    have : t.rows.any (fun l => l.any (farB t.threads.length)) = false := by
      rw [List.any_eq_false]
      intro l hl
      rw [hp l hl]
      decide
    simp [fget, checkW, h1, h2, h3, h4, this]
theorem isTest_nil (n : List UInt8) : IsTest ⟨n, [], [], 0, []⟩ [.str n, .nsl, .nsl, .int .i64 0, .nsl] :=
  ⟨.nsl, .nsl, .nsl, rfl, ⟨by simp, .inl ⟨rfl, rfl⟩⟩, ⟨[], ⟨by simp, .inl ⟨rfl, rfl⟩⟩, trivial⟩, ⟨[], ⟨by simp, .inl ⟨rfl, rfl⟩⟩, trivial⟩⟩
theorem awake5_pure : Pure Tryz.prog 15 [] (.d (.bool true)) := by
  refine acalls_of Tryz.func15 ac15_ok Tryz.ntmps15 Tryz.results15 rfl ?_
  unfold ac15
  refine bwp_seq fun K hK => bwp_region rfl ?_
  simp -implicitDefEqProofs only [go_sem, ↓reduceIte]
  refine hK _ ?_; clear hK
  refine bwp_seq fun K hK => bwp_region rfl ?_
  simp -implicitDefEqProofs only [go_sem, ↓reduceIte]
  refine hK _ ?_; clear hK
  refine bwp_seq fun K hK => bwp_region rfl ?_
  simp -implicitDefEqProofs only [go_sem, ↓reduceIte]
  have hT : IsTest ⟨[97], [⟨121, 0⟩, ⟨120, 0⟩], [], 0, []⟩ [.str [97], .sl 2 [.int .i64 121, .int .i64 0, .int .i64 120, .int .i64 0], .nsl, .int .i64 0, .nsl] :=
    ⟨_, .nsl, .nsl, rfl, ⟨by simp, .inr rfl⟩, ⟨[], ⟨by simp, .inl ⟨rfl, rfl⟩⟩, trivial⟩, ⟨[], ⟨by simp, .inl ⟨rfl, rfl⟩⟩, trivial⟩⟩
  have hl : wellLocs ⟨[97], [⟨121, 0⟩, ⟨120, 0⟩], [], 0, []⟩ = [120, 121] := by decide +kernel
  have hc1 : checkW ⟨[97], [], [], 0, []⟩ = 8 := by decide +kernel
  have hc2 : checkW ⟨[], [], [], 0, []⟩ = 1 := by decide +kernel
  have hl8 : (bytesD [120, 121]) = .sl 2 [.int .u8 120, .int .u8 121] := rfl
  have hcb : cellBytes [.d (.int .u8 120), .d (.int .u8 121)] = some [120, 121] := rfl
  refine callK_give [(1, [.int .i64 121, .int .i64 0, .int .i64 120, .int .i64 0])] _ (wellLocs_pure hT) ?_ ?_ (fun v h => by subst h; rfl) ?_
  · simp [zokFrom, mget, cvL, AV.cv]
  · simp [cvL, AV.cv, zget]
  rintro v rfl
  rw [hl, hl8]
  simp -implicitDefEqProofs only [go_sem, ↓reduceIte, delZ, mdel]
  refine hK _ ?_; clear hK
  refine bwp_seq fun K hK => bwp_region rfl ?_
  simp -implicitDefEqProofs only [go_sem, ↓reduceIte]
  refine callK_pure (check_pure (isTest_nil [97]) (by simp) (by simp)) rfl rfl ?_
  rw [hc1]
  simp -implicitDefEqProofs only [go_sem, ↓reduceIte, hcb]
  refine callK_pure (check_pure (isTest_nil []) (by simp) (by simp)) rfl rfl ?_
  rw [hc2]
  simp -implicitDefEqProofs only [go_sem, ↓reduceIte]
  refine hK _ ?_; clear hK
  refine bwp_ret ?_
  simp only [go_sem]
  refine aend_ret _ rfl rfl ⟨?_, rfl⟩
  rfl
end Go.Proofs.YtpfbljkfbjjlkaaGreatDoor

/- A parser's error has a code that is not nought. -/
namespace Go.Proofs.YtpfbljkfbjjlkaaGreatDoor
open Go Go.Jq
set_option maxRecDepth 100000
set_option linter.unusedSimpArgs false
def PT.Adv {α : Type} (t : PT α) : Prop := ∀ (s : List UInt8) (a : Nat) (x : α) (b : Nat), a ≤ s.length → (nextW s a).2.2 = 0 → t.run s a = .ok (x, b) → a < b
theorem PT.run_clean {α : Type} {s : List UInt8} (t : PT α) : ∀ {a : Nat} {x : α} {b : Nat}, (nextW s a).2.2 = 0 → t.run s a = .ok (x, b) → (nextW s b).2.2 = 0 := by
  induction t with
  | ret x => intro a y b h0 h; simp only [run, Except.ok.injEq, Prod.mk.injEq] at h; obtain ⟨_, rfl⟩ := h; exact h0
  | bad c => intro a y b h0 h; cases h
  | cur k ih => intro a y b h0 h; exact ih _ _ h0 h
  | eat k ih =>
    intro a y b h0 h
    simp only [run] at h
    split at h
    · rename_i b' hb
      exact ih (eatW_ok hb).2 h
    · cases h
theorem adv_l {α β : Type} {t : PT α} {f : α → PT β} (h : t.Adv) : (t.bind f).Adv := by
  intro s a y b ha h0 hr
  rw [PT.run_bind] at hr
  cases ht : t.run s a with
  | error e => rw [ht] at hr; cases hr
  | ok p =>
    obtain ⟨x, c⟩ := p
    rw [ht] at hr
    have h1 := h s a x c ha h0 ht
    have h2 := t.run_le ha ht
    have h3 := (f x).run_le h2.2 hr
    omega
theorem adv_r {α β : Type} {t : PT α} {f : α → PT β} (h : ∀ x, (f x).Adv) : (t.bind f).Adv := by
  intro s a y b ha h0 hr
  rw [PT.run_bind] at hr
  cases ht : t.run s a with
  | error e => rw [ht] at hr; cases hr
  | ok p =>
    obtain ⟨x, c⟩ := p
    rw [ht] at hr
    have h2 := t.run_le ha ht
    have h1 := h x s c y b h2.2 (t.run_clean h0 ht) hr
    omega
theorem adv_must (x : List UInt8) : (tMust x).Adv := by
  intro s a y b ha h0 hr
  unfold tMust at hr
  rw [PT.run] at hr
  split at hr
  · rename_i hk
    have h4 : (nextW s a).1.kd ≠ 4 := by
      unfold isK curT at hk
      simp only [Bool.and_eq_true, Bool.or_eq_true, decide_eq_true_eq] at hk
      omega
    have h1 := (nextW_to ha).2.2 h0 h4
    simp only [PT.run] at hr
    split at hr
    · rename_i c hc
      simp only [Except.ok.injEq, Prod.mk.injEq] at hr
      have := (eatW_ok hc).1
      omega
    · cases hr
  · cases hr
def PT.NzF {α : Type} (t : PT α) (f : Nat) : Prop := ∀ (s : List UInt8) (a : Nat) (e : PE), a ≤ s.length → s.length - a < f → (nextW s a).2.2 = 0 → t.run s a = .error e → e.1 ≠ 0
theorem nz_ret {α : Type} {x : α} {f : Nat} : (PT.ret x).NzF f := fun _ _ _ _ _ _ h => by cases h
theorem nz_bad {α : Type} {c : Int} {f : Nat} (hc : c ≠ 0) : (PT.bad c : PT α).NzF f := fun s a e _ _ _ h => by
  simp only [PT.run, Except.error.injEq] at h
  rw [← h]; exact hc
theorem nz_cur {α : Type} {k : Int → List UInt8 → PT α} {f : Nat} (h : ∀ d y, (k d y).NzF f) : (PT.cur k).NzF f := fun s a e ha hf h0 hr => h _ _ s a e ha hf h0 hr
theorem nz_eat {α : Type} {k : PT α} {f : Nat} (h : k.NzF f) : (PT.eat k).NzF f := by
  intro s a e ha hf h0 hr
  simp only [PT.run] at hr
  have h1 := nextW_to ha
  split at hr
  · rename_i b hb
    obtain ⟨rfl, h2⟩ := eatW_ok hb
    exact h s _ e h1.2.1 (by omega) h2 hr
  · rename_i e' he
    obtain ⟨c, p⟩ := e'
    cases hr
    unfold eatW at he
    exact (goW_err he).2.1
theorem nz_bind {α β : Type} {t : PT α} {g : α → PT β} {f : Nat} (h : t.NzF f) (h' : ∀ x, (g x).NzF f) : (t.bind g).NzF f := by
  intro s a e ha hf h0 hr
  rw [PT.run_bind] at hr
  cases ht : t.run s a with
  | error e' =>
    rw [ht] at hr
    cases hr
    exact h s a _ ha hf h0 ht
  | ok p =>
    obtain ⟨x, c⟩ := p
    rw [ht] at hr
    have h2 := t.run_le ha ht
    exact h' x s c e h2.2 (by omega) (t.run_clean h0 ht) hr
theorem nz_bindA {α β : Type} {t : PT α} {g : α → PT β} {f : Nat} (h : t.NzF (f + 1)) (hA : t.Adv) (h' : ∀ x, (g x).NzF f) : (t.bind g).NzF (f + 1) := by
  intro s a e ha hf h0 hr
  rw [PT.run_bind] at hr
  cases ht : t.run s a with
  | error e' =>
    rw [ht] at hr
    cases hr
    exact h s a _ ha hf h0 ht
  | ok p =>
    obtain ⟨x, c⟩ := p
    rw [ht] at hr
    have h2 := t.run_le ha ht
    have h3 := hA s a x c ha h0 ht
    exact h' x s c e h2.2 (by omega) (t.run_clean h0 ht) hr
theorem nz_take {α : Type} {x : List UInt8} {yes no : PT α} {f : Nat} (h : yes.NzF f) (h' : no.NzF f) : (tTake x yes no).NzF f := by
  refine nz_cur fun d y => ?_
  split
  · exact nz_eat h
  · exact h'
theorem nz_must (x : List UInt8) (f : Nat) : (tMust x).NzF f := nz_cur fun d y => by
  split
  · exact nz_eat nz_ret
  · exact nz_bad (by decide)
theorem nz_word (f : Nat) : tWord.NzF f := nz_cur fun d y => by
  split
  · exact nz_eat nz_ret
  · exact nz_bad (by decide)
theorem nz_num (f : Nat) : tNum.NzF f := nz_cur fun d y => by
  split
  · exact nz_eat nz_ret
  · exact nz_bad (by decide)
theorem nz_named (g : List UInt8 → Option Int) (f : Nat) : (tNamed g).NzF f := nz_cur fun d y => by
  split
  · split
    · exact nz_eat nz_ret
    · exact nz_bad (by decide)
  · exact nz_bad (by decide)
theorem nz_opd (f : Nat) : tOpd.NzF f := nz_cur fun d y => by
  split
  · exact nz_bind (nz_num f) fun _ => nz_ret
  · exact nz_bind (nz_named _ f) fun _ => nz_ret
theorem nz_right (r : Int) (f : Nat) : (tRight r).NzF f := by
  refine nz_take (nz_bind (nz_named _ f) fun _ => nz_ret) (nz_take (nz_bind (nz_named _ f) fun _ => nz_bind (nz_opd f) fun _ => nz_bind (nz_opd f) fun _ => nz_ret) ?_)
  refine nz_bind (nz_opd f) fun x => nz_cur fun d y => ?_
  split
  · exact nz_eat (nz_bind (nz_opd f) fun _ => nz_ret)
  · exact nz_ret
theorem nz_ins (f : Nat) : tIns.NzF f := by
  refine nz_take (nz_bind (nz_named _ f) fun _ => nz_bind (nz_opd f) fun _ => nz_ret) (nz_take nz_ret (nz_take ?_ (nz_bind (nz_named _ f) fun _ => nz_bind (nz_must _ f) fun _ => nz_right _ f)))
  refine nz_cur fun d y => ?_
  split
  · exact nz_bad (by decide)
  · exact nz_bind (nz_num f) fun _ => nz_bind (nz_must _ f) fun _ => nz_bind (nz_opd f) fun _ => nz_bind (nz_must _ f) fun _ => nz_bind (nz_opd f) fun _ => nz_ret
theorem nz_insE (f : Nat) : tInsE.NzF f := nz_bind (nz_ins f) fun _ => nz_bind (nz_must _ f) fun _ => nz_ret
theorem adv_insE : tInsE.Adv := adv_r fun _ => adv_l (adv_must _)
theorem nz_init (f : Nat) : tInit.NzF f := nz_bind (nz_named _ f) fun _ => nz_bind (nz_must _ f) fun _ => nz_bind (nz_num f) fun _ => nz_bind (nz_must _ f) fun _ => nz_ret
theorem adv_init : tInit.Adv := adv_r fun _ => adv_l (adv_must _)
theorem nz_who (f : Nat) : tWho.NzF f := nz_cur fun d y => by
  split
  · split
    · exact nz_bad (by decide)
    · exact nz_eat (nz_bind (nz_must _ f) fun _ => nz_bind (nz_named _ f) fun _ => nz_ret)
  · exact nz_bind (nz_named _ f) fun _ => nz_ret
theorem nz_atom (f : Nat) : tAtom.NzF f := nz_bind (nz_who f) fun _ => nz_bind (nz_must _ f) fun _ => nz_bind (nz_num f) fun _ => nz_ret
theorem adv_atom : tAtom.Adv := adv_r fun _ => adv_l (adv_must _)
theorem nz_many {α : Type} {one : PT α} (hA : one.Adv) (h : ∀ f, one.NzF f) : ∀ f, (tMany one f).NzF f
  | 0 => fun _ _ _ _ hf => by omega
  | f + 1 => nz_take nz_ret (nz_bindA (h _) hA fun _ => nz_bind (nz_many hA h f) fun _ => nz_ret)
theorem nz_mono {α : Type} {t : PT α} {f g : Nat} (h : t.NzF g) (hfg : f ≤ g) : t.NzF f := fun s a e ha hf h0 hr => h s a e ha (by omega) h0 hr
theorem nz_thread {f : Nat} (hf : f ≤ fuelP) : tThread.NzF f := nz_bind (nz_must _ f) fun _ => nz_mono (nz_many adv_insE nz_insE fuelP) hf
theorem adv_thread : tThread.Adv := adv_l (adv_must _)
theorem nz_threads : ∀ f, f ≤ fuelP → (tThreads f).NzF f
  | 0, _ => fun _ _ _ _ hf => by omega
  | f + 1, hf => nz_take (nz_bindA (nz_thread hf) adv_thread fun _ => nz_bind (nz_threads f (by omega)) fun _ => nz_ret) nz_ret
theorem nz_row : ∀ f, (tRow f).NzF f
  | 0 => fun _ _ _ _ hf => by omega
  | f + 1 => nz_take (nz_bindA (nz_atom _) adv_atom fun _ => nz_bind (nz_row f) fun _ => nz_ret) nz_ret
theorem nz_rows : ∀ f, f ≤ fuelP → (tRows f).NzF f
  | 0, _ => fun _ _ _ _ hf => by omega
  | f + 1, hf => nz_bindA (nz_atom _) adv_atom fun _ => nz_bind (nz_mono (nz_row fuelP) (by omega)) fun _ => nz_take (nz_bind (nz_rows f (by omega)) fun _ => nz_ret) nz_ret
theorem nz_cond : tCond.NzF fuelP :=
  have ask : ∀ k, (tAsk k).NzF fuelP := fun k => nz_bind (nz_rows fuelP (Nat.le_refl _)) fun _ => nz_bind (nz_must _ _) fun _ => nz_ret
  nz_take (ask 1) (nz_take (ask 2) nz_ret)
theorem nz_test : tTest.NzF fuelP := by
  refine nz_bind (nz_must _ _) fun _ => nz_bind (nz_word _) fun _ => nz_bind (nz_must _ _) fun _ => nz_bind (nz_take (nz_bind (nz_must _ _) fun _ => nz_many adv_init nz_init fuelP) nz_ret) fun _ => ?_
  refine nz_bind (nz_threads fuelP (Nat.le_refl _)) fun _ => nz_bind nz_cond fun _ => nz_bind (nz_must _ _) fun _ => nz_cur fun d y => ?_
  split
  · exact nz_ret
  · exact nz_bad (by decide)
theorem pTest_code0 {s : List UInt8} {c : Int} {p : Nat} (h : pTest s = .error (c, p)) : c ≠ 0 := by
  unfold pTest at h
  split at h
  · cases h; decide
  · rename_i hs
    split at h
    · rename_i a ha
      obtain ⟨rfl, h0⟩ := goW_ok ha
      split at h
      · cases h
      · rename_i e he
        cases h
        exact nz_test s 0 _ (Nat.zero_le _) (by unfold fuelP; omega) h0 he
    · rename_i e he
      cases h
      exact (goW_err he).2.1
end Go.Proofs.YtpfbljkfbjjlkaaGreatDoor

/- A text's test that is small enough. -/
namespace Go.Proofs.YtpfbljkfbjjlkaaGreatDoor
open Go Go.Jq
set_option maxRecDepth 100000
set_option linter.unusedSimpArgs false
def readR (s : List UInt8) : PR Test := match pTest s with
  | .ok t => if checkW t = 0 then .ok t else .error (checkW t, 0)
  | .error e => .error e
theorem checkTest_pure {s : List UInt8} {t : Test} (h : pTest s = .ok t) : Pure Tryz.prog 14 [.agg ((testD t).map .d)] (.d (.int .i64 (checkW t))) := by
  have hp := pTest_parsed h
  have ht := hp.lens.threads
  have hn := hp.name
  unfold fuelP at ht
  exact check_pure hp.lens.isTest (by omega) (by omega)
set_option maxHeartbeats 4000000 in
theorem wellRead_pure {s : List UInt8} (hs : s.length ≤ maxLen) : Pure Tryz.prog 13 [.d (.str s)] (.tup [.agg ((pCells (readR s)).map .d), .agg [.d (.int .i64 (pCode (readR s))), .d (.int .i64 (pAt (readR s)))]]) := by
  have k1 := parse2_pure hs
  refine acalls_of Tryz.func13 ac13_ok Tryz.ntmps13 Tryz.results13 rfl ?_
  unfold ac13
  refine bwp_seq fun K hK => bwp_region rfl ?_
  simp -implicitDefEqProofs only [go_sem, ↓reduceIte]
  refine hK _ ?_; clear hK
  cases hp : pTest s with
  | error e =>
    obtain ⟨c, p⟩ := e
    have hc0 : ¬ c = 0 := pTest_code0 hp
    have hr : readR s = .error (c, p) := by unfold readR; rw [hp]
    rw [hr]
    rw [hp] at k1
    simp only [pCells, pCode, pAt, testD0, List.map_cons, List.map_nil] at k1 ⊢
    refine bwp_seq fun K hK => bwp_region rfl ?_
    simp -implicitDefEqProofs only [go_sem, ↓reduceIte]
    repeat' (first
      | (refine gateK_split (fun hb => ?_) (fun hb => ?_) <;> simp -implicitDefEqProofs only [go_sem, ↓reduceIte, hb])
      | (refine dGateK_split (fun hb => ?_) (fun hb => ?_) <;> simp -implicitDefEqProofs only [go_sem, ↓reduceIte, hb])
      | (refine callK_pure (k1) rfl rfl ?_; simp -implicitDefEqProofs only [go_sem, ↓reduceIte])
      | (refine dCallK_pure (k1) rfl rfl ?_; simp -implicitDefEqProofs only [go_sem, ↓reduceIte])
      | (rw [if_pos (by (try simp only [List.length_append, List.length_cons, List.length_nil, List.length_map]); omega)]; simp -implicitDefEqProofs only [go_sem, ↓reduceIte]))
    refine hK _ ?_; clear hK
    refine bwp_seq fun K1 hK1 => ?_
    refine bwp_seq fun K hK => bwp_region rfl ?_
    simp -implicitDefEqProofs only [go_sem, ↓reduceIte, eq_false hc0, decide_false, Bool.not_false]
    refine hK _ ?_; clear hK
    refine bwp_cond true (by simp [ev, fget]) (fun _ => ?_) (fun h => nomatch h)
    refine bwp_seq fun K hK => bwp_region_draw rfl rfl ?_
    simp -implicitDefEqProofs only [go_sem, ↓reduceIte]
    refine ⟨rfl, hK _ ?_⟩; clear hK
    refine bwp_ret ?_
    simp only [go_sem]
    refine aend_ret _ rfl rfl ⟨?_, rfl⟩
    simp [fget]
    exact ⟨rfl, rfl⟩
  | ok t =>
    obtain ⟨rr, hrr⟩ : ∃ rr, readR s = rr := ⟨_, rfl⟩
    rw [hrr]
    have k2 := checkTest_pure hp
    rw [hp] at k1
    simp only [pCells, pCode, pAt, testD, List.map_cons, List.map_nil] at k1 k2
    refine bwp_seq fun K hK => bwp_region rfl ?_
    simp -implicitDefEqProofs only [go_sem, ↓reduceIte]
    repeat' (first
      | (refine gateK_split (fun hb => ?_) (fun hb => ?_) <;> simp -implicitDefEqProofs only [go_sem, ↓reduceIte, hb])
      | (refine dGateK_split (fun hb => ?_) (fun hb => ?_) <;> simp -implicitDefEqProofs only [go_sem, ↓reduceIte, hb])
      | (refine callK_pure (k1) rfl rfl ?_; simp -implicitDefEqProofs only [go_sem, ↓reduceIte])
      | (refine dCallK_pure (k1) rfl rfl ?_; simp -implicitDefEqProofs only [go_sem, ↓reduceIte])
      | (rw [if_pos (by (try simp only [List.length_append, List.length_cons, List.length_nil, List.length_map]); omega)]; simp -implicitDefEqProofs only [go_sem, ↓reduceIte]))
    refine hK _ ?_; clear hK
    refine bwp_seq fun K1 hK1 => ?_
    refine bwp_seq fun K hK => bwp_region rfl ?_
    simp -implicitDefEqProofs only [go_sem, ↓reduceIte]
    refine hK _ ?_; clear hK
    refine bwp_cond false (by simp [ev, fget]) (fun h => nomatch h) (fun _ => ?_)
    refine bwp_skip ?_
    refine hK1 _ ?_; clear hK1
    refine bwp_seq fun K1 hK1 => ?_
    refine bwp_seq fun K hK => bwp_region rfl ?_
    simp -implicitDefEqProofs only [go_sem, ↓reduceIte]
    repeat' (first
      | (refine gateK_split (fun hb => ?_) (fun hb => ?_) <;> simp -implicitDefEqProofs only [go_sem, ↓reduceIte, hb])
      | (refine dGateK_split (fun hb => ?_) (fun hb => ?_) <;> simp -implicitDefEqProofs only [go_sem, ↓reduceIte, hb])
      | (refine callK_pure (k2) rfl rfl ?_; simp -implicitDefEqProofs only [go_sem, ↓reduceIte])
      | (refine dCallK_pure (k2) rfl rfl ?_; simp -implicitDefEqProofs only [go_sem, ↓reduceIte])
      | (rw [if_pos (by (try simp only [List.length_append, List.length_cons, List.length_nil, List.length_map]); omega)]; simp -implicitDefEqProofs only [go_sem, ↓reduceIte]))
    refine hK _ ?_; clear hK
    by_cases hc : checkW t = 0
    · obtain rfl : rr = .ok t := by rw [← hrr]; unfold readR; rw [hp]; simp only [hc, if_true]
      refine bwp_seq fun K hK => bwp_region rfl ?_
      simp -implicitDefEqProofs only [go_sem, ↓reduceIte, eq_true hc, decide_true, Bool.not_true]
      refine hK _ ?_; clear hK
      refine bwp_cond false (by simp [ev, fget]) (fun h => nomatch h) (fun _ => ?_)
      refine bwp_skip ?_
      refine hK1 _ ?_; clear hK1
      refine bwp_seq fun K hK => bwp_region rfl ?_
      simp -implicitDefEqProofs only [go_sem, ↓reduceIte]
      refine hK _ ?_; clear hK
      refine bwp_ret ?_
      simp only [go_sem]
      refine aend_ret _ rfl rfl ⟨?_, rfl⟩
      simp [fget, pCells, pCode, pAt, testD]
      exact ⟨rfl, rfl⟩
    · obtain rfl : rr = .error (checkW t, 0) := by rw [← hrr]; unfold readR; rw [hp]; simp only [hc, if_false]
      refine bwp_seq fun K hK => bwp_region rfl ?_
      simp -implicitDefEqProofs only [go_sem, ↓reduceIte, eq_false hc, decide_false, Bool.not_false]
      refine hK _ ?_; clear hK
      refine bwp_cond true (by simp [ev, fget]) (fun _ => ?_) (fun h => nomatch h)
      refine bwp_seq fun K hK => bwp_region rfl ?_
      simp -implicitDefEqProofs only [go_sem, ↓reduceIte]
      refine hK _ ?_; clear hK
      refine bwp_ret ?_
      simp only [go_sem]
      refine aend_ret _ rfl rfl ⟨?_, rfl⟩
      simp [fget, pCells, pCode, pAt, testD0]
      exact ⟨rfl, rfl⟩
end Go.Proofs.YtpfbljkfbjjlkaaGreatDoor

/- The test made of numbers is small enough: plain Lean, no program in sight. -/
namespace Go.Proofs.YtpfbljkfbjjlkaaGreatDoor
open Go Go.Jq
def allLocs (t : Test) : List Int := t.inits.map (·.loc) ++ ((t.threads.flatten).map (·.loc) ++ (t.rows.flatten).map (·.loc))
theorem foldl_flat {α β : Type} (f : β → α → β) : ∀ (ls : List (List α)) (b : β), ls.foldl (fun b l => l.foldl f b) b = ls.flatten.foldl f b
  | [], _ => rfl
  | l :: ls, b => by rw [List.foldl_cons, foldl_flat f ls, List.flatten_cons, List.foldl_append]
theorem foldl_map' {α β γ : Type} (f : β → γ → β) (g : α → γ) : ∀ (l : List α) (b : β), l.foldl (fun b x => f b (g x)) b = (l.map g).foldl f b
  | [], _ => rfl
  | a :: l, b => by rw [List.foldl_cons, foldl_map' f g l, List.map_cons, List.foldl_cons]
theorem maskT_eq (t : Test) : maskT t = (allLocs t).foldl addLoc 0 := by
  unfold maskT allLocs
  rw [foldl_flat (fun s (x : Atom) => addLoc s x.loc), foldl_flat (fun s (x : Ins) => addLoc s x.loc), foldl_map' addLoc Atom.loc, foldl_map' addLoc Ins.loc, foldl_map' addLoc Init.loc, List.foldl_append, List.foldl_append]
theorem addLocs_test (i : Nat) : ∀ (l : List Int) (s : Nat), (l.foldl addLoc s).testBit i = (s.testBit i || l.any fun x => isLocB x && decide ((x - 97).toNat = i))
  | [], s => by simp
  | a :: l, s => by
    rw [List.foldl_cons, addLocs_test i l, List.any_cons, ← Bool.or_assoc]
    congr 1
    unfold addLoc
    split
    · rename_i h; rw [addBit_test, h, Bool.true_and]
    · rename_i h
      have : isLocB a = false := by simpa using h
      simp [this]
theorem maskT_test (t : Test) (i : Nat) : (maskT t).testBit i = true ↔ ∃ x ∈ allLocs t, isLocB x = true ∧ (x - 97).toNat = i := by
  rw [maskT_eq, addLocs_test]
  simp
theorem wellLocs_few {t : Test} (h : ∀ x ∈ allLocs t, isLocB x = true → 119 ≤ x) : (wellLocs t).length ≤ 4 := by
  unfold wellLocs bitLets
  rw [List.length_map, ← List.countP_eq_length_filter]
  refine Nat.le_trans (List.countP_mono_left (q := fun c => decide (22 ≤ c)) fun c hc hb => ?_) (by decide)
  obtain ⟨x, hx, h1, h2⟩ := (maskT_test t c).1 hb
  have := h x hx h1
  simp only [decide_eq_true_eq]; omega
theorem JumpOk.bad {l : List Ins} (h : JumpOk l) : jumpsB l = true := by
  have : (List.range l.length).any (jumpBadAt l) = false := by
    rw [List.any_eq_false]
    intro i hi
    have hi' := List.mem_range.1 hi
    unfold jumpBadAt
    rw [List.getElem?_eq_getElem hi']
    simp only [Bool.and_eq_true, Bool.or_eq_true, decide_eq_true_eq, not_and, not_or]
    intro hk
    have := h i _ (List.getElem?_eq_getElem hi') hk
    omega
  simp [jumpsB, this]
theorem sumLen_le : ∀ (T : List (List Ins)), (∀ l ∈ T, l.length ≤ 6) → sumLen T ≤ 6 * T.length := by
  have : ∀ (T : List (List Ins)) (s : Nat), (∀ l ∈ T, l.length ≤ 6) → T.foldl (fun s x => s + x.length) s ≤ s + 6 * T.length := by
    intro T
    induction T with
    | nil => intro s _; simp
    | cons a T ih =>
      intro s h
      rw [List.foldl_cons, List.length_cons]
      have h1 := h a List.mem_cons_self
      have h2 := ih (s + a.length) fun l hl => h l (List.mem_cons_of_mem _ hl)
      omega
  intro T h
  have := this T 0 h
  unfold sumLen
  omega
theorem GoodTest.locs {t : Test} (h : GoodTest t) : ∀ x ∈ allLocs t, x = 0 ∨ (120 ≤ x ∧ x ≤ 122) := by
  intro x hx
  simp only [allLocs, List.mem_append, List.mem_map, List.mem_flatten] at hx
  rcases hx with ⟨i, hi, rfl⟩ | ⟨i, ⟨l, hl, hi⟩, rfl⟩ | ⟨a, ⟨l, hl, ha⟩, rfl⟩
  · rw [h.inits i hi]; decide
  · exact (h.threads l hl).loc i hi
  · rcases h.rloc l hl a ha with h | h
    · exact .inl h
    · rw [h]; decide
theorem GoodTest.few {t : Test} (h : GoodTest t) : (wellLocs t).length ≤ 4 :=
  wellLocs_few fun x hx hb => by
    have := h.locs x hx
    have := (isLocB_iff x).1 hb
    omega
theorem GoodTest.big {t : Test} (h : GoodTest t) (h4 : t.threads.length ≤ 4) : bigB t = decide (t.threads.length = 0) := by
  have e1 : t.threads.any (fun l => decide (10 < l.length)) = false := by
    rw [List.any_eq_false]
    intro l hl
    have := (h.threads l hl).len
    simp only [decide_eq_true_eq]; omega
  have e2 := sumLen_le t.threads fun l hl => (h.threads l hl).len
  have e3 := h.few
  have e4 : t.rows.any longB = false := by
    rw [List.any_eq_false]
    intro l hl
    have := h.row l hl
    simp only [longB, decide_eq_true_eq]; omega
  have e5 := h.rows
  have e6 := h.short
  have f1 : ¬ 4 < t.threads.length := by omega
  have f2 : ¬ 24 < sumLen t.threads := by omega
  have f3 : ¬ 4 < (wellLocs t).length := by omega
  have f4 : ¬ 8 < t.rows.length := by omega
  have f5 : ¬ 20 < t.name.length := by omega
  simp [bigB, e1, e4, f1, f2, f3, f4, f5]
theorem GoodTest.twice {t : Test} (h : GoodTest t) : twiceB t.inits = false := by
  have h1 := h.once
  unfold twiceB
  match t.inits, h1 with
  | [], _ => rfl
  | [a], _ => simp
theorem GoodTest.jumps {t : Test} (h : GoodTest t) : t.threads.any (fun l => !jumpsB l) = false := by
  rw [List.any_eq_false]
  intro l hl
  rw [(h.threads l hl).jump.bad]
  decide
theorem GoodTest.check {t : Test} (h : GoodTest t) (h4 : t.threads.length ≤ 4) :
    checkW t = if t.threads.length = 0 then 8 else if t.rows.any (fun l => l.any (farB t.threads.length)) = true then 10 else 0 := by
  unfold checkW
  rw [h.ok, h.big h4, h.twice, h.jumps]
  by_cases h0 : t.threads.length = 0
  · simp [h0]
  · simp [h0]
end Go.Proofs.YtpfbljkfbjjlkaaGreatDoor

/- How long a test's text may be, when its rows are as long as memory lets them be. -/
namespace Go.Proofs.YtpfbljkfbjjlkaaGreatDoor
open Go Go.Jq
set_option maxRecDepth 100000
set_option linter.unusedSimpArgs false
def FewC2 (rows : List (List Atom)) : Prop := rows.length ≤ 12 ∧ ∀ l ∈ rows, l.length ≤ 5000000000000 ∧ ∀ a ∈ l, I64a a
theorem FewC.two {rows : List (List Atom)} (h : FewC rows) : FewC2 rows := ⟨h.1, fun l hl => ⟨by have := (h.2 l hl).1; omega, (h.2 l hl).2⟩⟩
structure FewT2 (t : Test) : Prop where
  name : t.name.length ≤ 61
  inits : t.inits.length ≤ 41
  values : ∀ x ∈ t.inits, I64 x.value
  threads : t.threads.length ≤ 7
  ins : ∀ l ∈ t.threads, l.length ≤ 5000000000000 ∧ ∀ x ∈ l, I64i x
  rows : FewC2 t.rows
theorem FewT.two {t : Test} (h : FewT t) : FewT2 t := ⟨h.name, h.inits, h.values, h.threads, fun l hl => ⟨by have := (h.ins l hl).1; omega, (h.ins l hl).2⟩, h.rows.two⟩
theorem rowT_len2 {l : List Atom} (h : l.length ≤ 5000000000000 ∧ ∀ a ∈ l, I64a a) : (rowT l).length ≤ 350000000000000 := by
  have := join_len [32, 38, 32] (l.map atomT) 67 (fun s hs => by
    obtain ⟨a, ha, rfl⟩ := List.mem_map.1 hs
    exact atomT_len (h.2 a ha))
  rw [List.length_map] at this
  have h2 : l.length * 70 ≤ 5000000000000 * 70 := Nat.mul_le_mul_right _ h.1
  unfold rowT
  exact Nat.le_trans this h2
theorem rowsT_len2 {rows : List (List Atom)} (h : FewC2 rows) : (Lib.join (rows.map rowT) [32, 124, 32]).length ≤ 4200000000000036 := by
  have := join_len [32, 124, 32] (rows.map rowT) 350000000000000 (fun s hs => by
    obtain ⟨a, ha, rfl⟩ := List.mem_map.1 hs
    exact rowT_len2 (h.2 a ha))
  rw [List.length_map] at this
  have h2 : rows.length * 350000000000003 ≤ 12 * 350000000000003 := Nat.mul_le_mul_right _ h.1
  exact Nat.le_trans this h2
theorem condT_len2 {kind : Int} {rows : List (List Atom)} (h : FewC2 rows) : (condT kind rows).length ≤ 4200000000000045 := by
  have := rowsT_len2 h
  unfold condT wordT
  split
  · simp
  · split <;> simp <;> omega
theorem threadL_len2 {l : List Ins} (h : l.length ≤ 5000000000000) (hv : ∀ x ∈ l, I64i x) : (threadL l).length ≤ 775000000000011 := by
  have h1 := flat_len insL 155 l (fun x hx => insL_len (hv x hx))
  have h2 : l.length * 155 ≤ 5000000000000 * 155 := Nat.mul_le_mul_right _ h
  simp only [threadL, List.length_append, List.length_cons, List.length_nil]
  omega
end Go.Proofs.YtpfbljkfbjjlkaaGreatDoor

/- The abstract layer: what a row hands a law, told as data, with bounds for its slices at every depth. -/
namespace Go.Jq
open Go
mutual
def Sh.bytes : Sh → Nat
  | .int k => k.bits / 8
  | .bool => 1
  | .str => 16
  | .sl _ => 24
def bytesL : List Sh → Nat
  | [] => 0
  | s :: ss => s.bytes + bytesL ss
end
mutual
def FitsZ : Sh → DV → Prop
  | .int k, d => ∃ n, d = .int k n ∧ (Lit.int k n).wf = true
  | .bool, d => ∃ b, d = .bool b
  | .str, d => ∃ s : List UInt8, d = .str s ∧ s.length ≤ reachBytes
  | .sl es, d => d = .nsl ∨ ∃ rows : List (List DV), d = .sl rows.length rows.flatten ∧ rows.length ≤ maxLen ∧ rows.length * bytesL es ≤ reachBytes ∧ ∀ r ∈ rows, FitsZL es r
def FitsZL : List Sh → List DV → Prop
  | [], ds => ds = []
  | s :: ss, ds => ∃ d r, ds = d :: r ∧ FitsZ s d ∧ FitsZL ss r
end
mutual
theorem FitsZ.fits : ∀ {s : Sh} {d : DV}, FitsZ s d → Fits s d
  | .int k, d, h => by simpa only [FitsZ, Fits] using h
  | .bool, d, h => by simpa only [FitsZ, Fits] using h
  | .str, d, h => by
    simp only [FitsZ] at h
    obtain ⟨s, rfl, hs⟩ := h
    simp only [Fits]
    exact ⟨s, rfl, Nat.le_trans hs (by decide)⟩
  | .sl es, d, h => by
    simp only [FitsZ] at h
    simp only [Fits]
    rcases h with h | ⟨rows, h1, h2, _, h3⟩
    · exact .inl h
    · exact .inr ⟨rows, h1, h2, fun r hr => FitsZL.fits (h3 r hr)⟩
theorem FitsZL.fits : ∀ {ss : List Sh} {ds : List DV}, FitsZL ss ds → FitsL ss ds
  | [], ds, h => by simpa only [FitsZL, FitsL] using h
  | s :: ss, ds, h => by
    simp only [FitsZL] at h
    obtain ⟨d, r, rfl, h1, h2⟩ := h
    simp only [FitsL]
    exact ⟨d, r, rfl, FitsZ.fits h1, FitsZL.fits h2⟩
end
section
variable {H : Type} {enc : TypeId × Value → H} {P : Program} {w : World} {base : Nat} {spare : Nat → Bool} {held : Bool} {I : Nat → Prop} (hI : ∀ b, b < w.heap.size → I b)
end
section
variable {H : Type} {enc : TypeId × Value → H} {P : Program} {w : World} {base : Nat} {spare : Nat → Bool} {held : Bool} {t : TypeId} {v : Value} {d : DataW H} {p : List MemPlace}
end
end Go.Jq

/- A row's test as data: its numbers within 64 bits, its lists as long as memory lets them be. -/
namespace Go.Proofs.YtpfbljkfbjjlkaaGreatDoor
open Go Go.Jq
set_option maxRecDepth 100000
set_option linter.unusedSimpArgs false
structure RangeT (t : Test) : Prop where
  name : t.name.length ≤ 9223372036854775807
  values : ∀ x ∈ t.inits, I64 x.value
  ins : ∀ l ∈ t.threads, ∀ x ∈ l, I64i x
  rows : ∀ l ∈ t.rows, ∀ a ∈ l, I64a a
end Go.Proofs.YtpfbljkfbjjlkaaGreatDoor

/- Which parts of a test may be, by the document's answer, told without a heap. -/
namespace Go.Proofs.YtpfbljkfbjjlkaaGreatDoor
open Go Go.Jq
set_option maxRecDepth 100000
set_option linter.unusedSimpArgs false
theorem refLetter_pure (c : Int) : Pure Tryz.prog 114 [.d (.int .u8 c)] (.d (.bool (decide (97 ≤ c) && decide (c ≤ 122)))) := by
  refine acalls_of Tryz.func114 ac114_ok Tryz.ntmps114 Tryz.results114 rfl ?_
  unfold ac114
  refine bwp_seq fun K hK => bwp_region rfl ?_
  simp -implicitDefEqProofs only [go_sem, ↓reduceIte]
  refine hK _ ?_; clear hK
  by_cases h : 97 ≤ c
  · refine bwp_seq fun K hK => bwp_region rfl ?_
    simp -implicitDefEqProofs only [go_sem, ↓reduceIte, h]
    refine hK _ ?_; clear hK
    refine bwp_ret ?_
    simp only [go_sem]
    refine aend_ret _ rfl rfl ⟨?_, rfl⟩
    simp [fget, h]
  · refine bwp_seq fun K hK => bwp_region rfl ?_
    simp -implicitDefEqProofs only [go_sem, ↓reduceIte, h]
    refine hK _ ?_; clear hK
    refine bwp_ret ?_
    simp only [go_sem]
    refine aend_ret _ rfl rfl ⟨?_, rfl⟩
    simp [fget, h]
theorem refDigit_pure (c : Int) : Pure Tryz.prog 115 [.d (.int .u8 c)] (.d (.bool (decide (48 ≤ c) && decide (c ≤ 57)))) := by
  refine acalls_of Tryz.func115 ac115_ok Tryz.ntmps115 Tryz.results115 rfl ?_
  unfold ac115
  refine bwp_seq fun K hK => bwp_region rfl ?_
  simp -implicitDefEqProofs only [go_sem, ↓reduceIte]
  refine hK _ ?_; clear hK
  by_cases h : 48 ≤ c
  · refine bwp_seq fun K hK => bwp_region rfl ?_
    simp -implicitDefEqProofs only [go_sem, ↓reduceIte, h]
    refine hK _ ?_; clear hK
    refine bwp_ret ?_
    simp only [go_sem]
    refine aend_ret _ rfl rfl ⟨?_, rfl⟩
    simp [fget, h]
  · refine bwp_seq fun K hK => bwp_region rfl ?_
    simp -implicitDefEqProofs only [go_sem, ↓reduceIte, h]
    refine hK _ ?_; clear hK
    refine bwp_ret ?_
    simp only [go_sem]
    refine aend_ret _ rfl rfl ⟨?_, rfl⟩
    simp [fget, h]
theorem refNamed_pure (n : Int) : Pure Tryz.prog 80 [.d (.int .i64 n)] (.d (.bool (isLocB n))) := by
  refine acalls_of Tryz.func80 ac80_ok Tryz.ntmps80 Tryz.results80 rfl ?_
  unfold ac80
  refine bwp_seq fun K hK => bwp_region rfl ?_
  simp -implicitDefEqProofs only [go_sem, ↓reduceIte]
  refine hK _ ?_; clear hK
  by_cases h : 97 ≤ n
  · refine bwp_seq fun K hK => bwp_region rfl ?_
    simp -implicitDefEqProofs only [go_sem, ↓reduceIte, h]
    refine hK _ ?_; clear hK
    refine bwp_ret ?_
    simp only [go_sem]
    refine aend_ret _ rfl rfl ⟨?_, rfl⟩
    simp [fget, isLocB, h]
  · refine bwp_seq fun K hK => bwp_region rfl ?_
    simp -implicitDefEqProofs only [go_sem, ↓reduceIte, h]
    refine hK _ ?_; clear hK
    refine bwp_ret ?_
    simp only [go_sem]
    refine aend_ret _ rfl rfl ⟨?_, rfl⟩
    simp [fget, isLocB, h]
theorem refOpd_pure (o : Opnd) : Pure Tryz.prog 116 [.agg (o.cells.map .d)] (.d (.bool (isOpB o))) := by
  refine acalls_of Tryz.func116 ac116_ok Tryz.ntmps116 Tryz.results116 rfl ?_
  unfold ac116
  refine bwp_seq fun K hK => bwp_region rfl ?_
  simp -implicitDefEqProofs only [go_sem, ↓reduceIte, Opnd.cells]
  refine hK _ ?_; clear hK
  by_cases h : o.reg = -1
  · refine bwp_seq fun K hK => bwp_region rfl ?_
    simp -implicitDefEqProofs only [go_sem, ↓reduceIte, h]
    refine hK _ ?_; clear hK
    refine bwp_ret ?_
    simp only [go_sem]
    refine aend_ret _ rfl rfl ⟨?_, rfl⟩
    simp [fget, isOpB, h]
  by_cases h2 : 0 ≤ o.reg
  case neg =>
    refine bwp_seq fun K hK => bwp_region rfl ?_
    simp -implicitDefEqProofs only [go_sem, ↓reduceIte, h, h2]
    refine hK _ ?_; clear hK
    refine bwp_ret ?_
    simp only [go_sem]
    refine aend_ret _ rfl rfl ⟨?_, rfl⟩
    simp [fget, isOpB, isRegB, h, h2]
  by_cases h3 : o.reg ≤ 3
  case neg =>
    refine bwp_seq fun K hK => bwp_region rfl ?_
    simp -implicitDefEqProofs only [go_sem, ↓reduceIte, h, h2, h3]
    refine hK _ ?_; clear hK
    refine bwp_ret ?_
    simp only [go_sem]
    refine aend_ret _ rfl rfl ⟨?_, rfl⟩
    have : ¬ o.reg < 4 := by omega
    simp [fget, isOpB, isRegB, h, h2, this]
  refine bwp_seq fun K hK => bwp_region rfl ?_
  simp -implicitDefEqProofs only [go_sem, ↓reduceIte, h, h2, h3]
  refine hK _ ?_; clear hK
  refine bwp_ret ?_
  simp only [go_sem]
  refine aend_ret _ rfl rfl ⟨?_, rfl⟩
  have : o.reg < 4 := by omega
  simp [fget, isOpB, isRegB, h, h2, this]
theorem wordAt_eq (i : Nat) (c : UInt8) : (!(decide (97 ≤ (c.toNat : Int)) && decide ((c.toNat : Int) ≤ 122)) && !(decide (0 < i) && (decide (48 ≤ (c.toNat : Int)) && decide ((c.toNat : Int) ≤ 57)))) = !wordAt i c := by
  unfold wordAt
  have e1 : decide (97 ≤ (c.toNat : Int)) = decide (97 ≤ c.toNat) := by rw [decide_eq_decide]; omega
  have e2 : decide ((c.toNat : Int) ≤ 122) = decide (c.toNat ≤ 122) := by rw [decide_eq_decide]; omega
  have e3 : decide (48 ≤ (c.toNat : Int)) = decide (48 ≤ c.toNat) := by rw [decide_eq_decide]; omega
  have e4 : decide ((c.toNat : Int) ≤ 57) = decide (c.toNat ≤ 57) := by rw [decide_eq_decide]; omega
  have e5 : decide (0 < i) = decide (i ≠ 0) := by rw [decide_eq_decide]; omega
  rw [e1, e2, e3, e4, e5]
  cases decide (97 ≤ c.toNat) <;> cases decide (c.toNat ≤ 122) <;> cases decide (48 ≤ c.toNat) <;> cases decide (c.toNat ≤ 57) <;> cases decide (i ≠ 0) <;> rfl
def rwS (s : List UInt8) (i : Nat) : St := ⟨[(3, .d (.int .i64 i)), (0, .d (.str s)), (2, .d (.bool false))], [], 0⟩
theorem refWord_pure (s : List UInt8) (hs : s.length ≤ 9223372036854775807) : Pure Tryz.prog 78 [.d (.str s)] (.d (.bool (isWordB s))) := by
  refine acalls_of Tryz.func78 ac78_ok Tryz.ntmps78 Tryz.results78 rfl ?_
  unfold ac78
  refine bwp_seq fun K hK => bwp_region rfl ?_
  simp -implicitDefEqProofs only [go_sem, ↓reduceIte]
  refine hK _ ?_; clear hK
  refine bwp_seq fun K1 hK1 => ?_
  refine bwp_seq fun K2 hK2 => ?_
  refine bwp_region rfl ?_
  simp -implicitDefEqProofs only [go_sem, ↓reduceIte]
  refine hK2 _ ?_; clear hK2
  refine bwp_block ?_
  refine bwp_leads (S' := rwS s 0) (Leads.ent [] ⟨by simp [entT, fget, AV.ren, renL, pget, rwS], by simp [entM, pinv, mget, mset, renL, AV.ren, pget, renL_append, -List.map_map, rwS], rfl, rfl⟩) ?_
  refine bwp_countI (fun i => rwS s i) (fun i => ∀ j, j < i → wordAt j (s.getD j 0) = true) s.length (fun j h => by omega) ?_
  intro i hi hp
  unfold ac78L0 rwS
  refine bwp_seq fun K2 hK2 => ?_
  by_cases hlt : i < s.length
  · have hlt' : (i : Int) < s.length := by omega
    refine bwp_seq fun K hK => bwp_region rfl ?_
    simp -implicitDefEqProofs only [go_sem, ↓reduceIte, hlt']
    refine hK _ ?_; clear hK
    refine bwp_cond true (by simp [ev, fget]) (fun _ => ?_) (fun h => nomatch h)
    refine bwp_skip ?_
    refine hK2 _ ?_; clear hK2
    refine bwp_seq fun K2 hK2 => ?_
    refine bwp_block ?_
    have hwe := wordAt_eq i (s.getD i 0)
    generalize hcd : s.getD i 0 = c at hwe
    refine bwp_seq fun K hK => bwp_region rfl ?_
    have fin : ∀ (t : Fr) (b : Bool), fget t 25 = .d (.bool b) → b = !wordAt i c → fget t 0 = .d (.str s) → fget t 2 = .d (.bool false) → fget t 3 = .d (.int .i64 i) → K ⟨t, [], 0⟩ := by
      intro t b h25 hb h0 h2 h3
      refine hK _ ?_; clear hK
      cases b
      · have hw : wordAt i c = true := by
          cases h : wordAt i c
          · rw [h] at hb; cases hb
          · rfl
        refine bwp_cond false (by simp [ev, fget, h25]) (fun h => nomatch h) (fun _ => ?_)
        refine bwp_skip ?_
        simp -implicitDefEqProofs only [go_sem, ↓reduceIte]
        refine hK2 _ ?_; clear hK2
        have hwi : IntKind.i64.wrap ((i : Int) + 1) = ((i + 1 : Nat) : Int) := by rw [wrap_i64 (by omega) (by omega)]; rfl
        refine bwp_region rfl ?_
        simp -implicitDefEqProofs only [go_sem, ↓reduceIte, h3, hwi]
        refine ⟨hlt, fun j hj => ?_, Leads.ent [] ⟨by simp [rwS, entT, fget, AV.ren, pget, h0, h2], by simp [rwS, entM], rfl, rfl⟩⟩
        by_cases hji : j = i
        · subst hji; rw [hcd]; exact hw
        · exact hp j (by omega)
      · have hw : wordAt i c = false := by
          cases h : wordAt i c
          · rfl
          · rw [h] at hb; cases hb
        refine bwp_cond true (by simp [ev, fget, h25]) (fun _ => ?_) (fun h => nomatch h)
        refine bwp_seq fun K hK => bwp_region rfl ?_
        simp -implicitDefEqProofs only [go_sem, ↓reduceIte]
        refine hK _ ?_; clear hK
        refine bwp_ret ?_
        simp only [go_sem]
        refine aend_ret _ rfl rfl ⟨?_, rfl⟩
        simp [fget, isWord_at s hlt (by rw [hcd]; exact hw)]
    clear hK
    simp -implicitDefEqProofs only [go_sem, ↓reduceIte, Int.natCast_nonneg, hlt', Int.toNat_natCast, hcd]
    refine callK_pure (refLetter_pure (c.toNat : Int)) rfl rfl ?_
    simp -implicitDefEqProofs only [go_sem, ↓reduceIte]
    cases h1 : decide (97 ≤ (c.toNat : Int)) && decide ((c.toNat : Int) ≤ 122)
    · by_cases h2 : 0 < i
      · have h2' : (0 : Int) < (i : Int) := by omega
        simp -implicitDefEqProofs only [go_sem, ↓reduceIte, h2', Int.natCast_nonneg, hlt', Int.toNat_natCast, hcd]
        refine callK_pure (refDigit_pure (c.toNat : Int)) rfl rfl ?_
        simp -implicitDefEqProofs only [go_sem, ↓reduceIte]
        exact fin _ _ rfl (by rw [← hwe, h1]; simp [h2]) rfl rfl rfl
      · have h2' : ¬ (0 : Int) < (i : Int) := by omega
        simp -implicitDefEqProofs only [go_sem, ↓reduceIte, h2']
        exact fin _ true rfl (by rw [← hwe, h1]; simp [h2]) rfl rfl rfl
    · simp -implicitDefEqProofs only [go_sem, ↓reduceIte]
      exact fin _ false rfl (by rw [← hwe, h1]; simp) rfl rfl rfl
  · have hlt' : ¬ (i : Int) < s.length := by omega
    refine bwp_seq fun K hK => bwp_region rfl ?_
    simp -implicitDefEqProofs only [go_sem, ↓reduceIte, hlt']
    refine hK _ ?_; clear hK
    refine bwp_cond false (by simp [ev, fget]) (fun h => nomatch h) (fun _ => ?_)
    refine bwp_exit ?_
    simp -implicitDefEqProofs only [go_sem, ↓reduceIte]
    refine hK1 _ ?_; clear hK1
    have hall := isWord_all s fun j hj => hp j (by omega)
    refine bwp_seq fun K hK => bwp_region rfl ?_
    simp -implicitDefEqProofs only [go_sem, ↓reduceIte]
    refine hK _ ?_; clear hK
    refine bwp_ret ?_
    simp only [go_sem]
    refine aend_ret _ rfl rfl ⟨?_, rfl⟩
    simp [fget, hall]
def refInsB (x : Ins) : Bool :=
  if x.kind = 1 then decide (x.reg = 0) && isLocB x.loc && isOpB x.a && decide (x.op = 0) && (decide (x.b.reg = 0) && (decide (x.b.value = 0) && true)) && decide (x.n = 0)
  else if x.kind = 2 then decide (0 ≤ x.reg) && decide (x.reg ≤ 3) && isLocB x.loc && (decide (x.a.reg = 0) && (decide (x.a.value = 0) && true)) && decide (x.op = 0) && (decide (x.b.reg = 0) && (decide (x.b.value = 0) && true)) && decide (x.n = 0)
  else if x.kind = 3 then eqIns x ⟨3, 0, 0, ⟨0, 0⟩, 0, ⟨0, 0⟩, 0⟩
  else if x.kind = 4 then decide (0 ≤ x.reg) && decide (x.reg ≤ 3) && isLocB x.loc && isOpB x.a && decide (x.op = 0) && isOpB x.b && decide (x.n = 0)
  else if x.kind = 5 then !(decide (x.op = 0) && !(decide (x.b.reg = -1) && (decide (x.b.value = 0) && true))) && (decide (0 ≤ x.reg) && decide (x.reg ≤ 3) && decide (x.loc = 0) && isOpB x.a && decide (0 ≤ x.op) && decide (x.op ≤ 11) && isOpB x.b && decide (x.n = 0))
  else if x.kind = 6 then decide (x.reg = 0) && decide (x.loc = 0) && isOpB x.a && decide (x.op = 0) && isOpB x.b && decide (0 ≤ x.n)
  else false
set_option maxHeartbeats 4000000 in
theorem refIns_pure (x : Ins) : Pure Tryz.prog 81 [.agg (x.cells.map .d)] (.d (.bool (refInsB x))) := by
  refine acalls_of Tryz.func81 ac81_ok Tryz.ntmps81 Tryz.results81 rfl ?_
  unfold ac81
  refine bwp_seq fun K hK => bwp_region rfl ?_
  simp -implicitDefEqProofs only [go_sem, ↓reduceIte, Ins.cells]
  refine hK _ ?_; clear hK
  refine bwp_seq fun K hK => bwp_region rfl ?_
  simp -implicitDefEqProofs only [go_sem, ↓reduceIte]
  refine hK _ ?_; clear hK
  refine bwp_seq fun K1 hK1 => ?_
  refine bwp_seq fun K hK => bwp_region rfl ?_
  simp -implicitDefEqProofs only [go_sem, ↓reduceIte]
  refine hK _ ?_; clear hK
  refine bwp_block ?_
  refine bwp_seq fun K hK => bwp_region rfl ?_
  simp -implicitDefEqProofs only [go_sem, ↓reduceIte]
  refine hK _ ?_; clear hK
  by_cases k1 : x.kind = 1
  case pos =>
    refine bwp_cond true (by simp [ev, fget, k1]) (fun _ => ?_) (fun h => nomatch h)
    refine bwp_seq fun K hK => bwp_region rfl ?_
    have fin : ∀ (t : Fr) (m : Mem) (n : Nat) (b : Bool), fget t 2 = .d (.bool b) → b = refInsB x → K ⟨t, m, n⟩ := by
      intro t m n b h2 hb
      refine hK _ ?_; clear hK
      refine bwp_ret ?_
      simp only [go_sem]
      exact aend_ret (.d (.bool b)) (by simp [resA, resVs, resV, h2]) rfl ⟨by rw [hb], rfl⟩
    clear hK
    simp -implicitDefEqProofs only [go_sem, ↓reduceIte]
    repeat' (first
      | (refine gateK_split (fun hb => ?_) (fun hb => ?_) <;> simp -implicitDefEqProofs only [go_sem, ↓reduceIte, hb])
      | (refine dGateK_split (fun hb => ?_) (fun hb => ?_) <;> simp -implicitDefEqProofs only [go_sem, ↓reduceIte, hb])
      | (refine callK_pure (refNamed_pure x.loc) rfl rfl ?_; simp -implicitDefEqProofs only [go_sem, ↓reduceIte])
      | (refine dCallK_pure (refNamed_pure x.loc) rfl rfl ?_; simp -implicitDefEqProofs only [go_sem, ↓reduceIte])
      | (refine callK_pure (refOpd_pure x.a) rfl rfl ?_; simp -implicitDefEqProofs only [go_sem, ↓reduceIte])
      | (refine dCallK_pure (refOpd_pure x.a) rfl rfl ?_; simp -implicitDefEqProofs only [go_sem, ↓reduceIte])
      | (refine callK_pure (refOpd_pure x.b) rfl rfl ?_; simp -implicitDefEqProofs only [go_sem, ↓reduceIte])
      | (refine dCallK_pure (refOpd_pure x.b) rfl rfl ?_; simp -implicitDefEqProofs only [go_sem, ↓reduceIte])
      | (rw [if_pos (by (try simp only [List.length_append, List.length_cons, List.length_nil, List.length_map]); omega)]; simp -implicitDefEqProofs only [go_sem, ↓reduceIte]))
    all_goals exact fin _ _ _ _ rfl (by clear fin hK1; simp_all [refInsB, eqIns] <;> (intros; omega))
  refine bwp_cond false (by simp [ev, fget, k1]) (fun h => nomatch h) (fun _ => ?_)
  refine bwp_seq fun K hK => bwp_region rfl ?_
  simp -implicitDefEqProofs only [go_sem, ↓reduceIte]
  refine hK _ ?_; clear hK
  by_cases k2 : x.kind = 2
  case pos =>
    refine bwp_cond true (by simp [ev, fget, k2]) (fun _ => ?_) (fun h => nomatch h)
    refine bwp_seq fun K hK => bwp_region rfl ?_
    have fin : ∀ (t : Fr) (m : Mem) (n : Nat) (b : Bool), fget t 2 = .d (.bool b) → b = refInsB x → K ⟨t, m, n⟩ := by
      intro t m n b h2 hb
      refine hK _ ?_; clear hK
      refine bwp_ret ?_
      simp only [go_sem]
      exact aend_ret (.d (.bool b)) (by simp [resA, resVs, resV, h2]) rfl ⟨by rw [hb], rfl⟩
    clear hK
    simp -implicitDefEqProofs only [go_sem, ↓reduceIte]
    repeat' (first
      | (refine gateK_split (fun hb => ?_) (fun hb => ?_) <;> simp -implicitDefEqProofs only [go_sem, ↓reduceIte, hb])
      | (refine dGateK_split (fun hb => ?_) (fun hb => ?_) <;> simp -implicitDefEqProofs only [go_sem, ↓reduceIte, hb])
      | (refine callK_pure (refNamed_pure x.loc) rfl rfl ?_; simp -implicitDefEqProofs only [go_sem, ↓reduceIte])
      | (refine dCallK_pure (refNamed_pure x.loc) rfl rfl ?_; simp -implicitDefEqProofs only [go_sem, ↓reduceIte])
      | (refine callK_pure (refOpd_pure x.a) rfl rfl ?_; simp -implicitDefEqProofs only [go_sem, ↓reduceIte])
      | (refine dCallK_pure (refOpd_pure x.a) rfl rfl ?_; simp -implicitDefEqProofs only [go_sem, ↓reduceIte])
      | (refine callK_pure (refOpd_pure x.b) rfl rfl ?_; simp -implicitDefEqProofs only [go_sem, ↓reduceIte])
      | (refine dCallK_pure (refOpd_pure x.b) rfl rfl ?_; simp -implicitDefEqProofs only [go_sem, ↓reduceIte])
      | (rw [if_pos (by (try simp only [List.length_append, List.length_cons, List.length_nil, List.length_map]); omega)]; simp -implicitDefEqProofs only [go_sem, ↓reduceIte]))
    all_goals exact fin _ _ _ _ rfl (by clear fin hK1; simp_all [refInsB, eqIns] <;> (intros; omega))
  refine bwp_cond false (by simp [ev, fget, k2]) (fun h => nomatch h) (fun _ => ?_)
  refine bwp_seq fun K hK => bwp_region rfl ?_
  simp -implicitDefEqProofs only [go_sem, ↓reduceIte]
  refine hK _ ?_; clear hK
  by_cases k3 : x.kind = 3
  case pos =>
    refine bwp_cond true (by simp [ev, fget, k3]) (fun _ => ?_) (fun h => nomatch h)
    refine bwp_seq fun K hK => bwp_region rfl ?_
    have fin : ∀ (t : Fr) (m : Mem) (n : Nat) (b : Bool), fget t 2 = .d (.bool b) → b = refInsB x → K ⟨t, m, n⟩ := by
      intro t m n b h2 hb
      refine hK _ ?_; clear hK
      refine bwp_ret ?_
      simp only [go_sem]
      exact aend_ret (.d (.bool b)) (by simp [resA, resVs, resV, h2]) rfl ⟨by rw [hb], rfl⟩
    clear hK
    simp -implicitDefEqProofs only [go_sem, ↓reduceIte]
    repeat' (first
      | (refine gateK_split (fun hb => ?_) (fun hb => ?_) <;> simp -implicitDefEqProofs only [go_sem, ↓reduceIte, hb])
      | (refine dGateK_split (fun hb => ?_) (fun hb => ?_) <;> simp -implicitDefEqProofs only [go_sem, ↓reduceIte, hb])
      | (refine callK_pure (refNamed_pure x.loc) rfl rfl ?_; simp -implicitDefEqProofs only [go_sem, ↓reduceIte])
      | (refine dCallK_pure (refNamed_pure x.loc) rfl rfl ?_; simp -implicitDefEqProofs only [go_sem, ↓reduceIte])
      | (refine callK_pure (refOpd_pure x.a) rfl rfl ?_; simp -implicitDefEqProofs only [go_sem, ↓reduceIte])
      | (refine dCallK_pure (refOpd_pure x.a) rfl rfl ?_; simp -implicitDefEqProofs only [go_sem, ↓reduceIte])
      | (refine callK_pure (refOpd_pure x.b) rfl rfl ?_; simp -implicitDefEqProofs only [go_sem, ↓reduceIte])
      | (refine dCallK_pure (refOpd_pure x.b) rfl rfl ?_; simp -implicitDefEqProofs only [go_sem, ↓reduceIte])
      | (rw [if_pos (by (try simp only [List.length_append, List.length_cons, List.length_nil, List.length_map]); omega)]; simp -implicitDefEqProofs only [go_sem, ↓reduceIte]))
    all_goals exact fin _ _ _ _ rfl (by clear fin hK1; simp_all [refInsB, eqIns] <;> (intros; omega))
  refine bwp_cond false (by simp [ev, fget, k3]) (fun h => nomatch h) (fun _ => ?_)
  refine bwp_seq fun K hK => bwp_region rfl ?_
  simp -implicitDefEqProofs only [go_sem, ↓reduceIte]
  refine hK _ ?_; clear hK
  by_cases k4 : x.kind = 4
  case pos =>
    refine bwp_cond true (by simp [ev, fget, k4]) (fun _ => ?_) (fun h => nomatch h)
    refine bwp_seq fun K hK => bwp_region rfl ?_
    have fin : ∀ (t : Fr) (m : Mem) (n : Nat) (b : Bool), fget t 2 = .d (.bool b) → b = refInsB x → K ⟨t, m, n⟩ := by
      intro t m n b h2 hb
      refine hK _ ?_; clear hK
      refine bwp_ret ?_
      simp only [go_sem]
      exact aend_ret (.d (.bool b)) (by simp [resA, resVs, resV, h2]) rfl ⟨by rw [hb], rfl⟩
    clear hK
    simp -implicitDefEqProofs only [go_sem, ↓reduceIte]
    repeat' (first
      | (refine gateK_split (fun hb => ?_) (fun hb => ?_) <;> simp -implicitDefEqProofs only [go_sem, ↓reduceIte, hb])
      | (refine dGateK_split (fun hb => ?_) (fun hb => ?_) <;> simp -implicitDefEqProofs only [go_sem, ↓reduceIte, hb])
      | (refine callK_pure (refNamed_pure x.loc) rfl rfl ?_; simp -implicitDefEqProofs only [go_sem, ↓reduceIte])
      | (refine dCallK_pure (refNamed_pure x.loc) rfl rfl ?_; simp -implicitDefEqProofs only [go_sem, ↓reduceIte])
      | (refine callK_pure (refOpd_pure x.a) rfl rfl ?_; simp -implicitDefEqProofs only [go_sem, ↓reduceIte])
      | (refine dCallK_pure (refOpd_pure x.a) rfl rfl ?_; simp -implicitDefEqProofs only [go_sem, ↓reduceIte])
      | (refine callK_pure (refOpd_pure x.b) rfl rfl ?_; simp -implicitDefEqProofs only [go_sem, ↓reduceIte])
      | (refine dCallK_pure (refOpd_pure x.b) rfl rfl ?_; simp -implicitDefEqProofs only [go_sem, ↓reduceIte])
      | (rw [if_pos (by (try simp only [List.length_append, List.length_cons, List.length_nil, List.length_map]); omega)]; simp -implicitDefEqProofs only [go_sem, ↓reduceIte]))
    all_goals exact fin _ _ _ _ rfl (by clear fin hK1; simp_all [refInsB, eqIns] <;> (intros; omega))
  refine bwp_cond false (by simp [ev, fget, k4]) (fun h => nomatch h) (fun _ => ?_)
  refine bwp_seq fun K hK => bwp_region rfl ?_
  simp -implicitDefEqProofs only [go_sem, ↓reduceIte]
  refine hK _ ?_; clear hK
  by_cases k5 : x.kind = 5
  case pos =>
    refine bwp_cond true (by simp [ev, fget, k5]) (fun _ => ?_) (fun h => nomatch h)
    refine bwp_seq fun K2 hK2 => ?_
    refine bwp_seq fun K hK => bwp_region rfl ?_
    have rest : ∀ (t : Fr) (b : Bool), fget t 125 = .d (.bool b) → b = (decide (x.op = 0) && !(decide (x.b.reg = -1) && (decide (x.b.value = 0) && true))) → fget t 1 = .ptr 0 0 → K ⟨t, [(0, (Ins.cells x).map .d), (1, [.d (.int .i64 0), .d (.int .i64 0)])], 2⟩ := by
      intro t b h125 hb h1
      refine hK _ ?_; clear hK
      cases b
      · refine bwp_cond false (by simp [ev, fget, h125]) (fun h => nomatch h) (fun _ => ?_)
        refine bwp_skip ?_
        simp -implicitDefEqProofs only [go_sem, ↓reduceIte]
        refine hK2 _ ?_; clear hK2
        refine bwp_seq fun K hK => bwp_region rfl ?_
        have fin : ∀ (t : Fr) (m : Mem) (n : Nat) (b : Bool), fget t 2 = .d (.bool b) → b = refInsB x → K ⟨t, m, n⟩ := by
          intro t m n b h2 hb
          refine hK _ ?_; clear hK
          refine bwp_ret ?_
          simp only [go_sem]
          exact aend_ret (.d (.bool b)) (by simp [resA, resVs, resV, h2]) rfl ⟨by rw [hb], rfl⟩
        clear hK
        have hb0 := hb.symm
        simp -implicitDefEqProofs only [go_sem, ↓reduceIte, h1, Ins.cells]
        repeat' (first
          | (refine gateK_split (fun hb => ?_) (fun hb => ?_) <;> simp -implicitDefEqProofs only [go_sem, ↓reduceIte, hb, h1])
          | (refine dGateK_split (fun hb => ?_) (fun hb => ?_) <;> simp -implicitDefEqProofs only [go_sem, ↓reduceIte, hb, h1])
          | (refine callK_pure (refOpd_pure x.a) rfl rfl ?_; simp -implicitDefEqProofs only [go_sem, ↓reduceIte, h1])
          | (refine dCallK_pure (refOpd_pure x.a) rfl rfl ?_; simp -implicitDefEqProofs only [go_sem, ↓reduceIte, h1])
          | (refine callK_pure (refOpd_pure x.b) rfl rfl ?_; simp -implicitDefEqProofs only [go_sem, ↓reduceIte, h1])
          | (refine dCallK_pure (refOpd_pure x.b) rfl rfl ?_; simp -implicitDefEqProofs only [go_sem, ↓reduceIte, h1])
          | (rw [if_pos (by (try simp only [List.length_append, List.length_cons, List.length_nil, List.length_map]); omega)]; simp -implicitDefEqProofs only [go_sem, ↓reduceIte, h1]))
        all_goals exact fin _ _ _ _ rfl (by clear fin hK1; simp only [refInsB, k5, hb0]; simp_all <;> (intros; omega))
      · refine bwp_cond true (by simp [ev, fget, h125]) (fun _ => ?_) (fun h => nomatch h)
        refine bwp_seq fun K hK => bwp_region rfl ?_
        simp -implicitDefEqProofs only [go_sem, ↓reduceIte]
        refine hK _ ?_; clear hK
        refine bwp_ret ?_
        simp only [go_sem]
        exact aend_ret (.d (.bool false)) rfl rfl ⟨by simp only [refInsB, k5, ← hb]; simp, rfl⟩
    clear hK
    simp -implicitDefEqProofs only [go_sem, ↓reduceIte]
    repeat' (first
      | (refine gateK_split (fun hb => ?_) (fun hb => ?_) <;> simp -implicitDefEqProofs only [go_sem, ↓reduceIte, hb])
      | (refine dGateK_split (fun hb => ?_) (fun hb => ?_) <;> simp -implicitDefEqProofs only [go_sem, ↓reduceIte, hb])
      | (rw [if_pos (by (try simp only [List.length_append, List.length_cons, List.length_nil, List.length_map]); omega)]; simp -implicitDefEqProofs only [go_sem, ↓reduceIte]))
    all_goals exact rest _ _ rfl (by clear rest hK1 hK2; simp_all) rfl
  refine bwp_cond false (by simp [ev, fget, k5]) (fun h => nomatch h) (fun _ => ?_)
  refine bwp_seq fun K hK => bwp_region rfl ?_
  simp -implicitDefEqProofs only [go_sem, ↓reduceIte]
  refine hK _ ?_; clear hK
  by_cases k6 : x.kind = 6
  case pos =>
    refine bwp_cond true (by simp [ev, fget, k6]) (fun _ => ?_) (fun h => nomatch h)
    refine bwp_seq fun K hK => bwp_region rfl ?_
    have fin : ∀ (t : Fr) (m : Mem) (n : Nat) (b : Bool), fget t 2 = .d (.bool b) → b = refInsB x → K ⟨t, m, n⟩ := by
      intro t m n b h2 hb
      refine hK _ ?_; clear hK
      refine bwp_ret ?_
      simp only [go_sem]
      exact aend_ret (.d (.bool b)) (by simp [resA, resVs, resV, h2]) rfl ⟨by rw [hb], rfl⟩
    clear hK
    simp -implicitDefEqProofs only [go_sem, ↓reduceIte]
    repeat' (first
      | (refine gateK_split (fun hb => ?_) (fun hb => ?_) <;> simp -implicitDefEqProofs only [go_sem, ↓reduceIte, hb])
      | (refine dGateK_split (fun hb => ?_) (fun hb => ?_) <;> simp -implicitDefEqProofs only [go_sem, ↓reduceIte, hb])
      | (refine callK_pure (refNamed_pure x.loc) rfl rfl ?_; simp -implicitDefEqProofs only [go_sem, ↓reduceIte])
      | (refine dCallK_pure (refNamed_pure x.loc) rfl rfl ?_; simp -implicitDefEqProofs only [go_sem, ↓reduceIte])
      | (refine callK_pure (refOpd_pure x.a) rfl rfl ?_; simp -implicitDefEqProofs only [go_sem, ↓reduceIte])
      | (refine dCallK_pure (refOpd_pure x.a) rfl rfl ?_; simp -implicitDefEqProofs only [go_sem, ↓reduceIte])
      | (refine callK_pure (refOpd_pure x.b) rfl rfl ?_; simp -implicitDefEqProofs only [go_sem, ↓reduceIte])
      | (refine dCallK_pure (refOpd_pure x.b) rfl rfl ?_; simp -implicitDefEqProofs only [go_sem, ↓reduceIte])
      | (rw [if_pos (by (try simp only [List.length_append, List.length_cons, List.length_nil, List.length_map]); omega)]; simp -implicitDefEqProofs only [go_sem, ↓reduceIte]))
    all_goals exact fin _ _ _ _ rfl (by clear fin hK1; simp_all [refInsB, eqIns] <;> (intros; omega))
  refine bwp_cond false (by simp [ev, fget, k6]) (fun h => nomatch h) (fun _ => ?_)
  refine bwp_skip ?_
  simp -implicitDefEqProofs only [go_sem, ↓reduceIte]
  refine hK1 _ ?_; clear hK1
  refine bwp_seq fun K hK => bwp_region rfl ?_
  simp -implicitDefEqProofs only [go_sem, ↓reduceIte]
  refine hK _ ?_; clear hK
  refine bwp_ret ?_
  simp only [go_sem]
  refine aend_ret _ rfl rfl ⟨?_, rfl⟩
  simp [fget, refInsB, k1, k2, k3, k4, k5, k6]
end Go.Proofs.YtpfbljkfbjjlkaaGreatDoor

/- Which conditions and tests may be, by the document's answer, told without a heap. -/
namespace Go.Proofs.YtpfbljkfbjjlkaaGreatDoor
open Go Go.Jq
set_option maxRecDepth 100000
set_option linter.unusedSimpArgs false
def refAtomMem (a : Atom) : Bool := decide (a.thread = -1) && decide (a.reg = 0) && isLocB a.loc
def refAtomOwn (a : Atom) : Bool := decide (0 ≤ a.thread) && decide (a.thread ≤ 9) && decide (0 ≤ a.reg) && decide (a.reg ≤ 3) && decide (a.loc = 0)
theorem refAtom_eq (a : Atom) : (!refAtomMem a && !refAtomOwn a) = !okAtomB a := by
  unfold refAtomMem refAtomOwn okAtomB isRegB
  by_cases h : a.thread = -1
  · have h1 : ¬ 0 ≤ a.thread := by omega
    simp [h]
  · have e : decide (a.reg ≤ 3) = decide (a.reg < 4) := by rw [decide_eq_decide]; omega
    simp only [h, decide_false, Bool.false_and, Bool.not_false, Bool.true_and, if_false, e]
    cases decide (0 ≤ a.thread) <;> cases decide (a.thread ≤ 9) <;> cases decide (0 ≤ a.reg) <;> cases decide (a.reg < 4) <;> cases decide (a.loc = 0) <;> rfl
def rcS (cs : List DV) (ex : Fr) : St := ⟨ex ++ [(1, .dptr cs), (2, .d (.bool false))], [], 0⟩
theorem refRow {rows : List (List Atom)} {A : DV} (hA : IsSl2 Atom.cells rows A) {kind : Int} {j : Nat} (hj : j < rows.length) {Q : Exit → St → Prop}
    (hbad : (rows[j].any fun a => !okAtomB a) = true → ∀ S, fget S.t 2 = .d (.bool false) → Q .ret S) (hgood : (rows[j].any fun a => !okAtomB a) = false → Q (.exit 2) (rcS [.int .i64 kind, A] [(3, .d (.int .i64 j))])) :
    BWP Tryz.prog (mbound []) 103 (.loop ac79L0) (rcS [.int .i64 kind, A] [(4, .d (.int .i64 (0 : Nat))), (3, .d (.int .i64 j))]) Q := by
  obtain ⟨cs2, d, rest2, hTe, hd, hjc, hD⟩ := hA.at j hj
  have hjl : (j : Int) < rows.length := by omega
  generalize rows[j] = l at hD hbad hgood
  have hbig := hD.1
  have hlen' := hD.len
  refine bwp_countI (fun k => rcS [.int .i64 kind, A] [(4, .d (.int .i64 (k : Nat))), (3, .d (.int .i64 j))]) (fun k => ∀ a ∈ l.take k, okAtomB a = true) l.length (by simp) ?_
  intro k hk hp
  unfold ac79L0 rcS
  refine bwp_seq fun K1 hK1 => ?_
  by_cases hlt : k < l.length
  · have hlt' : (k : Int) < l.length := by omega
    obtain ⟨cs, rest, hIe, hdrop, hcs⟩ := hD.at atom_len (by omega) k hlt
    have hw : IntKind.i64.wrap ((k : Int) + 1) = ((k + 1 : Nat) : Int) := by rw [wrap_i64 (by omega) (by omega)]; rfl
    have hl4 : ∀ (n : Nat), (4 ≤ (n + 1 + 1 + 1 + 1)) = True := fun n => by simp
    have hmem : l[k] ∈ l := List.getElem_mem hlt
    have htk := take_snoc l k hlt
    generalize l[k] = a at *
    have hae := refAtom_eq a
    refine bwp_seq fun K hK => bwp_region rfl ?_
    simp -implicitDefEqProofs only [go_sem, ↓reduceIte, hTe, hjl, Int.natCast_nonneg, Int.toNat_natCast, Nat.mul_one, hjc, hd, hlen', hlt']
    refine hK _ ?_; clear hK
    refine bwp_cond true (by simp [ev, fget]) (fun _ => ?_) (fun h => nomatch h)
    refine bwp_skip ?_
    refine hK1 _ ?_; clear hK1
    refine bwp_seq fun K1 hK1 => ?_
    refine bwp_block ?_
    refine bwp_seq fun K hK => bwp_region rfl ?_
    simp -implicitDefEqProofs only [go_sem, ↓reduceIte, hTe, hjl, Nat.mul_one, hjc, hd, hIe, hlt', Int.natCast_nonneg, Int.toNat_natCast, hcs, hdrop, Atom.cells, hl4]
    refine hK _ ?_; clear hK
    refine bwp_seq fun K hK => bwp_region rfl ?_
    have fin : ∀ t : Fr, fget t 6 = .d (.bool (refAtomMem a)) → fget t 5 = .ptr 0 0 → fget t 1 = .dptr [.int .i64 kind, A] → fget t 2 = .d (.bool false) → fget t 3 = .d (.int .i64 j) → fget t 4 = .d (.int .i64 k) → K ⟨t, [(0, [.d (.int .i64 a.thread), .d (.int .i64 a.reg), .d (.int .i64 a.loc), .d (.int .i64 a.value)])], 1⟩ := by
      intro t h6 h5 h1 h2 h3 h4
      refine hK _ ?_; clear hK
      refine bwp_seq fun K hK => bwp_region rfl ?_
      have fin2 : ∀ t : Fr, fget t 6 = .d (.bool (refAtomMem a)) → fget t 7 = .d (.bool (refAtomOwn a)) → fget t 1 = .dptr [.int .i64 kind, A] → fget t 2 = .d (.bool false) → fget t 3 = .d (.int .i64 j) → fget t 4 = .d (.int .i64 k) → K ⟨t, [(0, [.d (.int .i64 a.thread), .d (.int .i64 a.reg), .d (.int .i64 a.loc), .d (.int .i64 a.value)])], 1⟩ := by
        intro t h6 h7 h1 h2 h3 h4
        refine hK _ ?_; clear hK
        refine bwp_seq fun K hK => bwp_region rfl ?_
        have fin3 : ∀ (t : Fr) (b : Bool), fget t 102 = .d (.bool b) → b = !okAtomB a → fget t 1 = .dptr [.int .i64 kind, A] → fget t 2 = .d (.bool false) → fget t 3 = .d (.int .i64 j) → fget t 4 = .d (.int .i64 k) → K ⟨t, [(0, [.d (.int .i64 a.thread), .d (.int .i64 a.reg), .d (.int .i64 a.loc), .d (.int .i64 a.value)])], 1⟩ := by
          intro t b h102 hb h1 h2 h3 h4
          refine hK _ ?_; clear hK
          cases hok : okAtomB a
          · rw [hok] at hb
            subst hb
            refine bwp_cond true (by simp [ev, fget, h102]) (fun _ => ?_) (fun h => nomatch h)
            refine bwp_seq fun K hK => bwp_region rfl ?_
            simp -implicitDefEqProofs only [go_sem, ↓reduceIte]
            refine hK _ ?_; clear hK
            refine bwp_ret ?_
            simp -implicitDefEqProofs only [go_sem, ↓reduceIte]
            exact hbad (List.any_eq_true.2 ⟨a, hmem, by simp [hok]⟩) _ rfl
          · rw [hok] at hb
            subst hb
            refine bwp_cond false (by simp [ev, fget, h102]) (fun h => nomatch h) (fun _ => ?_)
            refine bwp_skip ?_
            simp -implicitDefEqProofs only [go_sem, ↓reduceIte]
            refine hK1 _ ?_; clear hK1
            refine bwp_region rfl ?_
            simp -implicitDefEqProofs only [go_sem, ↓reduceIte, h4, hw]
            refine ⟨hlt, ?_, Leads.ent [] ⟨by simp [entT, fget, AV.ren, pget, h1, h2, h3], by simp [entM], rfl, rfl⟩⟩
            intro b hb
            rw [htk, List.mem_append] at hb
            rcases hb with hb | hb
            · exact hp b hb
            · simp only [List.mem_singleton] at hb; rw [hb]; exact hok
        clear hK
        cases g1 : refAtomMem a
        · rw [g1] at h6 hae
          cases g2 : refAtomOwn a
          · rw [g2] at h7 hae
            simp -implicitDefEqProofs only [go_sem, ↓reduceIte, h6, h7]
            exact fin3 _ true rfl (by rw [← hae]; rfl) h1 h2 h3 h4
          · rw [g2] at h7 hae
            simp -implicitDefEqProofs only [go_sem, ↓reduceIte, h6, h7]
            exact fin3 _ false rfl (by rw [← hae]; rfl) h1 h2 h3 h4
        · rw [g1] at h6 hae
          simp -implicitDefEqProofs only [go_sem, ↓reduceIte, h6]
          exact fin3 _ false rfl (by rw [← hae]; simp) h1 h2 h3 h4
      clear hK
      simp -implicitDefEqProofs only [go_sem, ↓reduceIte, h5]
      repeat' (first
        | (refine gateK_split (fun hb => ?_) (fun hb => ?_) <;> simp -implicitDefEqProofs only [go_sem, ↓reduceIte, hb, h5])
        | (refine dGateK_split (fun hb => ?_) (fun hb => ?_) <;> simp -implicitDefEqProofs only [go_sem, ↓reduceIte, hb, h5])
        | (rw [if_pos (by (try simp only [List.length_append, List.length_cons, List.length_nil, List.length_map]); omega)]; simp -implicitDefEqProofs only [go_sem, ↓reduceIte, h5]))
      all_goals exact fin2 _ (by simp [fget, h6]) (by simp [fget, refAtomOwn, *]) (by simp [fget, h1]) (by simp [fget, h2]) (by simp [fget, h3]) (by simp [fget, h4])
    clear hK
    simp -implicitDefEqProofs only [go_sem, ↓reduceIte]
    repeat' (first
      | (refine gateK_split (fun hb => ?_) (fun hb => ?_) <;> simp -implicitDefEqProofs only [go_sem, ↓reduceIte, hb])
      | (refine dGateK_split (fun hb => ?_) (fun hb => ?_) <;> simp -implicitDefEqProofs only [go_sem, ↓reduceIte, hb])
      | (refine callK_pure (refNamed_pure a.loc) rfl rfl ?_; simp -implicitDefEqProofs only [go_sem, ↓reduceIte])
      | (refine dCallK_pure (refNamed_pure a.loc) rfl rfl ?_; simp -implicitDefEqProofs only [go_sem, ↓reduceIte])
      | (rw [if_pos (by (try simp only [List.length_append, List.length_cons, List.length_nil, List.length_map]); omega)]; simp -implicitDefEqProofs only [go_sem, ↓reduceIte]))
    all_goals exact fin _ (by simp [fget, refAtomMem, *]) rfl (by simp [fget, hTe]) rfl rfl rfl
  · have hlt' : ¬ (k : Int) < l.length := by omega
    have hin : k = l.length := by omega
    subst hin
    rw [List.take_of_length_le (Nat.le_refl _)] at hp
    refine bwp_seq fun K hK => bwp_region rfl ?_
    simp -implicitDefEqProofs only [go_sem, ↓reduceIte, hTe, hjl, Int.natCast_nonneg, Int.toNat_natCast, Nat.mul_one, hjc, hd, hlen', hlt']
    refine hK _ ?_; clear hK
    refine bwp_cond false (by simp [ev, fget]) (fun h => nomatch h) (fun _ => ?_)
    refine bwp_leads (S' := rcS [.int .i64 kind, A] [(3, .d (.int .i64 j))]) (Leads.ent [] ⟨by simp [entT, fget, AV.ren, renL, pget, rcS, hTe], by simp [entM, pinv, mget, mset, renL, AV.ren, pget, renL_append, -List.map_map, rcS, hTe], rfl, rfl⟩) ?_
    refine bwp_exit (hgood ?_)
    rw [List.any_eq_false]
    intro a ha
    rw [hp a ha]; decide
end Go.Proofs.YtpfbljkfbjjlkaaGreatDoor

/- Which conditions and tests may be, by the document's answer: the wholes. -/
namespace Go.Proofs.YtpfbljkfbjjlkaaGreatDoor
open Go Go.Jq
set_option maxRecDepth 100000
set_option linter.unusedSimpArgs false
theorem refIns_eq (x : Ins) : refInsB x = okInsB x := by
  rw [Bool.eq_iff_iff]
  unfold refInsB okInsB eqIns isRegB
  by_cases k1 : x.kind = 1
  · simp [k1]; constructor <;> intro h <;> simp_all
  by_cases k2 : x.kind = 2
  · simp [k2]; constructor <;> intro h <;> (simp_all; try omega)
  by_cases k3 : x.kind = 3
  · simp [k3]
  by_cases k4 : x.kind = 4
  · simp [k4]; constructor <;> intro h <;> (simp_all; try omega)
  by_cases k5 : x.kind = 5
  · simp [k5]; constructor <;> intro h <;> (simp_all; try omega)
  by_cases k6 : x.kind = 6
  · simp [k6]; constructor <;> intro h <;> simp_all
  simp [k1, k2, k3, k4, k5, k6]
theorem refRows {rows : List (List Atom)} {A : DV} (hA : IsSl2 Atom.cells rows A) {kind : Int} {Q : Exit → St → Prop}
    (hbad : rows.any badRowB = true → ∀ S, fget S.t 2 = .d (.bool false) → Q .ret S) (hgood : rows.any badRowB = false → ∀ S, Q (.exit 0) S) :
    BWP Tryz.prog (mbound []) 103 (.loop ac79L1) (rcS [.int .i64 kind, A] [(3, .d (.int .i64 (0 : Nat)))]) Q := by
  have hbig := hA.big
  have hlen' := hA.len
  refine bwp_countI (fun j => rcS [.int .i64 kind, A] [(3, .d (.int .i64 (j : Nat)))]) (fun j => ∀ l ∈ rows.take j, badRowB l = false) rows.length (by simp) ?_
  intro j hj hp
  unfold ac79L1
  refine bwp_seq fun K1 hK1 => ?_
  by_cases hlt : j < rows.length
  · have hlt' : (j : Int) < rows.length := by omega
    obtain ⟨cs2, d, rest2, hTe, hd, hjc, hD⟩ := hA.at j hlt
    have hdl := hD.len
    have hw : IntKind.i64.wrap ((j : Int) + 1) = ((j + 1 : Nat) : Int) := by rw [wrap_i64 (by omega) (by omega)]; rfl
    have hmem : rows[j] ∈ rows := List.getElem_mem hlt
    have htk := take_snoc rows j hlt
    have hrow := @refRow rows A hA kind j hlt
    unfold rcS
    refine bwp_seq fun K hK => bwp_region rfl ?_
    simp -implicitDefEqProofs only [go_sem, ↓reduceIte, hlen', hlt']
    refine hK _ ?_; clear hK
    refine bwp_cond true (by simp [ev, fget]) (fun _ => ?_) (fun h => nomatch h)
    refine bwp_skip ?_
    refine hK1 _ ?_; clear hK1
    refine bwp_seq fun K1 hK1 => ?_
    refine bwp_block ?_
    refine bwp_seq fun K2 hK2 => ?_
    refine bwp_seq fun K hK => bwp_region rfl ?_
    simp -implicitDefEqProofs only [go_sem, ↓reduceIte, hTe, hlt', Int.natCast_nonneg, Int.toNat_natCast, Nat.mul_one, hjc, hd, hdl]
    refine hK _ ?_; clear hK
    by_cases h0 : rows[j].length = 0
    · have h0' : (rows[j].length : Int) = 0 := by omega
      refine bwp_cond true (by simp [ev, fget, h0]) (fun _ => ?_) (fun h => nomatch h)
      refine bwp_seq fun K hK => bwp_region rfl ?_
      simp -implicitDefEqProofs only [go_sem, ↓reduceIte]
      refine hK _ ?_; clear hK
      refine bwp_ret ?_
      simp -implicitDefEqProofs only [go_sem, ↓reduceIte]
      exact hbad (List.any_eq_true.2 ⟨_, hmem, by simp [badRowB, h0]⟩) _ rfl
    · have h0' : ¬ (rows[j].length : Int) = 0 := by omega
      have hne : ¬ rows[j] = [] := fun h => h0 (by rw [h]; rfl)
      refine bwp_cond false (by simp [ev, fget, hne]) (fun h => nomatch h) (fun _ => ?_)
      refine bwp_skip ?_
      simp -implicitDefEqProofs only [go_sem, ↓reduceIte]
      refine hK2 _ ?_; clear hK2
      refine bwp_seq fun K hK => bwp_region rfl ?_
      simp -implicitDefEqProofs only [go_sem, ↓reduceIte]
      refine hK _ ?_; clear hK
      refine bwp_block ?_
      refine bwp_leads (S' := rcS [.int .i64 kind, A] [(4, .d (.int .i64 (0 : Nat))), (3, .d (.int .i64 j))]) (Leads.ent [] ⟨by simp [entT, fget, AV.ren, renL, pget, rcS, hTe], by simp [entM, pinv, mget, mset, renL, AV.ren, pget, renL_append, -List.map_map, rcS, hTe], rfl, rfl⟩) ?_
      refine hrow ?_ ?_
      · intro hb S hS
        simp -implicitDefEqProofs only [go_sem, ↓reduceIte]
        exact hbad (List.any_eq_true.2 ⟨_, hmem, by simp [badRowB, hb]⟩) _ hS
      · intro hb
        unfold rcS
        simp -implicitDefEqProofs only [go_sem, ↓reduceIte]
        refine hK1 _ ?_; clear hK1
        refine bwp_region rfl ?_
        simp -implicitDefEqProofs only [go_sem, ↓reduceIte, hw]
        refine ⟨hlt, ?_, Leads.ent [] ⟨by simp [rcS, entT, fget, AV.ren, pget], by simp [rcS, entM], rfl, rfl⟩⟩
        intro l hl
        rw [htk, List.mem_append] at hl
        rcases hl with hl | hl
        · exact hp l hl
        · simp only [List.mem_singleton] at hl
          subst hl
          simp [badRowB, hb, h0]
  · have hlt' : ¬ (j : Int) < rows.length := by omega
    have hin : j = rows.length := by omega
    subst hin
    rw [List.take_of_length_le (Nat.le_refl _)] at hp
    unfold rcS
    refine bwp_seq fun K hK => bwp_region rfl ?_
    simp -implicitDefEqProofs only [go_sem, ↓reduceIte, hlen', hlt']
    refine hK _ ?_; clear hK
    refine bwp_cond false (by simp [ev, fget]) (fun h => nomatch h) (fun _ => ?_)
    refine bwp_exit (hgood ?_ _)
    rw [List.any_eq_false]
    intro l hl
    rw [hp l hl]; decide
theorem refCond_pure {rows : List (List Atom)} {A : DV} (hA : IsSl2 Atom.cells rows A) (kind : Int) : Pure Tryz.prog 79 [.agg [.d (.int .i64 kind), .d A]] (.d (.bool (okCondB kind rows))) := by
  have hAl := hA.len
  refine acalls_of Tryz.func79 ac79_ok Tryz.ntmps79 Tryz.results79 rfl ?_
  unfold ac79
  refine bwp_seq fun K hK => bwp_region rfl ?_
  simp -implicitDefEqProofs only [go_sem, ↓reduceIte]
  refine hK _ ?_; clear hK
  refine bwp_leads (S' := ⟨[(1, .dptr [.int .i64 kind, A]), (2, .d (.bool false))], [], 0⟩) (Leads.frz [] [(0, [.int .i64 kind, A])] ⟨?_, ?_, rfl, rfl, ?_⟩) ?_
  · simp [frzT, fget, AV.cv, cvL, zget, pget]
  · simp [frzM, pinv, zget, mget, cvL, AV.cv]
  · simp [zokFrom, mget, cvL, AV.cv]
  refine bwp_seq fun K1 hK1 => ?_
  refine bwp_seq fun K hK => bwp_region rfl ?_
  simp -implicitDefEqProofs only [go_sem, ↓reduceIte]
  refine hK _ ?_; clear hK
  by_cases k0 : kind = 0
  · refine bwp_cond true (by simp [ev, fget, k0]) (fun _ => ?_) (fun h => nomatch h)
    refine bwp_seq fun K hK => bwp_region rfl ?_
    simp -implicitDefEqProofs only [go_sem, ↓reduceIte, hAl]
    refine hK _ ?_; clear hK
    refine bwp_ret ?_
    simp only [go_sem]
    refine aend_ret _ rfl rfl ⟨?_, rfl⟩
    have : ((rows.length : Int) = 0) = (rows.length = 0) := by apply propext; omega
    simp [fget, okCondB, k0]
  refine bwp_cond false (by simp [ev, fget, k0]) (fun h => nomatch h) (fun _ => ?_)
  refine bwp_skip ?_
  refine hK1 _ ?_; clear hK1
  refine bwp_seq fun K1 hK1 => ?_
  refine bwp_seq fun K hK => bwp_region rfl ?_
  have hle : decide ((rows.length : Int) = 0) = decide (rows.length = 0) := by rw [decide_eq_decide]; omega
  have rest : ∀ (t : Fr) (b : Bool), fget t 28 = .d (.bool b) → fget t 1 = .dptr [.int .i64 kind, A] → fget t 2 = .d (.bool false) → b = (decide (kind < 0) || decide (2 < kind) || decide (rows.length = 0)) → K ⟨t, [], 0⟩ := by
    intro t b h28 h1 h2 hb
    refine hK _ ?_; clear hK
    cases b
    · refine bwp_cond false (by simp [ev, fget, h28]) (fun h => nomatch h) (fun _ => ?_)
      refine bwp_skip ?_
      simp -implicitDefEqProofs only [go_sem, ↓reduceIte]
      refine hK1 _ ?_; clear hK1
      refine bwp_seq fun K2 hK2 => ?_
      refine bwp_seq fun K3 hK3 => ?_
      refine bwp_region rfl ?_
      simp -implicitDefEqProofs only [go_sem, ↓reduceIte]
      refine hK3 _ ?_; clear hK3
      refine bwp_block ?_
      have hsplit := hb.symm
      simp only [Bool.or_eq_false_iff, decide_eq_false_iff_not] at hsplit
      obtain ⟨⟨n1, n2⟩, n3⟩ := hsplit
      have hkk : (decide (kind = 1) || decide (kind = 2)) = true := by
        simp only [Bool.or_eq_true, decide_eq_true_eq]; omega
      have hpos : 0 < rows.length := by omega
      have hcond : okCondB kind rows = !rows.any badRowB := by
        unfold okCondB
        rw [if_neg k0, hkk]
        simp only [hpos, decide_true, Bool.true_and]
      refine bwp_leads (S' := rcS [.int .i64 kind, A] [(3, .d (.int .i64 (0 : Nat)))]) (Leads.ent [] ⟨by simp [entT, fget, AV.ren, renL, pget, rcS, h1, h2], by simp [entM, pinv, mget, mset, renL, AV.ren, pget, renL_append, -List.map_map, rcS, h1, h2], rfl, rfl⟩) ?_
      refine refRows hA ?_ ?_
      · intro hbad S hS
        simp -implicitDefEqProofs only [go_sem, ↓reduceIte]
        exact aend_ret (.d (.bool false)) (by simp [resA, resVs, resV, hS]) rfl ⟨by rw [hcond, hbad]; rfl, rfl⟩
      · rintro hgood ⟨t', m', n'⟩
        simp -implicitDefEqProofs only [go_sem, ↓reduceIte]
        refine hK2 _ ?_; clear hK2
        refine bwp_seq fun K hK => bwp_region (by simp [mbound]) ?_
        simp -implicitDefEqProofs only [go_sem, ↓reduceIte]
        refine hK _ ?_; clear hK
        refine bwp_ret ?_
        simp only [go_sem]
        refine aend_ret _ rfl rfl ⟨?_, rfl⟩
        simp [fget, hcond, hgood]
    · refine bwp_cond true (by simp [ev, fget, h28]) (fun _ => ?_) (fun h => nomatch h)
      refine bwp_seq fun K hK => bwp_region rfl ?_
      simp -implicitDefEqProofs only [go_sem, ↓reduceIte]
      refine hK _ ?_; clear hK
      refine bwp_ret ?_
      simp only [go_sem]
      refine aend_ret _ rfl rfl ⟨?_, rfl⟩
      have hk : okCondB kind rows = false := by
        unfold okCondB
        rw [if_neg k0]
        have h := hb.symm
        simp only [Bool.or_eq_true, decide_eq_true_eq] at h
        rcases h with (h | h) | h
        · have h1 : ¬ kind = 1 := by omega
          have h2 : ¬ kind = 2 := by omega
          simp [h1, h2]
        · have h1 : ¬ kind = 1 := by omega
          have h2 : ¬ kind = 2 := by omega
          simp [h1, h2]
        · simp [h]
      simp [fget, hk]
  clear hK
  simp -implicitDefEqProofs only [go_sem, ↓reduceIte]
  repeat' (first
    | (refine gateK_split (fun hb => ?_) (fun hb => ?_) <;> simp -implicitDefEqProofs only [go_sem, ↓reduceIte, hb, hAl, hle])
    | (refine dGateK_split (fun hb => ?_) (fun hb => ?_) <;> simp -implicitDefEqProofs only [go_sem, ↓reduceIte, hb, hAl, hle])
    | (rw [if_pos (by (try simp only [List.length_append, List.length_cons, List.length_nil, List.length_map]); omega)]; simp -implicitDefEqProofs only [go_sem, ↓reduceIte, hAl, hle]))
  all_goals exact rest _ _ rfl rfl rfl (by clear rest hK1; simp_all <;> (intros; omega))
end Go.Proofs.YtpfbljkfbjjlkaaGreatDoor
