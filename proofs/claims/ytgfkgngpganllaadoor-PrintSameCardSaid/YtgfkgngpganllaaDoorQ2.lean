/- A test's text: what stands where. -/
import Derived.Test.YtgfkgngpganllaaDoorQ1
import Derived.Test.YtgfkgngpganllaaDoorS2
namespace Go.Proofs.YtgfkgngpganllaaDoor
open Go Go.Jq

def isEnd (b : UInt8) : Bool := b == 123 || b == 59 || b == 125

def GoodRow (r : List (List UInt8)) : Prop := ∃ ws e, r = ws ++ [[e]] ∧ (∀ w ∈ ws, Clean w) ∧ isEnd e = true

theorem word_clean {s : List UInt8} (h : isWordB s = true) : Clean s := by
  unfold isWordB at h
  simp only [Bool.and_eq_true, List.all_eq_true, List.mem_range, decide_eq_true_eq] at h
  refine ⟨h.2, List.all_eq_true.2 fun b hb => ?_⟩
  obtain ⟨i, hi, rfl⟩ := List.getElem_of_mem hb
  have := h.1 i hi
  simp only [wordAt, Bool.or_eq_true, Bool.and_eq_true, decide_eq_true_eq] at this
  have e : s.getD i 0 = s[i] := by simp [hi]
  rw [e] at this
  exact cleanC_of (by omega)

theorem atomW_clean {a : Atom} (h : okAtomB a = true) : ∀ w ∈ atomW a, Clean w := by
  have w1 : Clean [58] := ⟨by simp, by decide⟩
  have w2 : Clean [61] := ⟨by simp, by decide⟩
  unfold atomW
  unfold okAtomB at h
  split
  · rename_i ht
    rw [if_pos ht] at h
    simp only [Bool.and_eq_true] at h
    simp only [List.cons_append, List.nil_append, List.forall_mem_cons]
    exact ⟨locT_clean h.2, w2, itoa_clean _, by simp⟩
  · simp only [List.cons_append, List.nil_append, List.forall_mem_cons]
    exact ⟨itoa_clean _, w1, regT_clean _, w2, itoa_clean _, by simp⟩

theorem sepW_clean {s : List UInt8} (hs : Clean s) : ∀ {l : List (List (List UInt8))}, (∀ r ∈ l, ∀ w ∈ r, Clean w) → ∀ w ∈ sepW s l, Clean w
  | [], _ => by simp [sepW]
  | [r], h => by simpa [sepW] using h
  | r :: r' :: l, h => by
    intro w hw
    simp only [sepW, List.mem_append, List.mem_singleton] at hw
    rcases hw with (hw | rfl) | hw
    · exact h r (by simp) w hw
    · exact hs
    · exact sepW_clean hs (fun x hx => h x (List.mem_cons_of_mem _ hx)) w hw

theorem testW_good {t : Test} (h : okB t = true) : ∀ r ∈ testW t, GoodRow r := by
  simp only [okB, Bool.and_eq_true, Bool.not_eq_true', List.any_eq_false] at h
  have hth : ∀ l ∈ t.threads, ∀ x ∈ l, okInsB x = true := fun l hl x hx => by
    have := h.1.2 l hl
    simp only [badThreadB, List.any_eq_true, not_exists, not_and, Bool.not_eq_true', Bool.not_eq_false] at this
    exact this x hx
  have hin : ∀ x ∈ t.inits, isLocB x.loc = true := fun x hx => by
    have := h.1.1.2
    simp only [badInitB, List.any_eq_false, Bool.not_eq_true', Bool.not_eq_false] at this
    exact this x hx
  have w1 : Clean [116, 101, 115, 116] := ⟨by simp, by decide⟩
  have w2 : Clean [105, 110, 105, 116] := ⟨by simp, by decide⟩
  have w3 : Clean [116, 104, 114, 101, 97, 100] := ⟨by simp, by decide⟩
  have w4 : Clean [61] := ⟨by simp, by decide⟩
  have gE : GoodRow [[125]] := ⟨[], 125, rfl, by simp, rfl⟩
  intro r hr
  simp only [testW, List.mem_cons, List.mem_append, List.mem_flatMap, List.not_mem_nil, or_false] at hr
  rcases hr with rfl | ((hr | ⟨l, hl, hr⟩) | hr) | rfl
  · exact ⟨[[116, 101, 115, 116], t.name], 123, rfl, by simp only [List.forall_mem_cons]; exact ⟨w1, word_clean h.1.1.1, by simp⟩, rfl⟩
  · split at hr
    · simp at hr
    · simp only [List.mem_cons, List.mem_append, List.mem_map, List.not_mem_nil, or_false] at hr
      rcases hr with rfl | ⟨x, hx, rfl⟩ | rfl
      · exact ⟨[[105, 110, 105, 116]], 123, rfl, by simp only [List.forall_mem_cons]; exact ⟨w2, by simp⟩, rfl⟩
      · exact ⟨[locT x.loc, [61], Lib.itoa x.value], 59, rfl, by simp only [List.forall_mem_cons]; exact ⟨locT_clean (hin x hx), w4, itoa_clean _, by simp⟩, rfl⟩
      · exact gE
  · simp only [threadW, List.mem_cons, List.mem_append, List.mem_map, List.not_mem_nil, or_false] at hr
    rcases hr with rfl | ⟨x, hx, rfl⟩ | rfl
    · exact ⟨[[116, 104, 114, 101, 97, 100]], 123, rfl, by simp only [List.forall_mem_cons]; exact ⟨w3, by simp⟩, rfl⟩
    · exact ⟨partsI x, 59, rfl, parts_clean (hth l hl x hx), rfl⟩
    · exact gE
  · split at hr
    · simp at hr
    · rename_i hk
      simp only [List.mem_cons, List.not_mem_nil, or_false] at hr
      subst hr
      obtain ⟨_, h1, h2⟩ := rows_ok hk h.2
      refine ⟨[kindW t.kind] ++ sepW [124] (t.rows.map rowW), 59, rfl, ?_, rfl⟩
      intro w hw
      rcases List.mem_append.1 hw with hw | hw
      · simp only [List.mem_singleton] at hw
        subst hw
        unfold kindW
        split <;> exact ⟨by simp, by decide⟩
      · refine sepW_clean (s := [124]) ⟨by simp, by decide⟩ ?_ w hw
        intro r hr
        obtain ⟨l, hl, rfl⟩ := List.mem_map.1 hr
        refine sepW_clean (s := [38]) ⟨by simp, by decide⟩ ?_
        intro r hr
        obtain ⟨a, ha, rfl⟩ := List.mem_map.1 hr
        exact atomW_clean ((h2 l hl).2 a ha)
  · exact gE

/-! ### Byte by byte -/

def okAt (p c : UInt8) : Bool := (c != 10 || isEnd p) && (c != 32 || (p != 32 && p != 10))
def okFrom (p : UInt8) : List UInt8 → Bool
  | [] => true
  | c :: r => okAt p c && okFrom c r
def lastF (p : UInt8) : List UInt8 → UInt8
  | [] => p
  | c :: r => lastF c r

theorem okFrom_append (a : List UInt8) : ∀ (p : UInt8) (b : List UInt8), okFrom p (a ++ b) = (okFrom p a && okFrom (lastF p a) b) := by
  induction a with
  | nil => intro p b; rfl
  | cons c a ih => intro p b; simp only [List.cons_append, okFrom, lastF, ih, Bool.and_assoc]

theorem lastF_append (a : List UInt8) : ∀ (p : UInt8) (b : List UInt8), lastF p (a ++ b) = lastF (lastF p a) b := by
  induction a with
  | nil => intro p b; rfl
  | cons c a ih => intro p b; simp only [List.cons_append, lastF, ih]

def nEnds (s : List UInt8) : Nat := s.countP isEnd
def nLines (s : List UInt8) : Nat := s.countP (· == 10)

theorem nEnds_append (a b : List UInt8) : nEnds (a ++ b) = nEnds a + nEnds b := List.countP_append
theorem nLines_append (a b : List UInt8) : nLines (a ++ b) = nLines a + nLines b := List.countP_append
theorem nEnds_cons (c : UInt8) (s : List UInt8) : nEnds (c :: s) = nEnds s + if isEnd c = true then 1 else 0 := List.countP_cons
theorem nLines_cons (c : UInt8) (s : List UInt8) : nLines (c :: s) = nLines s + if (c == 10) = true then 1 else 0 := List.countP_cons

theorem clean_run {w : List UInt8} (h : w.all cleanC = true) : ∀ p : UInt8, okFrom p w = true ∧ (lastF p w = p ∨ cleanC (lastF p w) = true) ∧ nEnds w = 0 ∧ nLines w = 0 := by
  induction w with
  | nil => intro p; exact ⟨rfl, .inl rfl, rfl, rfl⟩
  | cons c w ih =>
    intro p
    simp only [List.all_cons, Bool.and_eq_true] at h
    obtain ⟨h1, h2, h3, h4⟩ := ih h.2 c
    have hc := h.1
    simp only [cleanC, Bool.and_eq_true, bne_iff_ne] at hc
    refine ⟨?_, .inr ?_, ?_, ?_⟩
    · simp [okFrom, okAt, h1, hc]
    · simp only [lastF]
      rcases h2 with h2 | h2
      · rw [h2]; exact h.1
      · exact h2
    · have : isEnd c = false := by simp [isEnd, hc]
      simpa [nEnds, List.countP_cons, this] using h3
    · simpa [nLines, List.countP_cons, hc] using h4

/-- One line's text. -/
structure Chunk (p : UInt8) (s : List UInt8) : Prop where
  ok : okFrom p s = true
  last : lastF p s = 10
  ends : nEnds s = 1
  lines : nLines s = 1

theorem end_byte {e : UInt8} (h : isEnd e = true) : e = 123 ∨ e = 59 ∨ e = 125 := by
  simpa [isEnd, or_assoc] using h

theorem tail_chunk {e : UInt8} (he : isEnd e = true) : ∀ (ws : List (List UInt8)), (∀ w ∈ ws, Clean w) → ∀ p : UInt8, cleanC p = true → Chunk p (Lib.joinTail [32] (ws ++ [[e]]) ++ [10])
  | [], _, p, hp => by
    simp only [cleanC, Bool.and_eq_true, bne_iff_ne] at hp
    rcases end_byte he with rfl | rfl | rfl <;> exact ⟨by simp [Lib.joinTail, okFrom, okAt, hp, isEnd], rfl, rfl, rfl⟩
  | w :: ws, h, p, hp => by
    obtain ⟨hw, hwc⟩ := h w (by simp)
    obtain ⟨c, w', rfl⟩ := List.exists_cons_of_ne_nil hw
    simp only [List.all_cons, Bool.and_eq_true] at hwc
    obtain ⟨h1, h2, h3, h4⟩ := clean_run hwc.2 c
    have hl : cleanC (lastF c w') = true := by
      rcases h2 with h2 | h2
      · rw [h2]; exact hwc.1
      · exact h2
    have ih := tail_chunk he ws (fun x hx => h x (List.mem_cons_of_mem _ hx)) _ hl
    have e1 : Lib.joinTail [32] (((c :: w') :: ws) ++ [[e]]) ++ [10] = 32 :: c :: (w' ++ (Lib.joinTail [32] (ws ++ [[e]]) ++ [10])) := by simp [Lib.joinTail]
    have hc := hwc.1
    simp only [cleanC, Bool.and_eq_true, bne_iff_ne] at hc hp
    have hce : isEnd c = false := by simp [isEnd, hc]
    rw [e1]
    refine ⟨?_, ?_, ?_, ?_⟩
    · simp only [okFrom, okFrom_append, h1, ih.ok, Bool.true_and, Bool.and_true]
      simp [okAt, hc, hp]
    · simp only [lastF, lastF_append w', ih.last]
    · have h32 : isEnd 32 = false := rfl
      rw [nEnds_cons, nEnds_cons, nEnds_append, ih.ends, h3, hce, h32]
      rfl
    · have hcn : (c == 10) = false := by simp [hc]
      rw [nLines_cons, nLines_cons, nLines_append, ih.lines, h4, hcn]
      rfl

theorem row_chunk {r : List (List UInt8)} (h : GoodRow r) : Chunk 10 (lineW r) := by
  obtain ⟨ws, e, rfl, hws, he⟩ := h
  cases ws with
  | nil => rcases end_byte he with rfl | rfl | rfl <;> exact ⟨by decide, rfl, rfl, rfl⟩
  | cons w ws =>
    obtain ⟨hw, hwc⟩ := hws w (by simp)
    obtain ⟨c, w', rfl⟩ := List.exists_cons_of_ne_nil hw
    simp only [List.all_cons, Bool.and_eq_true] at hwc
    obtain ⟨h1, h2, h3, h4⟩ := clean_run hwc.2 c
    have hl : cleanC (lastF c w') = true := by
      rcases h2 with h2 | h2
      · rw [h2]; exact hwc.1
      · exact h2
    have ih := tail_chunk he ws (fun x hx => hws x (List.mem_cons_of_mem _ hx)) _ hl
    have e1 : lineW (((c :: w') :: ws) ++ [[e]]) = c :: (w' ++ (Lib.joinTail [32] (ws ++ [[e]]) ++ [10])) := by simp [lineW, Lib.join_cons]
    have hc := hwc.1
    simp only [cleanC, Bool.and_eq_true, bne_iff_ne] at hc
    have hce : isEnd c = false := by simp [isEnd, hc]
    rw [e1]
    refine ⟨?_, ?_, ?_, ?_⟩
    · simp only [okFrom, okFrom_append, h1, ih.ok, Bool.true_and, Bool.and_true]
      simp [okAt, hc]
    · simp only [lastF, lastF_append w', ih.last]
    · rw [nEnds_cons, nEnds_append, ih.ends, h3, hce]
      rfl
    · have hcn : (c == 10) = false := by simp [hc]
      rw [nLines_cons, nLines_append, ih.lines, h4, hcn]
      rfl

theorem rows_text : ∀ (rs : List (List (List UInt8))), (∀ r ∈ rs, GoodRow r) → okFrom 10 (rs.flatMap lineW) = true ∧ lastF 10 (rs.flatMap lineW) = 10 ∧ nEnds (rs.flatMap lineW) = rs.length ∧ nLines (rs.flatMap lineW) = rs.length
  | [], _ => ⟨rfl, rfl, rfl, rfl⟩
  | r :: rs, h => by
    have hc := row_chunk (h r (by simp))
    obtain ⟨h1, h2, h3, h4⟩ := rows_text rs fun x hx => h x (List.mem_cons_of_mem _ hx)
    rw [List.flatMap_cons]
    refine ⟨?_, ?_, ?_, ?_⟩
    · rw [okFrom_append, hc.ok, hc.last, h1]; rfl
    · rw [lastF_append, hc.last, h2]
    · rw [nEnds_append, hc.ends, h3, List.length_cons]; omega
    · rw [nLines_append, hc.lines, h4, List.length_cons]; omega

theorem lines_law {t : Test} (h : okB t = true) : okFrom 10 (testT t) = true ∧ lastF 10 (testT t) = 10 ∧ nEnds (testT t) = nLines (testT t) ∧ 0 < nLines (testT t) := by
  rw [testT_rows h]
  obtain ⟨h1, h2, h3, h4⟩ := rows_text _ (testW_good h)
  exact ⟨h1, h2, by omega, by rw [h4]; simp [testW]⟩

end Go.Proofs.YtgfkgngpganllaaDoor
