/- A test with one thing turned has another text: plain Lean. -/
import Derived.Test.YtgfkgngpganllaaDoorQ1
import Derived.Test.YtgfkgngpganllaaDoorS2
import Derived.Test.YtgfkgngpganllaaDoorU3
namespace Go.Proofs.YtgfkgngpganllaaDoor
open Go Go.Jq

def uName (t : Test) : Test := ⟨t.name ++ [120], t.inits, t.threads, t.kind, t.rows⟩
def uThreads (t : Test) : Test := ⟨t.name, t.inits, t.threads ++ [[]], t.kind, t.rows⟩
def uInits (t : Test) : Test := ⟨t.name, t.inits ++ [⟨122, 1⟩], t.threads, t.kind, t.rows⟩
def uCond (t : Test) : Test := ⟨t.name, t.inits, t.threads, 1, [[⟨-1, 0, 113, 77⟩]]⟩

theorem testT_len {t : Test} (h : okB t = true) : (testT t).length = (headL t).length + (initsL t.inits).length + (t.threads.flatMap threadL).length + (condL t).length + 2 := by
  unfold testT
  rw [if_pos h]
  simp only [List.length_append, List.length_cons, List.length_nil]

theorem same_ne {t u : Test} (h : t ≠ u) : sameB t u = false := by
  cases hs : sameB t u with
  | false => rfl
  | true => exact absurd ((sameB_iff t u).1 hs) h

structure Apart (t u : Test) : Prop where
  few : FewT u
  ne : t ≠ u
  text : testT t ≠ testT u

theorem apart_name (ls : List Int) (most : Nat) : Apart (small ls most) (uName (small ls most)) := by
  have hg := small_goodTest ls most
  have hf := small_few ls most
  have hok := hg.ok
  generalize ht : small ls most = t at *
  have hnm : t.name = [116] := by rw [← ht]; rfl
  have hok' : okB (uName t) = true := by
    simp only [okB, Bool.and_eq_true] at hok ⊢
    exact ⟨⟨⟨by show isWordB (t.name ++ [120]) = true; rw [hnm]; decide +kernel, hok.1.1.2⟩, hok.1.2⟩, hok.2⟩
  refine ⟨⟨by show (t.name ++ [120]).length ≤ 61; rw [hnm]; decide, hf.inits, hf.values, hf.threads, hf.ins, hf.rows⟩, fun h => ?_, fun h => ?_⟩
  · have := congrArg (fun t => t.name.length) h
    simp [uName] at this
  · have := congrArg List.length h
    rw [testT_len hok, testT_len hok'] at this
    have e1 : (headL (uName t)).length = (headL t).length + 1 := by simp [headL, uName]
    have e2 : condL (uName t) = condL t := rfl
    rw [e1, e2] at this
    simp only [uName] at this
    omega

theorem apart_threads (ls : List Int) (most : Nat) : Apart (small ls most) (uThreads (small ls most)) := by
  have hg := small_goodTest ls most
  have hf := small_few ls most
  have hok := hg.ok
  have hl := small_len ls most
  have hl3 := smallN_le ls
  generalize ht : small ls most = t at *
  have hok' : okB (uThreads t) = true := by
    simp only [okB, Bool.and_eq_true, Bool.not_eq_true', List.any_eq_false] at hok ⊢
    refine ⟨⟨hok.1.1, fun l hl => ?_⟩, hok.2⟩
    rcases List.mem_append.1 hl with hl | hl
    · exact hok.1.2 l hl
    · simp only [List.mem_singleton] at hl; subst hl; simp [badThreadB]
  refine ⟨⟨hf.name, hf.inits, hf.values, by show (t.threads ++ [[]]).length ≤ 7; simp; omega, fun l hl => ?_, hf.rows⟩, fun h => ?_, fun h => ?_⟩
  · rcases List.mem_append.1 hl with hl | hl
    · exact hf.ins l hl
    · simp only [List.mem_singleton] at hl; subst hl; simp
  · have := congrArg (fun t => t.threads.length) h
    simp [uThreads] at this
  · have := congrArg List.length h
    rw [testT_len hok, testT_len hok'] at this
    have e1 : ((uThreads t).threads.flatMap threadL).length = (t.threads.flatMap threadL).length + 11 := by simp [uThreads, threadL]
    have e2 : condL (uThreads t) = condL t := rfl
    have e3 : headL (uThreads t) = headL t := rfl
    rw [e1, e2, e3] at this
    simp only [uThreads] at this
    omega

theorem apart_inits (ls : List Int) (most : Nat) : Apart (small ls most) (uInits (small ls most)) := by
  have hg := small_goodTest ls most
  have hf := small_few ls most
  have hok := hg.ok
  have h1 := hg.once
  generalize ht : small ls most = t at *
  have hok' : okB (uInits t) = true := by
    simp only [okB, Bool.and_eq_true, Bool.not_eq_true'] at hok ⊢
    refine ⟨⟨⟨hok.1.1.1, ?_⟩, hok.1.2⟩, hok.2⟩
    have hb := hok.1.1.2
    simp only [badInitB, List.any_eq_false] at hb ⊢
    intro x hx
    rcases List.mem_append.1 hx with hx | hx
    · exact hb x hx
    · simp only [List.mem_singleton] at hx; subst hx; decide
  refine ⟨⟨hf.name, by show (t.inits ++ [(⟨122, 1⟩ : Init)]).length ≤ 41; simp; omega, fun x hx => ?_, hf.threads, hf.ins, hf.rows⟩, fun h => ?_, fun h => ?_⟩
  · rcases List.mem_append.1 hx with hx | hx
    · exact hf.values x hx
    · simp only [List.mem_singleton] at hx; subst hx; simp [I64]
  · have := congrArg (fun t => t.inits.length) h
    simp [uInits] at this
  · have := congrArg List.length h
    rw [testT_len hok, testT_len hok'] at this
    have e1 : (initsL t.inits).length < (initsL (uInits t).inits).length := by
      have hl := itoa_pos 1
      have hni : (uInits t).inits ≠ [] := by simp [uInits]
      unfold initsL
      rw [if_neg hni]
      split
      · simp
      · simp only [uInits, List.flatMap_append, List.length_append, List.flatMap_cons, List.flatMap_nil, initL, List.length_cons, List.length_nil]
        omega
    have e2 : condL (uInits t) = condL t := rfl
    have e3 : headL (uInits t) = headL t := rfl
    rw [e2, e3] at this
    simp only [uInits] at this e1
    omega

theorem apart_cond (ls : List Int) (most : Nat) : Apart (small ls most) (uCond (small ls most)) := by
  have hg := small_goodTest ls most
  have hf := small_few ls most
  have hok := hg.ok
  have hrows : (small ls most).rows.length = 0 ∧ (small ls most).kind = 0 ∨ (small ls most).rows.length = 2 ∧ (small ls most).kind ≠ 0 ∧ ∃ a b c, (small ls most).rows = [[a], [b, c]] ∧ a.thread = 0 := by
    show (smallRows (smallC ls most)).length = 0 ∧ smallKind (smallC ls most) = 0 ∨ (smallRows (smallC ls most)).length = 2 ∧ smallKind (smallC ls most) ≠ 0 ∧ ∃ a b c, smallRows (smallC ls most) = [[a], [b, c]] ∧ a.thread = 0
    unfold smallRows smallKind
    split
    · exact .inr ⟨rfl, by omega, _, _, _, rfl, rfl⟩
    · exact .inl ⟨rfl, rfl⟩
  generalize ht : small ls most = t at *
  have hcu : okCondB 1 [[⟨-1, 0, 113, 77⟩]] = true := by decide
  have hok' : okB (uCond t) = true := by
    simp only [okB, Bool.and_eq_true] at hok ⊢
    exact ⟨hok.1, hcu⟩
  have hcd : okCondB t.kind t.rows = true := by
    simp only [okB, Bool.and_eq_true] at hok
    exact hok.2
  have i64 : I64a ⟨-1, 0, 113, 77⟩ := by simp [I64a, I64]
  refine ⟨⟨hf.name, hf.inits, hf.values, hf.threads, hf.ins, ⟨by simp [uCond], fun l hl => ?_⟩⟩, fun h => ?_, fun h => ?_⟩
  · simp only [uCond, List.mem_singleton] at hl
    subst hl
    exact ⟨by simp, fun a ha => by simp only [List.mem_singleton] at ha; subst ha; exact i64⟩
  · have := congrArg (fun t => t.rows.length) h
    simp only [uCond, List.length_singleton] at this
    rcases hrows with ⟨h1, _⟩ | ⟨h1, _⟩ <;> omega
  · have := congrArg List.length h
    rw [testT_len hok, testT_len hok'] at this
    have e1 : (condL (uCond t)).length = 16 := by
      show (if condT 1 [[⟨-1, 0, 113, 77⟩]] = [] then [] else condT 1 [[⟨-1, 0, 113, 77⟩]] ++ [10]).length = 16
      decide +kernel
    have e3 : headL (uCond t) = headL t := rfl
    have e4 : (condL t).length ≠ 16 := by
      rcases hrows with ⟨_, hk⟩ | ⟨_, hk, a, b, c, hr, ha⟩
      · have : condT t.kind t.rows = [] := by unfold condT; rw [if_pos (.inl hk)]
        unfold condL
        rw [if_pos this]
        decide
      · have hne := condT_ne hk hcd
        unfold condL
        rw [if_neg hne]
        unfold condT
        rw [if_neg (by simp [hk, hcd]), hr]
        have hw : (wordT t.kind).length = 7 := by unfold wordT; split <;> rfl
        have h0 : ¬ a.thread = -1 := by omega
        have p1 := itoa_pos a.thread
        have p2 := itoa_pos a.reg
        have p3 := itoa_pos a.value
        simp only [List.map_cons, List.map_nil, rowT, Lib.join, List.intercalate, List.intersperse, List.flatten, List.length_append, List.length_cons, List.length_nil, hw, atomT, if_neg h0, regT]
        simp only [List.length_append, List.length_cons, List.length_nil, List.append_eq, List.nil_append, List.append_nil] at *
        omega
    rw [e1, e3] at this
    simp only [uCond] at this
    omega

end Go.Proofs.YtgfkgngpganllaaDoor
