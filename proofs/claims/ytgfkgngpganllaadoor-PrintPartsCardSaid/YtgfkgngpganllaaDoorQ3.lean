/- PrintLines comes to true, whatever it is given. -/
import Derived.Test.YtgfkgngpganllaaDoorQ2
import Derived.Test.YtgfkgngpganllaaDoorP8
import Derived.Test.YtgfkgngpganllaaDoorD6
namespace Go.Proofs.YtgfkgngpganllaaDoor
open Go Go.Jq
set_option maxRecDepth 100000
set_option linter.unusedSimpArgs false

def prevB (s : List UInt8) (i : Nat) : UInt8 := if i = 0 then 10 else s.getD (i - 1) 0

theorem okFrom_at : ∀ (s : List UInt8) (p : UInt8), okFrom p s = true → ∀ i, i < s.length → okAt (if i = 0 then p else s.getD (i - 1) 0) (s.getD i 0) = true
  | [], _, _, i, hi => by simp at hi
  | c :: s, p, h, i, hi => by
    simp only [okFrom, Bool.and_eq_true] at h
    cases i with
    | zero => simpa using h.1
    | succ i =>
      have := okFrom_at s c h.2 i (by simpa using hi)
      cases i with
      | zero => simpa using this
      | succ i => simpa using this

theorem lastF_get : ∀ (s : List UInt8) (p : UInt8), s ≠ [] → lastF p s = s.getD (s.length - 1) 0
  | [], _, h => absurd rfl h
  | [c], _, _ => rfl
  | c :: c' :: s, p, _ => by
    have := lastF_get (c' :: s) c (by simp)
    simp only [lastF] at this ⊢
    rw [this]
    simp

/-- The state in PrintLines. -/
def plS (s : List UInt8) (l e i : Nat) (ex : Fr) : St := ⟨ex ++ [(4, .d (.str s)), (5, .d (.int .i64 l)), (6, .d (.int .i64 e)), (7, .d (.int .i64 i)), (2, .d (.bool false))], [], 0⟩

theorem u8_eq (c : UInt8) (k : Nat) (hk : k < 256) : ((c.toNat : Int) = (k : Int)) = (c = UInt8.ofNat k) := by
  apply propext
  constructor
  · intro h
    have : c.toNat = k := by omega
    rw [← this]
    simp
  · rintro rfl
    have : (UInt8.ofNat k).toNat = k := by rw [UInt8.toNat_ofNat']; omega
    omega

set_option maxHeartbeats 4000000 in
theorem pl_loop {s : List UInt8} (hok : okFrom 10 s = true) (hs : s.length ≤ 1000000000) {Q : Exit → St → Prop} (hQ : Q (.exit 0) (plS s (nLines s) (nEnds s) s.length [])) :
    BWP Tryd.prog (mbound []) 99 (.loop ac4L0) (plS s 0 0 0 []) Q := by
  have cl : ∀ (l : List UInt8), nLines l ≤ l.length := fun l => List.countP_le_length
  have ce : ∀ (l : List UInt8), nEnds l ≤ l.length := fun l => List.countP_le_length
  refine bwp_count (fun i => plS s (nLines (s.take i)) (nEnds (s.take i)) i []) s.length ?_
  intro i hi
  unfold ac4L0 plS
  simp only [List.nil_append]
  have b1 := cl (s.take i)
  have b2 := ce (s.take i)
  rw [List.length_take] at b1 b2
  by_cases hlt : i < s.length
  · have hlt' : (i : Int) < s.length := by omega
    have hat := okFrom_at s 10 hok i hlt
    have htk : s.take (i + 1) = s.take i ++ [s.getD i 0] := by
      rw [List.take_succ_eq_append_getElem hlt]; simp [hlt]
    have hl2 : nLines (s.take (i + 1)) = nLines (s.take i) + if s.getD i 0 == 10 then 1 else 0 := by rw [htk, nLines_append, nLines_cons]; simp [nLines]
    have he2 : nEnds (s.take (i + 1)) = nEnds (s.take i) + if isEnd (s.getD i 0) then 1 else 0 := by rw [htk, nEnds_append, nEnds_cons]; simp [nEnds]
    generalize hc : s.getD i 0 = c at hat hl2 he2
    generalize hp : (if i = 0 then (10 : UInt8) else s.getD (i - 1) 0) = p at hat
    generalize nLines (s.take (i + 1)) = l' at hl2
    generalize nEnds (s.take (i + 1)) = e' at he2
    generalize nLines (s.take i) = l at b1 hl2
    generalize nEnds (s.take i) = e at b2 he2
    have hw : IntKind.i64.wrap ((i : Int) + 1) = ((i + 1 : Nat) : Int) := by rw [wrap_i64 (by omega) (by omega)]; rfl
    have hwl : IntKind.i64.wrap ((l : Int) + 1) = ((l + 1 : Nat) : Int) := by rw [wrap_i64 (by omega) (by omega)]; rfl
    have hwe : IntKind.i64.wrap ((e : Int) + 1) = ((e + 1 : Nat) : Int) := by rw [wrap_i64 (by omega) (by omega)]; rfl
    have k10 : ((c.toNat : Int) = 10) = (c = 10) := u8_eq c 10 (by omega)
    have k32 : ((c.toNat : Int) = 32) = (c = 32) := u8_eq c 32 (by omega)
    have k123 : ((c.toNat : Int) = 123) = (c = 123) := u8_eq c 123 (by omega)
    have k59 : ((c.toNat : Int) = 59) = (c = 59) := u8_eq c 59 (by omega)
    have k125 : ((c.toNat : Int) = 125) = (c = 125) := u8_eq c 125 (by omega)
    have q10 : ((p.toNat : Int) = 10) = (p = 10) := u8_eq p 10 (by omega)
    have q32 : ((p.toNat : Int) = 32) = (p = 32) := u8_eq p 32 (by omega)
    have q123 : ((p.toNat : Int) = 123) = (p = 123) := u8_eq p 123 (by omega)
    have q59 : ((p.toNat : Int) = 59) = (p = 59) := u8_eq p 59 (by omega)
    have q125 : ((p.toNat : Int) = 125) = (p = 125) := u8_eq p 125 (by omega)
    have a10 : (c.toNat : Int) = 10 → (p.toNat : Int) = 123 ∨ (p.toNat : Int) = 59 ∨ (p.toNat : Int) = 125 := by
      rw [k10, q123, q59, q125]
      rintro rfl
      exact end_byte (by simpa [okAt] using hat)
    have a32 : (c.toNat : Int) = 32 → ¬ (p.toNat : Int) = 32 ∧ ¬ (p.toNat : Int) = 10 := by
      rw [k32, q32, q10]
      rintro rfl
      simpa [okAt] using hat
    have hl3 : l' = l + if (c.toNat : Int) = 10 then 1 else 0 := by
      rw [hl2]
      by_cases h : c = 10
      · subst h; rfl
      · have h' : ¬ (c.toNat : Int) = 10 := by rw [k10]; exact h
        rw [if_neg h', if_neg (by simpa using h)]
    have he3 : e' = e + if (c.toNat : Int) = 123 ∨ (c.toNat : Int) = 59 ∨ (c.toNat : Int) = 125 then 1 else 0 := by
      have h' : ((c.toNat : Int) = 123 ∨ (c.toNat : Int) = 59 ∨ (c.toNat : Int) = 125) = (c = 123 ∨ c = 59 ∨ c = 125) := by rw [k123, k59, k125]
      rw [he2]
      by_cases h : c = 123 ∨ c = 59 ∨ c = 125
      · rw [if_pos (h'.mpr h)]
        rcases h with h | h | h <;> subst h <;> rfl
      · rw [if_neg (fun g => h (h'.mp g))]
        simp only [not_or] at h
        simp [isEnd, h]
    clear hl2 he2 hat k10 k32 k123 k59 k125 q10 q32 q123 q59 q125
    have prev : i ≠ 0 → IntKind.i64.wrap ((i : Int) - 1) = ((i - 1 : Nat) : Int) ∧ ((i - 1 : Nat) : Int) < s.length ∧ s.getD (i - 1) 0 = p := fun h0 => by
      refine ⟨?_, by omega, ?_⟩
      · rw [wrap_i64 (by omega) (by omega)]; omega
      · rw [if_neg h0] at hp; exact hp
    have p0 : i = 0 → (p.toNat : Int) = 10 := fun h0 => by rw [if_pos h0] at hp; subst hp; rfl
    clear hp
    generalize hcn : (c.toNat : Int) = cn at a10 a32 hl3 he3
    generalize hpn : (p.toNat : Int) = pn at a10 a32 p0
    refine bwp_seq fun K1 hK1 => ?_
    refine bwp_seq fun K hK => bwp_region rfl ?_
    simp -implicitDefEqProofs only [go_sem, ↓reduceIte, Nat.reduceEqDiff, Nat.reduceAdd, Nat.reduceLeDiff, Nat.reduceMul, Nat.reduceSub, Int.reduceLE, Int.reduceLT, Int.reduceEq, Int.reduceToNat, Int.reducePow, Int.reduceNeg, hlt']
    refine hK _ ?_; clear hK
    refine bwp_cond true (by simp [ev, fget]) (fun _ => ?_) (fun h => nomatch h)
    refine bwp_skip ?_
    refine hK1 _ ?_; clear hK1
    refine bwp_seq fun K1 hK1 => ?_
    refine bwp_block ?_
    refine bwp_seq fun K hK => bwp_region rfl ?_
    simp -implicitDefEqProofs only [go_sem, ↓reduceIte, Nat.reduceEqDiff, Nat.reduceAdd, Nat.reduceLeDiff, Nat.reduceMul, Nat.reduceSub, Int.reduceLE, Int.reduceLT, Int.reduceEq, Int.reduceToNat, Int.reducePow, Int.reduceNeg, hlt', Int.natCast_nonneg, Int.toNat_natCast, hc, hcn]
    refine hK _ ?_; clear hK
    refine bwp_seq fun K2 hK2 => ?_
    have fin2 : ∀ S : St, Leads (mbound []) 99 S (plS s l' e i [(8, .d (.int .u8 cn))]) → K2 S := by
      intro S hS
      refine hK2 _ ?_; clear hK2
      refine bwp_leads hS ?_
      unfold plS
      simp only [List.cons_append, List.nil_append]
      refine bwp_seq fun K3 hK3 => ?_
      have fin3 : ∀ S : St, Leads (mbound []) 99 S (plS s l' e' i [(8, .d (.int .u8 cn))]) → K3 S := by
        intro S hS
        refine hK3 _ ?_; clear hK3
        refine bwp_leads hS ?_
        unfold plS
        simp only [List.cons_append, List.nil_append]
        have fin4 : ∀ S : St, Leads (mbound []) 99 S (plS s l' e' i []) → K1 S := by
          intro S hS
          refine hK1 _ ?_; clear hK1
          refine bwp_leads hS ?_
          unfold plS
          simp only [List.nil_append]
          refine bwp_region rfl ?_
          simp -implicitDefEqProofs only [go_sem, ↓reduceIte, Nat.reduceEqDiff, Nat.reduceAdd, Nat.reduceLeDiff, Nat.reduceMul, Nat.reduceSub, Int.reduceLE, Int.reduceLT, Int.reduceEq, Int.reduceToNat, Int.reducePow, Int.reduceNeg, hw]
          exact ⟨hlt, (Leads.ent [] ⟨by simp [entT, fget, AV.ren, renL, pget], by simp [entM, pinv, mget, mset, renL, AV.ren, pget, renL_append, -List.map_map], rfl, rfl⟩)⟩
        by_cases h32 : cn = 32
        · have hi0 : i ≠ 0 := fun h0 => (a32 h32).2 (p0 h0)
          obtain ⟨p1, p2, p3⟩ := prev hi0
          obtain ⟨p4, p5⟩ := a32 h32
          have hi0' : ¬ (i : Int) = 0 := by omega
          refine bwp_seq fun K hK => bwp_region rfl ?_
          simp -implicitDefEqProofs only [go_sem, ↓reduceIte, Nat.reduceEqDiff, Nat.reduceAdd, Nat.reduceLeDiff, Nat.reduceMul, Nat.reduceSub, Int.reduceLE, Int.reduceLT, Int.reduceEq, Int.reduceToNat, Int.reducePow, Int.reduceNeg, h32, hi0', p1, p2, p3, Int.natCast_nonneg, Int.toNat_natCast, hpn, p4, p5]
          refine hK _ ?_; clear hK
          refine bwp_cond false (by simp [ev, fget]) (fun h => nomatch h) (fun _ => ?_)
          refine bwp_skip ?_
          exact fin4 _ (Leads.ent [] ⟨by simp [entT, fget, AV.ren, renL, pget, plS], by simp [entM, pinv, mget, mset, mdel, renL, AV.ren, pget, renL_append, -List.map_map, plS], rfl, rfl⟩)
        · refine bwp_seq fun K hK => bwp_region rfl ?_
          simp -implicitDefEqProofs only [go_sem, ↓reduceIte, Nat.reduceEqDiff, Nat.reduceAdd, Nat.reduceLeDiff, Nat.reduceMul, Nat.reduceSub, Int.reduceLE, Int.reduceLT, Int.reduceEq, Int.reduceToNat, Int.reducePow, Int.reduceNeg, h32]
          refine hK _ ?_; clear hK
          refine bwp_cond false (by simp [ev, fget, h32]) (fun h => nomatch h) (fun _ => ?_)
          refine bwp_skip ?_
          exact fin4 _ (Leads.ent [] ⟨by simp [entT, fget, AV.ren, renL, pget, plS], by simp [entM, pinv, mget, mset, mdel, renL, AV.ren, pget, renL_append, -List.map_map, plS], rfl, rfl⟩)
      by_cases h1 : cn = 123
      · refine bwp_seq fun K hK => bwp_region rfl ?_
        simp -implicitDefEqProofs only [go_sem, ↓reduceIte, Nat.reduceEqDiff, Nat.reduceAdd, Nat.reduceLeDiff, Nat.reduceMul, Nat.reduceSub, Int.reduceLE, Int.reduceLT, Int.reduceEq, Int.reduceToNat, Int.reducePow, Int.reduceNeg, h1]
        refine hK _ ?_; clear hK
        refine bwp_cond true (by simp [ev, fget]) (fun _ => ?_) (fun h => nomatch h)
        refine bwp_region rfl ?_
        simp -implicitDefEqProofs only [go_sem, ↓reduceIte, Nat.reduceEqDiff, Nat.reduceAdd, Nat.reduceLeDiff, Nat.reduceMul, Nat.reduceSub, Int.reduceLE, Int.reduceLT, Int.reduceEq, Int.reduceToNat, Int.reducePow, Int.reduceNeg, hwe]
        exact fin3 _ (Leads.ent [] ⟨by simp [entT, fget, AV.ren, renL, pget, plS, he3, h1], by simp [entM, pinv, mget, mset, mdel, renL, AV.ren, pget, renL_append, -List.map_map, plS, he3, h1], rfl, rfl⟩)
      · by_cases h2 : cn = 59
        · refine bwp_seq fun K hK => bwp_region rfl ?_
          simp -implicitDefEqProofs only [go_sem, ↓reduceIte, Nat.reduceEqDiff, Nat.reduceAdd, Nat.reduceLeDiff, Nat.reduceMul, Nat.reduceSub, Int.reduceLE, Int.reduceLT, Int.reduceEq, Int.reduceToNat, Int.reducePow, Int.reduceNeg, h2]
          refine hK _ ?_; clear hK
          refine bwp_cond true (by simp [ev, fget]) (fun _ => ?_) (fun h => nomatch h)
          refine bwp_region rfl ?_
          simp -implicitDefEqProofs only [go_sem, ↓reduceIte, Nat.reduceEqDiff, Nat.reduceAdd, Nat.reduceLeDiff, Nat.reduceMul, Nat.reduceSub, Int.reduceLE, Int.reduceLT, Int.reduceEq, Int.reduceToNat, Int.reducePow, Int.reduceNeg, hwe]
          exact fin3 _ (Leads.ent [] ⟨by simp [entT, fget, AV.ren, renL, pget, plS, he3, h2], by simp [entM, pinv, mget, mset, mdel, renL, AV.ren, pget, renL_append, -List.map_map, plS, he3, h2], rfl, rfl⟩)
        · by_cases h3 : cn = 125
          · refine bwp_seq fun K hK => bwp_region rfl ?_
            simp -implicitDefEqProofs only [go_sem, ↓reduceIte, Nat.reduceEqDiff, Nat.reduceAdd, Nat.reduceLeDiff, Nat.reduceMul, Nat.reduceSub, Int.reduceLE, Int.reduceLT, Int.reduceEq, Int.reduceToNat, Int.reducePow, Int.reduceNeg, h3]
            refine hK _ ?_; clear hK
            refine bwp_cond true (by simp [ev, fget]) (fun _ => ?_) (fun h => nomatch h)
            refine bwp_region rfl ?_
            simp -implicitDefEqProofs only [go_sem, ↓reduceIte, Nat.reduceEqDiff, Nat.reduceAdd, Nat.reduceLeDiff, Nat.reduceMul, Nat.reduceSub, Int.reduceLE, Int.reduceLT, Int.reduceEq, Int.reduceToNat, Int.reducePow, Int.reduceNeg, hwe]
            exact fin3 _ (Leads.ent [] ⟨by simp [entT, fget, AV.ren, renL, pget, plS, he3, h3], by simp [entM, pinv, mget, mset, mdel, renL, AV.ren, pget, renL_append, -List.map_map, plS, he3, h3], rfl, rfl⟩)
          · refine bwp_seq fun K hK => bwp_region rfl ?_
            simp -implicitDefEqProofs only [go_sem, ↓reduceIte, Nat.reduceEqDiff, Nat.reduceAdd, Nat.reduceLeDiff, Nat.reduceMul, Nat.reduceSub, Int.reduceLE, Int.reduceLT, Int.reduceEq, Int.reduceToNat, Int.reducePow, Int.reduceNeg, h1, h2, h3]
            refine hK _ ?_; clear hK
            refine bwp_cond false (by simp [ev, fget, h3]) (fun h => nomatch h) (fun _ => ?_)
            refine bwp_skip ?_
            exact fin3 _ (Leads.ent [] ⟨by simp [entT, fget, AV.ren, renL, pget, plS, he3, h1, h2, h3], by simp [entM, pinv, mget, mset, mdel, renL, AV.ren, pget, renL_append, -List.map_map, plS, he3, h1, h2, h3], rfl, rfl⟩)
    by_cases h10 : cn = 10
    · have hi0 : i ≠ 0 := fun h0 => by
        have := p0 h0
        have := a10 h10
        omega
      obtain ⟨p1, p2, p3⟩ := prev hi0
      have hi0' : ¬ (i : Int) = 0 := by omega
      refine bwp_seq fun K hK => bwp_region rfl ?_
      simp -implicitDefEqProofs only [go_sem, ↓reduceIte, Nat.reduceEqDiff, Nat.reduceAdd, Nat.reduceLeDiff, Nat.reduceMul, Nat.reduceSub, Int.reduceLE, Int.reduceLT, Int.reduceEq, Int.reduceToNat, Int.reducePow, Int.reduceNeg, h10]
      refine hK _ ?_; clear hK
      refine bwp_cond true (by simp [ev, fget]) (fun _ => ?_) (fun h => nomatch h)
      refine bwp_seq fun K hK => bwp_region rfl ?_
      simp -implicitDefEqProofs only [go_sem, ↓reduceIte, Nat.reduceEqDiff, Nat.reduceAdd, Nat.reduceLeDiff, Nat.reduceMul, Nat.reduceSub, Int.reduceLE, Int.reduceLT, Int.reduceEq, Int.reduceToNat, Int.reducePow, Int.reduceNeg, hwl]
      refine hK _ ?_; clear hK
      rcases a10 h10 with h | h | h
      · refine bwp_seq fun K hK => bwp_region rfl ?_
        simp -implicitDefEqProofs only [go_sem, ↓reduceIte, Nat.reduceEqDiff, Nat.reduceAdd, Nat.reduceLeDiff, Nat.reduceMul, Nat.reduceSub, Int.reduceLE, Int.reduceLT, Int.reduceEq, Int.reduceToNat, Int.reducePow, Int.reduceNeg, hi0', p1, p2, p3, Int.natCast_nonneg, Int.toNat_natCast, hpn, h]
        refine hK _ ?_; clear hK
        refine bwp_cond false (by simp [ev, fget]) (fun h => nomatch h) (fun _ => ?_)
        refine bwp_skip ?_
        exact fin2 _ (Leads.ent [] ⟨by simp [entT, fget, AV.ren, renL, pget, plS, hl3, h10], by simp [entM, pinv, mget, mset, mdel, renL, AV.ren, pget, renL_append, -List.map_map, plS, hl3, h10], rfl, rfl⟩)
      · refine bwp_seq fun K hK => bwp_region rfl ?_
        simp -implicitDefEqProofs only [go_sem, ↓reduceIte, Nat.reduceEqDiff, Nat.reduceAdd, Nat.reduceLeDiff, Nat.reduceMul, Nat.reduceSub, Int.reduceLE, Int.reduceLT, Int.reduceEq, Int.reduceToNat, Int.reducePow, Int.reduceNeg, hi0', p1, p2, p3, Int.natCast_nonneg, Int.toNat_natCast, hpn, h]
        refine hK _ ?_; clear hK
        refine bwp_cond false (by simp [ev, fget]) (fun h => nomatch h) (fun _ => ?_)
        refine bwp_skip ?_
        exact fin2 _ (Leads.ent [] ⟨by simp [entT, fget, AV.ren, renL, pget, plS, hl3, h10], by simp [entM, pinv, mget, mset, mdel, renL, AV.ren, pget, renL_append, -List.map_map, plS, hl3, h10], rfl, rfl⟩)
      · refine bwp_seq fun K hK => bwp_region rfl ?_
        simp -implicitDefEqProofs only [go_sem, ↓reduceIte, Nat.reduceEqDiff, Nat.reduceAdd, Nat.reduceLeDiff, Nat.reduceMul, Nat.reduceSub, Int.reduceLE, Int.reduceLT, Int.reduceEq, Int.reduceToNat, Int.reducePow, Int.reduceNeg, hi0', p1, p2, p3, Int.natCast_nonneg, Int.toNat_natCast, hpn, h]
        refine hK _ ?_; clear hK
        refine bwp_cond false (by simp [ev, fget]) (fun h => nomatch h) (fun _ => ?_)
        refine bwp_skip ?_
        exact fin2 _ (Leads.ent [] ⟨by simp [entT, fget, AV.ren, renL, pget, plS, hl3, h10], by simp [entM, pinv, mget, mset, mdel, renL, AV.ren, pget, renL_append, -List.map_map, plS, hl3, h10], rfl, rfl⟩)
    · refine bwp_seq fun K hK => bwp_region rfl ?_
      simp -implicitDefEqProofs only [go_sem, ↓reduceIte, Nat.reduceEqDiff, Nat.reduceAdd, Nat.reduceLeDiff, Nat.reduceMul, Nat.reduceSub, Int.reduceLE, Int.reduceLT, Int.reduceEq, Int.reduceToNat, Int.reducePow, Int.reduceNeg, h10]
      refine hK _ ?_; clear hK
      refine bwp_cond false (by simp [ev, fget, h10]) (fun h => nomatch h) (fun _ => ?_)
      refine bwp_skip ?_
      exact fin2 _ (Leads.ent [] ⟨by simp [entT, fget, AV.ren, renL, pget, plS, hl3, h10], by simp [entM, pinv, mget, mset, mdel, renL, AV.ren, pget, renL_append, -List.map_map, plS, hl3, h10], rfl, rfl⟩)
  · have hlt' : ¬ (i : Int) < s.length := by omega
    have hin : i = s.length := by omega
    subst hin
    refine bwp_seq fun K1 hK1 => ?_
    refine bwp_seq fun K hK => bwp_region rfl ?_
    simp -implicitDefEqProofs only [go_sem, ↓reduceIte, Nat.reduceEqDiff, Nat.reduceAdd, Nat.reduceLeDiff, Nat.reduceMul, Nat.reduceSub, Int.reduceLE, Int.reduceLT, Int.reduceEq, Int.reduceToNat, Int.reducePow, Int.reduceNeg, hlt']
    refine hK _ ?_; clear hK
    refine bwp_cond false (by simp [ev, fget]) (fun h => nomatch h) (fun _ => ?_)
    rw [List.take_length]
    refine bwp_leads (S' := plS s (nLines s) (nEnds s) s.length []) (Leads.ent [] ⟨by simp [entT, fget, AV.ren, renL, pget, plS], by simp [entM, pinv, mget, mset, renL, AV.ren, pget, renL_append, -List.map_map, plS], rfl, rfl⟩) ?_
    exact bwp_exit hQ

set_option maxHeartbeats 2000000 in
theorem printLines_pure {ls : List Int} {X : DV} (hX : IsInts ls X) : Pure Tryd.prog 4 [.d X] (.d (.bool true)) := by
  have hok := (small_goodTest ls 12).ok
  obtain ⟨h1, h2, h3, h4⟩ := lines_law hok
  have hfew := small_few ls 12
  have hlen : (testT (small ls 12)).length ≤ 1000000000 := by
    have a1 := hfew.name
    have a2 := initsL_len hfew.inits hfew.values
    have a3 := flat_len threadL 4661 (small ls 12).threads (fun l hl => threadL_len (hfew.ins l hl).1 (hfew.ins l hl).2)
    have a4 : (small ls 12).threads.length * 4661 ≤ 7 * 4661 := Nat.mul_le_mul_right _ hfew.threads
    have a5 := condT_len (kind := (small ls 12).kind) hfew.rows
    unfold testT
    rw [if_pos hok]
    have b1 : (headL (small ls 12)).length ≤ 1000 := by simp only [headL, List.length_append, List.length_cons, List.length_nil]; omega
    have b2 : (initsL (small ls 12).inits).length ≤ 2000 := by
      unfold initsL
      split
      · simp
      · simp only [List.length_append, List.length_cons, List.length_nil]; omega
    have b3 : (condL (small ls 12)).length ≤ 20000 := by
      unfold condL
      split
      · simp
      · simp only [List.length_append, List.length_cons, List.length_nil]; omega
    simp only [List.length_append, List.length_cons, List.length_nil]
    omega
  refine acalls_of Tryd.func4 ac4_ok Tryd.ntmps4 Tryd.results4 rfl ?_
  unfold ac4
  refine bwp_seq fun K hK => bwp_region rfl ?_
  simp -implicitDefEqProofs only [go_sem, ↓reduceIte, Nat.reduceEqDiff, Nat.reduceAdd, Nat.reduceLeDiff, Nat.reduceMul, Nat.reduceSub, Int.reduceLE, Int.reduceLT, Int.reduceEq, Int.reduceToNat, Int.reducePow, Int.reduceNeg]
  refine hK _ ?_; clear hK
  refine bwp_seq fun K hK => bwp_region rfl ?_
  simp -implicitDefEqProofs only [go_sem, ↓reduceIte, Nat.reduceEqDiff, Nat.reduceAdd, Nat.reduceLeDiff, Nat.reduceMul, Nat.reduceSub, Int.reduceLE, Int.reduceLT, Int.reduceEq, Int.reduceToNat, Int.reducePow, Int.reduceNeg]
  refine callK_pureQ (small_calls hX (most := 12) (by omega)) rfl (fun v ⟨cs, h, _⟩ => by subst h; exact inL_data cs) ?_
  rintro v ⟨cs, rfl, hT⟩
  have htp := test_pure hT hfew
  obtain ⟨I, T, A, rfl, hI, hTh, hA⟩ := hT
  generalize hs : testT (small ls 12) = s at h1 h2 h3 h4 hlen htp
  simp -implicitDefEqProofs only [go_sem, ↓reduceIte, Nat.reduceEqDiff, Nat.reduceAdd, Nat.reduceLeDiff, Nat.reduceMul, Nat.reduceSub, Int.reduceLE, Int.reduceLT, Int.reduceEq, Int.reduceToNat, Int.reducePow, Int.reduceNeg]
  refine hK _ ?_; clear hK
  simp only [List.map_cons, List.map_nil] at htp
  refine bwp_seq fun K hK => bwp_region rfl ?_
  simp -implicitDefEqProofs only [go_sem, ↓reduceIte, Nat.reduceEqDiff, Nat.reduceAdd, Nat.reduceLeDiff, Nat.reduceMul, Nat.reduceSub, Int.reduceLE, Int.reduceLT, Int.reduceEq, Int.reduceToNat, Int.reducePow, Int.reduceNeg]
  refine callK_pure htp rfl rfl ?_
  simp -implicitDefEqProofs only [go_sem, ↓reduceIte, Nat.reduceEqDiff, Nat.reduceAdd, Nat.reduceLeDiff, Nat.reduceMul, Nat.reduceSub, Int.reduceLE, Int.reduceLT, Int.reduceEq, Int.reduceToNat, Int.reducePow, Int.reduceNeg]
  refine hK _ ?_; clear hK
  refine bwp_seq fun K hK => bwp_region rfl ?_
  simp -implicitDefEqProofs only [go_sem, ↓reduceIte, Nat.reduceEqDiff, Nat.reduceAdd, Nat.reduceLeDiff, Nat.reduceMul, Nat.reduceSub, Int.reduceLE, Int.reduceLT, Int.reduceEq, Int.reduceToNat, Int.reducePow, Int.reduceNeg]
  refine hK _ ?_; clear hK
  refine bwp_seq fun K1 hK1 => ?_
  refine bwp_seq fun K hK => bwp_region rfl ?_
  simp -implicitDefEqProofs only [go_sem, ↓reduceIte, Nat.reduceEqDiff, Nat.reduceAdd, Nat.reduceLeDiff, Nat.reduceMul, Nat.reduceSub, Int.reduceLE, Int.reduceLT, Int.reduceEq, Int.reduceToNat, Int.reducePow, Int.reduceNeg]
  refine hK _ ?_; clear hK
  refine bwp_block ?_
  refine bwp_leads (S' := plS s 0 0 0 []) (Leads.ent [] ⟨by simp [entT, fget, AV.ren, renL, pget, plS], by simp [entM, pinv, mget, mset, renL, AV.ren, pget, renL_append, -List.map_map, plS], rfl, rfl⟩) ?_
  refine pl_loop h1 hlen ?_
  have hne : s ≠ [] := fun h => by subst h; simp [nLines] at h4
  have hpos : 0 < s.length := List.length_pos_iff.2 hne
  have hlast := lastF_get s 10 hne
  rw [h2] at hlast
  have g1 : (0 : Int) < nLines s := by omega
  have g2 : (0 : Int) ≤ ((s.length - 1 : Nat) : Int) := Int.natCast_nonneg _
  have g3 : ((s.length - 1 : Nat) : Int) < s.length := by omega
  have hw : IntKind.i64.wrap ((s.length : Int) - 1) = ((s.length - 1 : Nat) : Int) := by rw [wrap_i64 (by omega) (by omega)]; omega
  have hc : s.getD (s.length - 1) 0 = 10 := hlast.symm
  rw [h3]
  unfold plS
  simp only [List.nil_append]
  simp -implicitDefEqProofs only [go_sem, ↓reduceIte, Nat.reduceEqDiff, Nat.reduceAdd, Nat.reduceLeDiff, Nat.reduceMul, Nat.reduceSub, Int.reduceLE, Int.reduceLT, Int.reduceEq, Int.reduceToNat, Int.reducePow, Int.reduceNeg]
  refine hK1 _ ?_; clear hK1
  refine bwp_seq fun K hK => bwp_region rfl ?_
  simp -implicitDefEqProofs only [go_sem, ↓reduceIte, Nat.reduceEqDiff, Nat.reduceAdd, Nat.reduceLeDiff, Nat.reduceMul, Nat.reduceSub, Int.reduceLE, Int.reduceLT, Int.reduceEq, Int.reduceToNat, Int.reducePow, Int.reduceNeg, g1, hw, g2, g3, Int.toNat_natCast, hc]
  refine callK_pure awake_pure rfl rfl ?_
  simp -implicitDefEqProofs only [go_sem, ↓reduceIte, Nat.reduceEqDiff, Nat.reduceAdd, Nat.reduceLeDiff, Nat.reduceMul, Nat.reduceSub, Int.reduceLE, Int.reduceLT, Int.reduceEq, Int.reduceToNat, Int.reducePow, Int.reduceNeg]
  refine hK _ ?_; clear hK
  refine bwp_ret ?_
  simp only [go_sem]
  refine aend_ret _ rfl rfl ⟨?_, rfl⟩
  simp [fget]

end Go.Proofs.YtgfkgngpganllaaDoor
