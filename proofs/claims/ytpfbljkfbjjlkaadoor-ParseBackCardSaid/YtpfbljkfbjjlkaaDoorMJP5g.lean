/- What the statement's proof leans on, part 7: the layer, the walks, the plain laws. -/
import Derived.Test.YtpfbljkfbjjlkaaDoorMJP5f
import Derived.Test.YtpfbljkfbjjlkaaDoorMJP5c
import Derived.SizedLaws
import Derived.Test.YtpfbljkfbjjlkaaDoorMJP5e
set_option linter.unusedSimpArgs false
set_option linter.unusedVariables false

/- Which tests may be, by the document's answer, told without a heap. -/
namespace Go.Proofs.YtpfbljkfbjjlkaaDoor
open Go Go.Jq
set_option maxRecDepth 100000
set_option linter.unusedSimpArgs false
theorem refInits {l : List Init} {nm : List UInt8} {I T A : DV} {kd : Int} (hI : IsSl Init.cells l I) {Q : Exit → St → Prop}
    (hbad : badInitB l = true → ∀ S, fget S.t 2 = .d (.bool false) → Q .ret S) (hgood : badInitB l = false → Q (.exit 0) (rcS [.str nm, I, T, .int .i64 kd, A] [])) :
    BWP Tryd.prog (mbound []) 58 (.loop ac64L0) (rcS [.str nm, I, T, .int .i64 kd, A] [(3, .d (.int .i64 (0 : Nat)))]) Q := by
  have hbig := hI.1
  have hlen' := hI.len
  refine bwp_countI (fun k => rcS [.str nm, I, T, .int .i64 kd, A] [(3, .d (.int .i64 (k : Nat)))]) (fun k => ∀ a ∈ l.take k, isLocB a.loc = true) l.length (by simp) ?_
  intro k hk hp
  unfold ac64L0 rcS
  refine bwp_seq fun K1 hK1 => ?_
  by_cases hlt : k < l.length
  · have hlt' : (k : Int) < l.length := by omega
    obtain ⟨cs, rest, hIe, hdrop, hcs⟩ := hI.at init_len (by omega) k hlt
    have hw : IntKind.i64.wrap ((k : Int) + 1) = ((k + 1 : Nat) : Int) := by rw [wrap_i64 (by omega) (by omega)]; rfl
    have hmem : l[k] ∈ l := List.getElem_mem hlt
    have htk := take_snoc l k hlt
    generalize l[k] = a at *
    refine bwp_seq fun K hK => bwp_region rfl ?_
    simp only [go_sem, ↓reduceIte, Nat.reduceEqDiff, Nat.reduceAdd, hlen', hlt']
    refine hK _ ?_; clear hK
    refine bwp_cond true (by simp [ev, fget]) (fun _ => ?_) (fun h => nomatch h)
    refine bwp_skip ?_
    refine hK1 _ ?_; clear hK1
    refine bwp_seq fun K1 hK1 => ?_
    refine bwp_block ?_
    refine bwp_seq fun K hK => bwp_region rfl ?_
    simp only [go_sem, ↓reduceIte, Nat.reduceEqDiff, Nat.reduceAdd, hIe, hlt', Int.natCast_nonneg, Int.toNat_natCast, hcs, hdrop, Init.cells]
    refine callK_pure (refNamed_pure a.loc) rfl rfl ?_
    simp only [go_sem, ↓reduceIte, Nat.reduceEqDiff, Nat.reduceAdd]
    refine hK _ ?_; clear hK
    cases hok : isLocB a.loc
    · refine bwp_cond true (by simp [ev, fget]) (fun _ => ?_) (fun h => nomatch h)
      refine bwp_seq fun K hK => bwp_region rfl ?_
      simp only [go_sem, ↓reduceIte, Nat.reduceEqDiff, Nat.reduceAdd]
      refine hK _ ?_; clear hK
      refine bwp_ret ?_
      simp only [go_sem, ↓reduceIte, Nat.reduceEqDiff, Nat.reduceAdd]
      exact hbad (List.any_eq_true.2 ⟨a, hmem, by simp [hok]⟩) _ rfl
    · refine bwp_cond false (by simp [ev, fget]) (fun h => nomatch h) (fun _ => ?_)
      refine bwp_skip ?_
      simp only [go_sem, ↓reduceIte, Nat.reduceEqDiff, Nat.reduceAdd]
      refine hK1 _ ?_; clear hK1
      refine bwp_region rfl ?_
      simp only [go_sem, ↓reduceIte, Nat.reduceEqDiff, Nat.reduceAdd, hw]
      refine ⟨hlt, ?_, Leads.ent [] ⟨by simp [entT, fget, AV.ren, pget, hIe], by simp [entM], rfl, rfl⟩⟩
      intro b hb
      rw [htk, List.mem_append] at hb
      rcases hb with hb | hb
      · exact hp b hb
      · simp only [List.mem_singleton] at hb; rw [hb]; exact hok
  · have hlt' : ¬ (k : Int) < l.length := by omega
    have hin : k = l.length := by omega
    subst hin
    rw [List.take_of_length_le (Nat.le_refl _)] at hp
    refine bwp_seq fun K hK => bwp_region rfl ?_
    simp only [go_sem, ↓reduceIte, Nat.reduceEqDiff, Nat.reduceAdd, hlen', hlt']
    refine hK _ ?_; clear hK
    refine bwp_cond false (by simp [ev, fget]) (fun h => nomatch h) (fun _ => ?_)
    refine bwp_leads (S' := rcS [.str nm, I, T, .int .i64 kd, A] []) (Leads.ent [] ⟨by simp [entT, fget, AV.ren, renL, pget, rcS], by simp [entM, pinv, mget, mset, renL, AV.ren, pget, renL_append, -List.map_map, rcS], rfl, rfl⟩) ?_
    refine bwp_exit (hgood ?_)
    unfold badInitB
    rw [List.any_eq_false]
    intro a ha
    rw [hp a ha]; decide
theorem refThread {rows : List (List Ins)} {nm : List UInt8} {I T A : DV} {kd : Int} (hT : IsSl2 Ins.cells rows T) {j : Nat} (hj : j < rows.length) {Q : Exit → St → Prop}
    (hbad : badThreadB rows[j] = true → ∀ S, fget S.t 2 = .d (.bool false) → Q .ret S) (hgood : badThreadB rows[j] = false → Q (.exit 4) (rcS [.str nm, I, T, .int .i64 kd, A] [(4, .d (.int .i64 j))])) :
    BWP Tryd.prog (mbound []) 58 (.loop ac64L1) (rcS [.str nm, I, T, .int .i64 kd, A] [(5, .d (.int .i64 (0 : Nat))), (4, .d (.int .i64 j))]) Q := by
  obtain ⟨cs2, d, rest2, hTe, hd, hjc, hD⟩ := hT.at j hj
  have hjl : (j : Int) < rows.length := by omega
  generalize rows[j] = l at hD hbad hgood
  have hbig := hD.1
  have hlen' := hD.len
  refine bwp_countI (fun k => rcS [.str nm, I, T, .int .i64 kd, A] [(5, .d (.int .i64 (k : Nat))), (4, .d (.int .i64 j))]) (fun k => ∀ a ∈ l.take k, okInsB a = true) l.length (by simp) ?_
  intro k hk hp
  unfold ac64L1 rcS
  refine bwp_seq fun K1 hK1 => ?_
  by_cases hlt : k < l.length
  · have hlt' : (k : Int) < l.length := by omega
    obtain ⟨cs, rest, hIe, hdrop, hcs⟩ := hD.at ins_len (by omega) k hlt
    have hw : IntKind.i64.wrap ((k : Int) + 1) = ((k + 1 : Nat) : Int) := by rw [wrap_i64 (by omega) (by omega)]; rfl
    have hl9 : ∀ (n : Nat), (9 ≤ (n + 1 + 1 + 1 + 1 + 1 + 1 + 1 + 1 + 1)) = True := fun n => by simp
    have hmem : l[k] ∈ l := List.getElem_mem hlt
    have htk := take_snoc l k hlt
    generalize l[k] = a at *
    refine bwp_seq fun K hK => bwp_region rfl ?_
    simp only [go_sem, ↓reduceIte, Nat.reduceEqDiff, Nat.reduceAdd, hTe, hjl, Int.natCast_nonneg, Int.toNat_natCast, Nat.mul_one, hjc, hd, hlen', hlt']
    refine hK _ ?_; clear hK
    refine bwp_cond true (by simp [ev, fget]) (fun _ => ?_) (fun h => nomatch h)
    refine bwp_skip ?_
    refine hK1 _ ?_; clear hK1
    refine bwp_seq fun K1 hK1 => ?_
    refine bwp_block ?_
    refine bwp_seq fun K hK => bwp_region rfl ?_
    simp only [go_sem, ↓reduceIte, Nat.reduceEqDiff, Nat.reduceAdd, hTe, hjl, Nat.mul_one, hjc, hd, hIe, hlt', Int.natCast_nonneg, Int.toNat_natCast, hcs, hdrop, Ins.cells, hl9]
    refine callK_pure (refIns_pure a) rfl rfl ?_
    rw [refIns_eq]
    simp only [go_sem, ↓reduceIte, Nat.reduceEqDiff, Nat.reduceAdd]
    refine hK _ ?_; clear hK
    cases hok : okInsB a
    · refine bwp_cond true (by simp [ev, fget]) (fun _ => ?_) (fun h => nomatch h)
      refine bwp_seq fun K hK => bwp_region rfl ?_
      simp only [go_sem, ↓reduceIte, Nat.reduceEqDiff, Nat.reduceAdd]
      refine hK _ ?_; clear hK
      refine bwp_ret ?_
      simp only [go_sem, ↓reduceIte, Nat.reduceEqDiff, Nat.reduceAdd]
      exact hbad (List.any_eq_true.2 ⟨a, hmem, by simp [hok]⟩) _ rfl
    · refine bwp_cond false (by simp [ev, fget]) (fun h => nomatch h) (fun _ => ?_)
      refine bwp_skip ?_
      simp only [go_sem, ↓reduceIte, Nat.reduceEqDiff, Nat.reduceAdd]
      refine hK1 _ ?_; clear hK1
      refine bwp_region rfl ?_
      simp only [go_sem, ↓reduceIte, Nat.reduceEqDiff, Nat.reduceAdd, hw]
      refine ⟨hlt, ?_, Leads.ent [] ⟨by simp [entT, fget, AV.ren, pget, hTe], by simp [entM], rfl, rfl⟩⟩
      intro b hb
      rw [htk, List.mem_append] at hb
      rcases hb with hb | hb
      · exact hp b hb
      · simp only [List.mem_singleton] at hb; rw [hb]; exact hok
  · have hlt' : ¬ (k : Int) < l.length := by omega
    have hin : k = l.length := by omega
    subst hin
    rw [List.take_of_length_le (Nat.le_refl _)] at hp
    refine bwp_seq fun K hK => bwp_region rfl ?_
    simp only [go_sem, ↓reduceIte, Nat.reduceEqDiff, Nat.reduceAdd, hTe, hjl, Int.natCast_nonneg, Int.toNat_natCast, Nat.mul_one, hjc, hd, hlen', hlt']
    refine hK _ ?_; clear hK
    refine bwp_cond false (by simp [ev, fget]) (fun h => nomatch h) (fun _ => ?_)
    refine bwp_leads (S' := rcS [.str nm, I, T, .int .i64 kd, A] [(4, .d (.int .i64 j))]) (Leads.ent [] ⟨by simp [entT, fget, AV.ren, renL, pget, rcS, hTe], by simp [entM, pinv, mget, mset, renL, AV.ren, pget, renL_append, -List.map_map, rcS, hTe], rfl, rfl⟩) ?_
    refine bwp_exit (hgood ?_)
    unfold badThreadB
    rw [List.any_eq_false]
    intro a ha
    rw [hp a ha]; decide
theorem refThreads {rows : List (List Ins)} {nm : List UInt8} {I T A : DV} {kd : Int} (hT : IsSl2 Ins.cells rows T) {Q : Exit → St → Prop}
    (hbad : rows.any badThreadB = true → ∀ S, fget S.t 2 = .d (.bool false) → Q .ret S) (hgood : rows.any badThreadB = false → ∀ S, Q (.exit 2) S) :
    BWP Tryd.prog (mbound []) 58 (.loop ac64L2) (rcS [.str nm, I, T, .int .i64 kd, A] [(4, .d (.int .i64 (0 : Nat)))]) Q := by
  have hbig := hT.big
  have hlen' := hT.len
  refine bwp_countI (fun j => rcS [.str nm, I, T, .int .i64 kd, A] [(4, .d (.int .i64 (j : Nat)))]) (fun j => ∀ l ∈ rows.take j, badThreadB l = false) rows.length (by simp) ?_
  intro j hj hp
  unfold ac64L2
  refine bwp_seq fun K1 hK1 => ?_
  by_cases hlt : j < rows.length
  · have hlt' : (j : Int) < rows.length := by omega
    have hw : IntKind.i64.wrap ((j : Int) + 1) = ((j + 1 : Nat) : Int) := by rw [wrap_i64 (by omega) (by omega)]; rfl
    have hmem : rows[j] ∈ rows := List.getElem_mem hlt
    have htk := take_snoc rows j hlt
    have hrow := @refThread rows nm I T A kd hT j hlt
    unfold rcS
    refine bwp_seq fun K hK => bwp_region rfl ?_
    simp only [go_sem, ↓reduceIte, Nat.reduceEqDiff, Nat.reduceAdd, hlen', hlt']
    refine hK _ ?_; clear hK
    refine bwp_cond true (by simp [ev, fget]) (fun _ => ?_) (fun h => nomatch h)
    refine bwp_skip ?_
    refine hK1 _ ?_; clear hK1
    refine bwp_seq fun K1 hK1 => ?_
    refine bwp_block ?_
    refine bwp_seq fun K hK => bwp_region rfl ?_
    simp only [go_sem, ↓reduceIte, Nat.reduceEqDiff, Nat.reduceAdd]
    refine hK _ ?_; clear hK
    refine bwp_block ?_
    refine bwp_leads (S' := rcS [.str nm, I, T, .int .i64 kd, A] [(5, .d (.int .i64 (0 : Nat))), (4, .d (.int .i64 j))]) (Leads.ent [] ⟨by simp [entT, fget, AV.ren, renL, pget, rcS], by simp [entM, pinv, mget, mset, renL, AV.ren, pget, renL_append, -List.map_map, rcS], rfl, rfl⟩) ?_
    refine hrow ?_ ?_
    · intro hb S hS
      simp only [go_sem, ↓reduceIte, Nat.reduceEqDiff, Nat.reduceAdd]
      exact hbad (List.any_eq_true.2 ⟨_, hmem, hb⟩) _ hS
    · intro hb
      unfold rcS
      simp only [go_sem, ↓reduceIte, Nat.reduceEqDiff, Nat.reduceAdd]
      refine hK1 _ ?_; clear hK1
      refine bwp_region rfl ?_
      simp only [go_sem, ↓reduceIte, Nat.reduceEqDiff, Nat.reduceAdd, hw]
      refine ⟨hlt, ?_, Leads.ent [] ⟨by simp [rcS, entT, fget, AV.ren, pget], by simp [rcS, entM], rfl, rfl⟩⟩
      intro l hl
      rw [htk, List.mem_append] at hl
      rcases hl with hl | hl
      · exact hp l hl
      · simp only [List.mem_singleton] at hl
        subst hl
        exact hb
  · have hlt' : ¬ (j : Int) < rows.length := by omega
    have hin : j = rows.length := by omega
    subst hin
    rw [List.take_of_length_le (Nat.le_refl _)] at hp
    unfold rcS
    refine bwp_seq fun K hK => bwp_region rfl ?_
    simp only [go_sem, ↓reduceIte, Nat.reduceEqDiff, Nat.reduceAdd, hlen', hlt']
    refine hK _ ?_; clear hK
    refine bwp_cond false (by simp [ev, fget]) (fun h => nomatch h) (fun _ => ?_)
    refine bwp_exit (hgood ?_ _)
    rw [List.any_eq_false]
    intro l hl
    rw [hp l hl]; decide
theorem refTest_pure {t : Test} {cs : List DV} (hT : IsTest t cs) (hn : t.name.length ≤ 9223372036854775807) : Pure Tryd.prog 64 [.agg (cs.map .d)] (.d (.bool (okB t))) := by
  obtain ⟨I, T, A, rfl, hI, hTh, hA⟩ := hT
  refine acalls_of Tryd.func64 ac64_ok Tryd.ntmps64 Tryd.results64 rfl ?_
  unfold ac64
  refine bwp_seq fun K hK => bwp_region rfl ?_
  simp only [go_sem, ↓reduceIte, Nat.reduceEqDiff, Nat.reduceAdd]
  refine hK _ ?_; clear hK
  refine bwp_leads (S' := rcS [.str t.name, I, T, .int .i64 t.kind, A] []) (Leads.frz [] [(0, [.str t.name, I, T, .int .i64 t.kind, A])] ⟨?_, ?_, rfl, rfl, ?_⟩) ?_
  · simp [rcS, frzT, fget, AV.cv, cvL, zget, pget]
  · simp [rcS, frzM, pinv, zget, mget, cvL, AV.cv]
  · simp [zokFrom, mget, cvL, AV.cv]
  unfold rcS
  refine bwp_seq fun K1 hK1 => ?_
  refine bwp_seq fun K hK => bwp_region rfl ?_
  have rest : ∀ (t' : Fr) (b : Bool), fget t' 15 = .d (.bool b) → fget t' 1 = .dptr [.str t.name, I, T, .int .i64 t.kind, A] → fget t' 2 = .d (.bool false) → b = !(isWordB t.name && okCondB t.kind t.rows) → K ⟨t', [], 0⟩ := by
    intro t' b h15 h1 h2 hb
    refine hK _ ?_; clear hK
    cases b
    · have hwc : isWordB t.name = true ∧ okCondB t.kind t.rows = true := by
        have := hb.symm
        simpa using this
      refine bwp_cond false (by simp [ev, fget, h15]) (fun h => nomatch h) (fun _ => ?_)
      refine bwp_skip ?_
      simp only [go_sem, ↓reduceIte, Nat.reduceEqDiff, Nat.reduceAdd]
      refine hK1 _ ?_; clear hK1
      refine bwp_seq fun K2 hK2 => ?_
      refine bwp_seq fun K3 hK3 => ?_
      refine bwp_region rfl ?_
      simp only [go_sem, ↓reduceIte, Nat.reduceEqDiff, Nat.reduceAdd]
      refine hK3 _ ?_; clear hK3
      refine bwp_block ?_
      refine bwp_leads (S' := rcS [.str t.name, I, T, .int .i64 t.kind, A] [(3, .d (.int .i64 (0 : Nat)))]) (Leads.ent [] ⟨by simp [entT, fget, AV.ren, renL, pget, rcS, h1, h2], by simp [entM, pinv, mget, mset, renL, AV.ren, pget, renL_append, -List.map_map, rcS, h1, h2], rfl, rfl⟩) ?_
      refine refInits hI ?_ ?_
      · intro hbad S hS
        simp only [go_sem, ↓reduceIte, Nat.reduceEqDiff, Nat.reduceAdd]
        exact aend_ret (.d (.bool false)) (by simp [resA, resVs, resV, hS]) rfl ⟨by simp [okB, hbad], rfl⟩
      · intro hi
        simp only [go_sem, ↓reduceIte, Nat.reduceEqDiff, Nat.reduceAdd]
        refine hK2 _ ?_; clear hK2
        unfold rcS
        refine bwp_seq fun K2 hK2 => ?_
        refine bwp_seq fun K3 hK3 => ?_
        refine bwp_region rfl ?_
        simp only [go_sem, ↓reduceIte, Nat.reduceEqDiff, Nat.reduceAdd]
        refine hK3 _ ?_; clear hK3
        refine bwp_block ?_
        refine bwp_leads (S' := rcS [.str t.name, I, T, .int .i64 t.kind, A] [(4, .d (.int .i64 (0 : Nat)))]) (Leads.ent [] ⟨by simp [entT, fget, AV.ren, renL, pget, rcS], by simp [entM, pinv, mget, mset, renL, AV.ren, pget, renL_append, -List.map_map, rcS], rfl, rfl⟩) ?_
        refine refThreads hTh ?_ ?_
        · intro hbad S hS
          simp only [go_sem, ↓reduceIte, Nat.reduceEqDiff, Nat.reduceAdd]
          exact aend_ret (.d (.bool false)) (by simp [resA, resVs, resV, hS]) rfl ⟨by simp [okB, hbad], rfl⟩
        · rintro hth ⟨t2, m2, n2⟩
          simp only [go_sem, ↓reduceIte, Nat.reduceEqDiff, Nat.reduceAdd]
          refine hK2 _ ?_; clear hK2
          refine bwp_seq fun K hK => bwp_region (by simp [mbound]) ?_
          simp only [go_sem, ↓reduceIte, Nat.reduceEqDiff, Nat.reduceAdd]
          refine hK _ ?_; clear hK
          refine bwp_ret ?_
          simp only [go_sem]
          refine aend_ret _ rfl rfl ⟨?_, rfl⟩
          simp [fget, okB, hwc.1, hwc.2, hi, hth]
    · refine bwp_cond true (by simp [ev, fget, h15]) (fun _ => ?_) (fun h => nomatch h)
      refine bwp_seq fun K hK => bwp_region rfl ?_
      simp only [go_sem, ↓reduceIte, Nat.reduceEqDiff, Nat.reduceAdd]
      refine hK _ ?_; clear hK
      refine bwp_ret ?_
      simp only [go_sem]
      refine aend_ret _ rfl rfl ⟨?_, rfl⟩
      have : okB t = false := by
        have h := hb.symm
        simp only [Bool.not_eq_true', Bool.and_eq_false_iff] at h
        rcases h with h | h <;> simp [okB, h]
      simp [fget, this]
  clear hK
  simp only [go_sem, ↓reduceIte, Nat.reduceEqDiff, Nat.reduceAdd]
  refine callK_pure (refWord_pure t.name hn) rfl rfl ?_
  simp only [go_sem, ↓reduceIte, Nat.reduceEqDiff, Nat.reduceAdd]
  repeat' (first
    | (refine gateK_split (fun hb => ?_) (fun hb => ?_) <;> simp only [go_sem, ↓reduceIte, Nat.reduceEqDiff, Nat.reduceAdd, hb])
    | (refine dGateK_split (fun hb => ?_) (fun hb => ?_) <;> simp only [go_sem, ↓reduceIte, Nat.reduceEqDiff, Nat.reduceAdd, hb])
    | (refine callK_pure (refCond_pure hA t.kind) rfl rfl ?_; simp only [go_sem, ↓reduceIte, Nat.reduceEqDiff, Nat.reduceAdd])
    | (refine dCallK_pure (refCond_pure hA t.kind) rfl rfl ?_; simp only [go_sem, ↓reduceIte, Nat.reduceEqDiff, Nat.reduceAdd])
    | (rw [if_pos (by (try simp only [List.length_append, List.length_cons, List.length_nil, List.length_map]); omega)]; simp only [go_sem, ↓reduceIte, Nat.reduceEqDiff, Nat.reduceAdd]))
  all_goals exact rest _ _ rfl rfl rfl (by clear rest hK1; simp_all)
end Go.Proofs.YtpfbljkfbjjlkaaDoor

/- The document's text of a test. -/
namespace Go.Proofs.YtpfbljkfbjjlkaaDoor
open Go Go.Jq
set_option maxRecDepth 100000
set_option linter.unusedSimpArgs false
theorem initsL_len' {l : List Init} (h : l.length ≤ 41) (hv : ∀ x ∈ l, I64 x.value) : (l.flatMap initL).length ≤ 1230 := by
  have h1 := flat_len initL 30 l (fun x hx => initL_len (hv x hx))
  have h2 : l.length * 30 ≤ 41 * 30 := Nat.mul_le_mul_right _ h
  omega
def rprS (cs : List DV) (s : List UInt8) (ex : Fr) : St := ⟨ex ++ [(1, .ptr 0 0), (3, .d (.str s))], [(0, cs.map .d)], 1⟩
set_option maxHeartbeats 2000000 in
theorem rp_inits {nm : List UInt8} {I T A : DV} {kd : Int} {l : List Init} (hI : IsSl Init.cells l I) (hv : ∀ x ∈ l, I64 x.value) (hok : ∀ x ∈ l, isLocB x.loc = true) (h41 : l.length ≤ 41) {s : List UInt8} (hs : s.length ≤ 6000000000000000) {Q : Exit → St → Prop}
    (hQ : Q (.exit 0) (rprS [.str nm, I, T, .int .i64 kd, A] (s ++ l.flatMap initL) [])) :
    BWP Tryd.prog (mbound []) 93 (.loop ac30L0) (rprS [.str nm, I, T, .int .i64 kd, A] s [(4, .d (.int .i64 (0 : Nat)))]) Q := by
  have e0 : s = s ++ (l.take 0).flatMap initL := by simp
  rw [e0]
  refine bwp_count (fun i => rprS [.str nm, I, T, .int .i64 kd, A] (s ++ (l.take i).flatMap initL) [(4, .d (.int .i64 i))]) l.length ?_
  intro i hi
  have hbl : ((l.take i).flatMap initL).length ≤ 1230 := initsL_len' (by simp; omega) (fun x hx => hv x (List.mem_of_mem_take hx))
  generalize hX : s ++ (l.take i).flatMap initL = X
  have hXl : X.length ≤ 6100000000000000 := by rw [← hX]; simp only [List.length_append]; omega
  unfold ac30L0 rprS
  simp only [List.cons_append, List.nil_append, List.map_cons, List.map_nil]
  refine bwp_seq fun K1 hK1 => ?_
  by_cases hlt : i < l.length
  · have hlt' : (i : Int) < l.length := by omega
    obtain ⟨cs', rest, hIe, hdrop, hcs⟩ := hI.at init_len (by omega) i hlt
    have hva := hv l[i] (List.getElem_mem hlt)
    have hlo := hok l[i] (List.getElem_mem hlt)
    have hnx : s ++ (l.take (i + 1)).flatMap initL = X ++ initL l[i] := by rw [flat_take initL hlt, ← hX, List.append_assoc]
    generalize l[i] = x at hdrop hva hlo hnx
    have l1 := itoa_len hva
    have l4 : (locT x.loc).length ≤ 4 := utf8_len _
    have c1 := refLoc_pure hlo
    have c2 := refText_pure hva
    refine bwp_seq fun K hK => bwp_region rfl ?_
    simp only [go_sem, ↓reduceIte, Nat.reduceEqDiff, Nat.reduceAdd, hI.len, hlt']
    refine hK _ ?_; clear hK
    refine bwp_cond true (by simp [ev, fget, hlt']) (fun _ => ?_) (fun h => nomatch h)
    refine bwp_skip ?_
    refine hK1 _ ?_; clear hK1
    refine bwp_seq fun K1 hK1 => ?_
    refine bwp_block ?_
    refine bwp_region_draw rfl rfl ?_
    simp only [go_sem, ↓reduceIte, Nat.reduceEqDiff, Nat.reduceAdd, hIe, hlt', Int.natCast_nonneg, Int.toNat_natCast, hcs, hdrop, Init.cells]
    repeat' (first
      | (refine gateK_split (fun hb => ?_) (fun hb => ?_) <;> simp only [go_sem, ↓reduceIte, Nat.reduceEqDiff, Nat.reduceAdd, hb, hIe, hlt', Int.natCast_nonneg, Int.toNat_natCast, hcs, hdrop, Init.cells])
      | (refine dGateK_split (fun hb => ?_) (fun hb => ?_) <;> simp only [go_sem, ↓reduceIte, Nat.reduceEqDiff, Nat.reduceAdd, hb, hIe, hlt', Int.natCast_nonneg, Int.toNat_natCast, hcs, hdrop, Init.cells])
      | (refine callK_pure (c1) rfl rfl ?_; simp only [go_sem, ↓reduceIte, Nat.reduceEqDiff, Nat.reduceAdd, hIe, hlt', Int.natCast_nonneg, Int.toNat_natCast, hcs, hdrop, Init.cells])
      | (refine dCallK_pure (c1) rfl rfl ?_; simp only [go_sem, ↓reduceIte, Nat.reduceEqDiff, Nat.reduceAdd, hIe, hlt', Int.natCast_nonneg, Int.toNat_natCast, hcs, hdrop, Init.cells])
      | (refine callK_pure (c2) rfl rfl ?_; simp only [go_sem, ↓reduceIte, Nat.reduceEqDiff, Nat.reduceAdd, hIe, hlt', Int.natCast_nonneg, Int.toNat_natCast, hcs, hdrop, Init.cells])
      | (refine dCallK_pure (c2) rfl rfl ?_; simp only [go_sem, ↓reduceIte, Nat.reduceEqDiff, Nat.reduceAdd, hIe, hlt', Int.natCast_nonneg, Int.toNat_natCast, hcs, hdrop, Init.cells])
      | (rw [if_pos (by (try simp only [List.length_append, List.length_cons, List.length_nil, List.length_map]); omega)]; simp only [go_sem, ↓reduceIte, Nat.reduceEqDiff, Nat.reduceAdd, hIe, hlt', Int.natCast_nonneg, Int.toNat_natCast, hcs, hdrop, Init.cells]))
    refine ⟨rfl, hK1 _ ?_⟩; clear hK1
    have hw : IntKind.i64.wrap ((i : Int) + 1) = ((i + 1 : Nat) : Int) := by rw [wrap_i64 (by omega) (by omega)]; rfl
    refine bwp_region rfl ?_
    simp only [go_sem, ↓reduceIte, Nat.reduceEqDiff, Nat.reduceAdd, hw]
    rw [hnx]
    exact ⟨hlt, (Leads.ent [(0, 0)] ⟨by simp [entT, fget, AV.ren, renL, pget, initL, List.append_assoc, hIe], by simp [entM, pinv, mget, mset, renL, AV.ren, pget, renL_append, -List.map_map, initL, List.append_assoc, hIe], rfl, rfl⟩)⟩
  · have hlt' : ¬ (i : Int) < l.length := by omega
    have hin : i = l.length := by omega
    subst hin
    refine bwp_seq fun K hK => bwp_region rfl ?_
    simp only [go_sem, ↓reduceIte, Nat.reduceEqDiff, Nat.reduceAdd, hI.len, hlt']
    refine hK _ ?_; clear hK
    refine bwp_cond false (by simp [ev, fget, hlt']) (fun h => nomatch h) (fun _ => ?_)
    rw [List.take_length] at hX
    refine bwp_leads (S' := rprS [.str nm, I, T, .int .i64 kd, A] (s ++ l.flatMap initL) []) (Leads.ent [(0, 0)] ⟨by simp [entT, fget, AV.ren, renL, pget, rprS, hX], by simp [entM, pinv, mget, mset, renL, AV.ren, pget, renL_append, -List.map_map, rprS, hX], rfl, rfl⟩) ?_
    exact bwp_exit hQ
set_option maxHeartbeats 2000000 in
theorem rp_thread {nm : List UInt8} {I T A : DV} {kd : Int} {ls : List (List Ins)} (hT : IsSl2 Ins.cells ls T) {i : Nat} (hi : i < ls.length) (hv : ∀ x ∈ ls[i], I64i x) (h30 : ls[i].length ≤ 5000000000000) {s : List UInt8} (hs : s.length ≤ 6100000000000000) {Q : Exit → St → Prop}
    (hQ : Q (.exit 4) (rprS [.str nm, I, T, .int .i64 kd, A] (s ++ ls[i].flatMap insL) [(6, .d (.int .i64 ls[i].length)), (5, .d (.int .i64 i))])) :
    BWP Tryd.prog (mbound []) 93 (.loop ac30L1) (rprS [.str nm, I, T, .int .i64 kd, A] s [(6, .d (.int .i64 (0 : Nat))), (5, .d (.int .i64 i))]) Q := by
  have hTl := hT.big
  obtain ⟨cs1, d, rest1, hTe, hd1, hjc, hD⟩ := hT.at i hi
  have hi' : (i : Int) < ls.length := by omega
  generalize hl : ls[i] = l at *
  have e0 : s = s ++ (l.take 0).flatMap insL := by simp
  rw [e0]
  refine bwp_count (fun k => rprS [.str nm, I, T, .int .i64 kd, A] (s ++ (l.take k).flatMap insL) [(6, .d (.int .i64 k)), (5, .d (.int .i64 i))]) l.length ?_
  intro k hk
  have hbl : ((l.take k).flatMap insL).length ≤ 5000000000000 * 155 := by
    have := flat_len insL 155 (l.take k) (fun x hx => insL_len (hv x (List.mem_of_mem_take hx)))
    have h2 : (l.take k).length * 155 ≤ 5000000000000 * 155 := Nat.mul_le_mul_right _ (by simp; omega)
    omega
  generalize hX : s ++ (l.take k).flatMap insL = X
  have hXl : X.length ≤ 7000000000000000 := by rw [← hX]; simp only [List.length_append]; omega
  unfold ac30L1 rprS
  simp only [List.cons_append, List.nil_append, List.map_cons, List.map_nil]
  refine bwp_seq fun K1 hK1 => ?_
  by_cases hlt : k < l.length
  · have hlt' : (k : Int) < l.length := by omega
    obtain ⟨cs', rest, hXe, hdrop, hcs⟩ := hD.at ins_len (by omega) k hlt
    have hva := hv l[k] (List.getElem_mem hlt)
    have hnx : s ++ (l.take (k + 1)).flatMap insL = X ++ insL l[k] := by rw [flat_take insL hlt, ← hX, List.append_assoc]
    generalize l[k] = x at hcs hdrop hva hnx
    have hil := insT_len hva
    have hip := refInsT_pure hva
    unfold Ins.cells at hip
    simp only [List.map_cons, List.map_nil] at hip
    refine bwp_seq fun K hK => bwp_region rfl ?_
    simp only [go_sem, ↓reduceIte, Nat.reduceEqDiff, Nat.reduceAdd, hTe, hi', Int.natCast_nonneg, Int.toNat_natCast, hd1, hjc, hD.len, hlt']
    refine hK _ ?_; clear hK
    refine bwp_cond true (by simp [ev, fget, hlt']) (fun _ => ?_) (fun h => nomatch h)
    refine bwp_skip ?_
    refine hK1 _ ?_; clear hK1
    refine bwp_seq fun K1 hK1 => ?_
    refine bwp_block ?_
    refine bwp_region rfl ?_
    simp only [go_sem, ↓reduceIte, Nat.reduceEqDiff, Nat.reduceAdd, hTe, hi', hlt', Int.natCast_nonneg, Int.toNat_natCast, hd1, hjc, hXe, hcs, hdrop, Ins.cells]
    refine callK_pure hip rfl rfl ?_
    simp only [go_sem, ↓reduceIte, Nat.reduceEqDiff, Nat.reduceAdd]
    repeat' (first
      | (refine gateK_split (fun hb => ?_) (fun hb => ?_) <;> simp only [go_sem, ↓reduceIte, Nat.reduceEqDiff, Nat.reduceAdd, hb])
      | (refine dGateK_split (fun hb => ?_) (fun hb => ?_) <;> simp only [go_sem, ↓reduceIte, Nat.reduceEqDiff, Nat.reduceAdd, hb])
      | (rw [if_pos (by (try simp only [List.length_append, List.length_cons, List.length_nil, List.length_map]); omega)]; simp only [go_sem, ↓reduceIte, Nat.reduceEqDiff, Nat.reduceAdd]))
    refine hK1 _ ?_; clear hK1
    have hw : IntKind.i64.wrap ((k : Int) + 1) = ((k + 1 : Nat) : Int) := by rw [wrap_i64 (by omega) (by omega)]; rfl
    refine bwp_region rfl ?_
    simp only [go_sem, ↓reduceIte, Nat.reduceEqDiff, Nat.reduceAdd, hw]
    rw [hnx]
    exact ⟨hlt, (Leads.ent [(0, 0)] ⟨by simp [entT, fget, AV.ren, renL, pget, insL, List.append_assoc, hTe], by simp [entM, pinv, mget, mset, renL, AV.ren, pget, renL_append, -List.map_map, insL, List.append_assoc, hTe], rfl, rfl⟩)⟩
  · have hlt' : ¬ (k : Int) < l.length := by omega
    have hin : k = l.length := by omega
    subst hin
    refine bwp_seq fun K hK => bwp_region rfl ?_
    simp only [go_sem, ↓reduceIte, Nat.reduceEqDiff, Nat.reduceAdd, hTe, hi', Int.natCast_nonneg, Int.toNat_natCast, hd1, hjc, hD.len, hlt']
    refine hK _ ?_; clear hK
    refine bwp_cond false (by simp [ev, fget, hlt']) (fun h => nomatch h) (fun _ => ?_)
    rw [List.take_length] at hX
    refine bwp_leads (S' := rprS [.str nm, I, T, .int .i64 kd, A] (s ++ l.flatMap insL) [(6, .d (.int .i64 l.length)), (5, .d (.int .i64 i))]) (Leads.ent [(0, 0)] ⟨by simp [entT, fget, AV.ren, renL, pget, rprS, hX, hTe], by simp [entM, pinv, mget, mset, renL, AV.ren, pget, renL_append, -List.map_map, rprS, hX, hTe], rfl, rfl⟩) ?_
    exact bwp_exit hQ
set_option maxHeartbeats 2000000 in
theorem rp_threads {nm : List UInt8} {I T A : DV} {kd : Int} {ls : List (List Ins)} (hT : IsSl2 Ins.cells ls T) (hv : ∀ l ∈ ls, l.length ≤ 5000000000000 ∧ ∀ x ∈ l, I64i x) (h7 : ls.length ≤ 7) {s : List UInt8} (hs : s.length ≤ 900000) {Q : Exit → St → Prop}
    (hQ : Q (.exit 2) (rprS [.str nm, I, T, .int .i64 kd, A] (s ++ ls.flatMap threadL) [(5, .d (.int .i64 ls.length))])) :
    BWP Tryd.prog (mbound []) 93 (.loop ac30L2) (rprS [.str nm, I, T, .int .i64 kd, A] s [(5, .d (.int .i64 (0 : Nat)))]) Q := by
  have e0 : s = s ++ (ls.take 0).flatMap threadL := by simp
  rw [e0]
  refine bwp_count (fun k => rprS [.str nm, I, T, .int .i64 kd, A] (s ++ (ls.take k).flatMap threadL) [(5, .d (.int .i64 k))]) ls.length ?_
  intro k hk
  have hbl : ((ls.take k).flatMap threadL).length ≤ 5425000000000077 := by
    have := flat_len threadL 775000000000011 (ls.take k) (fun l hl => threadL_len2 (hv l (List.mem_of_mem_take hl)).1 (hv l (List.mem_of_mem_take hl)).2)
    have h2 : (ls.take k).length ≤ 7 := by simp; omega
    omega
  generalize hX : s ++ (ls.take k).flatMap threadL = X
  have hXl : X.length ≤ 6000000000000000 := by rw [← hX]; simp only [List.length_append]; omega
  unfold ac30L2 rprS
  simp only [List.cons_append, List.nil_append, List.map_cons, List.map_nil]
  refine bwp_seq fun K1 hK1 => ?_
  by_cases hlt : k < ls.length
  · have hlt' : (k : Int) < ls.length := by omega
    have hva := hv ls[k] (List.getElem_mem hlt)
    have hnx : s ++ (ls.take (k + 1)).flatMap threadL = X ++ threadL ls[k] := by rw [flat_take threadL hlt, ← hX, List.append_assoc]
    have b1 : X.length + 9 ≤ 9223372036854775807 := by omega
    refine bwp_seq fun K hK => bwp_region rfl ?_
    simp only [go_sem, ↓reduceIte, Nat.reduceEqDiff, Nat.reduceAdd, hT.len, hlt']
    refine hK _ ?_; clear hK
    refine bwp_cond true (by simp [ev, fget, hlt']) (fun _ => ?_) (fun h => nomatch h)
    refine bwp_skip ?_
    refine hK1 _ ?_; clear hK1
    refine bwp_seq fun K1 hK1 => ?_
    refine bwp_block ?_
    refine bwp_seq fun K hK => bwp_region rfl ?_
    simp only [go_sem, ↓reduceIte, Nat.reduceEqDiff, Nat.reduceAdd, List.length_cons, List.length_nil, Nat.zero_add, b1]
    refine hK _ ?_; clear hK
    refine bwp_seq fun K2 hK2 => ?_
    refine bwp_seq fun K hK => bwp_region rfl ?_
    simp only [go_sem, ↓reduceIte, Nat.reduceEqDiff, Nat.reduceAdd]
    refine hK _ ?_; clear hK
    refine bwp_block ?_
    have hX2 : (X ++ [116, 104, 114, 101, 97, 100, 32, 123, 10]).length ≤ 6100000000000000 := by simp only [List.length_append, List.length_cons, List.length_nil]; omega
    refine bwp_leads (S' := rprS [.str nm, I, T, .int .i64 kd, A] (X ++ [116, 104, 114, 101, 97, 100, 32, 123, 10]) [(6, .d (.int .i64 (0 : Nat))), (5, .d (.int .i64 k))]) (Leads.ent [(0, 0)] ⟨by simp [entT, fget, AV.ren, renL, pget, rprS], by simp [entM, pinv, mget, mset, renL, AV.ren, pget, renL_append, -List.map_map, rprS], rfl, rfl⟩) ?_
    refine rp_thread hT hlt hva.2 hva.1 hX2 ?_
    have h1 := flat_len insL 155 ls[k] (fun x hx => insL_len (hva.2 x hx))
    have h2 : ls[k].length * 155 ≤ 5000000000000 * 155 := Nat.mul_le_mul_right _ hva.1
    generalize hY : (X ++ [116, 104, 114, 101, 97, 100, 32, 123, 10]) ++ ls[k].flatMap insL = Y
    have hYl : Y.length ≤ 7000000000000000 := by rw [← hY, List.length_append]; omega
    unfold rprS
    simp only [List.cons_append, List.nil_append, List.map_cons, List.map_nil]
    simp only [go_sem, ↓reduceIte, Nat.reduceEqDiff, Nat.reduceAdd]
    refine hK2 _ ?_; clear hK2
    have b2 : Y.length + 2 ≤ 9223372036854775807 := by omega
    refine bwp_region rfl ?_
    simp only [go_sem, ↓reduceIte, Nat.reduceEqDiff, Nat.reduceAdd, List.length_cons, List.length_nil, Nat.zero_add, b2]
    refine hK1 _ ?_; clear hK1
    have hw : IntKind.i64.wrap ((k : Int) + 1) = ((k + 1 : Nat) : Int) := by rw [wrap_i64 (by omega) (by omega)]; rfl
    refine bwp_region rfl ?_
    simp only [go_sem, ↓reduceIte, Nat.reduceEqDiff, Nat.reduceAdd, hw]
    have hnx2 : s ++ (ls.take (k + 1)).flatMap threadL = Y ++ [125, 10] := by rw [hnx, ← hY]; simp [threadL]
    rw [hnx2]
    exact ⟨hlt, (Leads.ent [(0, 0)] ⟨by simp [entT, fget, AV.ren, renL, pget, List.append_assoc], by simp [entM, pinv, mget, mset, renL, AV.ren, pget, renL_append, -List.map_map, List.append_assoc], rfl, rfl⟩)⟩
  · have hlt' : ¬ (k : Int) < ls.length := by omega
    have hin : k = ls.length := by omega
    subst hin
    refine bwp_seq fun K hK => bwp_region rfl ?_
    simp only [go_sem, ↓reduceIte, Nat.reduceEqDiff, Nat.reduceAdd, hT.len, hlt']
    refine hK _ ?_; clear hK
    refine bwp_cond false (by simp [ev, fget, hlt']) (fun h => nomatch h) (fun _ => ?_)
    rw [List.take_length] at hX
    refine bwp_leads (S' := rprS [.str nm, I, T, .int .i64 kd, A] (s ++ ls.flatMap threadL) [(5, .d (.int .i64 ls.length))]) (Leads.ent [(0, 0)] ⟨by simp [entT, fget, AV.ren, renL, pget, rprS, hX], by simp [entM, pinv, mget, mset, renL, AV.ren, pget, renL_append, -List.map_map, rprS, hX], rfl, rfl⟩) ?_
    exact bwp_exit hQ
set_option maxHeartbeats 4000000 in
theorem refPrint_pure {t : Test} {cs : List DV} (hT : IsTest t cs) (hf : FewT2 t) : Pure Tryd.prog 30 [.agg (cs.map .d)] (.d (.str (testT t))) := by
  have hn := hf.name
  have hok := refTest_pure hT (by omega)
  obtain ⟨I, T, A, rfl, hI, hTh, hA⟩ := hT
  simp only [List.map_cons, List.map_nil] at hok ⊢
  refine acalls_of Tryd.func30 ac30_ok Tryd.ntmps30 Tryd.results30 rfl ?_
  unfold ac30
  refine bwp_seq fun K hK => bwp_region rfl ?_
  simp only [go_sem, ↓reduceIte, Nat.reduceEqDiff, Nat.reduceAdd]
  refine hK _ ?_; clear hK
  refine bwp_seq fun K1 hK1 => ?_
  refine bwp_seq fun K hK => bwp_region rfl ?_
  simp only [go_sem, ↓reduceIte, Nat.reduceEqDiff, Nat.reduceAdd]
  refine callK_pure hok rfl rfl ?_
  cases hokb : okB t with
  | false =>
    simp only [go_sem, ↓reduceIte, Nat.reduceEqDiff, Nat.reduceAdd]
    refine hK _ ?_; clear hK
    refine bwp_cond true (by simp [ev, fget]) (fun _ => ?_) (fun h => nomatch h)
    refine bwp_seq fun K hK => bwp_region rfl ?_
    simp only [go_sem, ↓reduceIte, Nat.reduceEqDiff, Nat.reduceAdd]
    refine hK _ ?_; clear hK
    refine bwp_ret ?_
    simp only [go_sem]
    refine aend_ret _ rfl rfl ⟨?_, rfl⟩
    simp [fget, testT, hokb]
  | true =>
    have hob := hokb
    simp only [okB, Bool.and_eq_true] at hob
    have hin : ∀ x ∈ t.inits, isLocB x.loc = true := fun x hx => by
      have := hob.1.1.2
      simp only [badInitB, Bool.not_eq_true', List.any_eq_false, Bool.not_eq_false] at this
      exact this x hx
    simp only [go_sem, ↓reduceIte, Nat.reduceEqDiff, Nat.reduceAdd]
    refine hK _ ?_; clear hK
    refine bwp_cond false (by simp [ev, fget]) (fun h => nomatch h) (fun _ => ?_)
    refine bwp_skip ?_
    refine hK1 _ ?_; clear hK1
    refine bwp_seq fun K hK => bwp_region rfl ?_
    simp only [go_sem, ↓reduceIte, Nat.reduceEqDiff, Nat.reduceAdd]
    repeat' (first
      | (refine gateK_split (fun hb => ?_) (fun hb => ?_) <;> simp only [go_sem, ↓reduceIte, Nat.reduceEqDiff, Nat.reduceAdd, hb])
      | (refine dGateK_split (fun hb => ?_) (fun hb => ?_) <;> simp only [go_sem, ↓reduceIte, Nat.reduceEqDiff, Nat.reduceAdd, hb])
      | (rw [if_pos (by (try simp only [List.length_append, List.length_cons, List.length_nil, List.length_map]); omega)]; simp only [go_sem, ↓reduceIte, Nat.reduceEqDiff, Nat.reduceAdd]))
    refine hK _ ?_; clear hK
    have hh : (headL t).length ≤ 1000 := by simp only [headL, List.length_append, List.length_cons, List.length_nil]; omega
    refine bwp_leads (S' := rprS [.str t.name, I, T, .int .i64 t.kind, A] (headL t) []) (Leads.ent [(0, 0)] ⟨by simp [entT, fget, AV.ren, renL, pget, rprS, headL], by simp [entM, pinv, mget, mset, renL, AV.ren, pget, renL_append, -List.map_map, rprS, headL], rfl, rfl⟩) ?_
    have hil := initsL_len' hf.inits hf.values
    refine bwp_seq fun K2 hK2 => ?_
    have fin2 : ∀ S : St, Leads (mbound []) 93 S (rprS [.str t.name, I, T, .int .i64 t.kind, A] (headL t ++ initsL t.inits) []) → K2 S := by
      intro S hS
      refine hK2 _ ?_; clear hK2
      refine bwp_leads hS ?_
      generalize hX : headL t ++ initsL t.inits = X
      have hXl : X.length ≤ 900000 := by
        rw [← hX, List.length_append]
        unfold initsL
        split
        · simp; omega
        · simp only [List.length_append, List.length_cons, List.length_nil]; omega
      unfold rprS
      simp only [List.nil_append, List.map_cons, List.map_nil]
      refine bwp_seq fun K3 hK3 => ?_
      refine bwp_seq fun K hK => bwp_region rfl ?_
      simp only [go_sem, ↓reduceIte, Nat.reduceEqDiff, Nat.reduceAdd]
      refine hK _ ?_; clear hK
      refine bwp_block ?_
      refine bwp_leads (S' := rprS [.str t.name, I, T, .int .i64 t.kind, A] X [(5, .d (.int .i64 (0 : Nat)))]) (Leads.ent [(0, 0)] ⟨by simp [entT, fget, AV.ren, renL, pget, rprS], by simp [entM, pinv, mget, mset, renL, AV.ren, pget, renL_append, -List.map_map, rprS], rfl, rfl⟩) ?_
      refine rp_threads hTh hf.ins hf.threads hXl ?_
      have h1 := flat_len threadL 775000000000011 t.threads (fun l hl => threadL_len2 (hf.ins l hl).1 (hf.ins l hl).2)
      have h2 := hf.threads
      generalize hY : X ++ t.threads.flatMap threadL = Y
      have hYl : Y.length ≤ 6000000000000000 := by rw [← hY, List.length_append]; omega
      unfold rprS
      simp only [List.cons_append, List.nil_append, List.map_cons, List.map_nil]
      simp only [go_sem, ↓reduceIte, Nat.reduceEqDiff, Nat.reduceAdd]
      refine hK3 _ ?_; clear hK3
      have hcl := condT_len2 (kind := t.kind) hf.rows
      refine bwp_seq fun K4 hK4 => ?_
      have fin4 : ∀ (S : St) (Z : List UInt8), Z.length ≤ 11000000000000000 → Z = Y ++ condL t → Leads (mbound []) 93 S (rprS [.str t.name, I, T, .int .i64 t.kind, A] Z []) → K4 S := by
        intro S Z hZl hZ hS
        refine hK4 _ ?_; clear hK4
        refine bwp_leads hS ?_
        unfold rprS
        simp only [List.nil_append]
        refine bwp_seq fun K hK => bwp_region rfl ?_
        simp only [go_sem, ↓reduceIte, Nat.reduceEqDiff, Nat.reduceAdd]
        repeat' (first
          | (refine gateK_split (fun hb => ?_) (fun hb => ?_) <;> simp only [go_sem, ↓reduceIte, Nat.reduceEqDiff, Nat.reduceAdd, hb])
          | (refine dGateK_split (fun hb => ?_) (fun hb => ?_) <;> simp only [go_sem, ↓reduceIte, Nat.reduceEqDiff, Nat.reduceAdd, hb])
          | (rw [if_pos (by (try simp only [List.length_append, List.length_cons, List.length_nil, List.length_map]); omega)]; simp only [go_sem, ↓reduceIte, Nat.reduceEqDiff, Nat.reduceAdd]))
        refine hK _ ?_; clear hK
        refine bwp_ret ?_
        simp only [go_sem]
        refine aend_ret _ rfl rfl ⟨?_, rfl⟩
        simp [fget, testT, hokb, hZ, ← hY, ← hX]
      by_cases hk : t.kind = 0
      · have hce : condL t = [] := by
          have : condT t.kind t.rows = [] := by unfold condT; rw [if_pos (.inl hk)]
          unfold condL
          rw [if_pos this]
        refine bwp_seq fun K hK => bwp_region rfl ?_
        simp only [go_sem, ↓reduceIte, Nat.reduceEqDiff, Nat.reduceAdd, hk]
        refine hK _ ?_; clear hK
        refine bwp_cond false (by simp [ev, fget, hk]) (fun h => nomatch h) (fun _ => ?_)
        refine bwp_skip ?_
        refine fin4 _ Y (by omega) (by rw [hce]; simp) ?_
        exact Leads.ent [(0, 0)] ⟨by simp [entT, fget, AV.ren, renL, pget, rprS], by simp [entM, pinv, mget, mset, renL, AV.ren, pget, rprS, hk], rfl, rfl⟩
      · have hce : condL t = condT t.kind t.rows ++ [10] := by
          unfold condL
          rw [if_neg (condT_ne hk hob.2)]
        have hcp := refCondT_pure (kd := t.kind) hA hf.rows
        refine bwp_seq fun K hK => bwp_region rfl ?_
        simp only [go_sem, ↓reduceIte, Nat.reduceEqDiff, Nat.reduceAdd, hk]
        refine hK _ ?_; clear hK
        refine bwp_cond true (by simp [ev, fget, hk]) (fun _ => ?_) (fun h => nomatch h)
        refine bwp_region rfl ?_
        simp only [go_sem, ↓reduceIte, Nat.reduceEqDiff, Nat.reduceAdd]
        refine callK_pure hcp rfl rfl ?_
        simp only [go_sem, ↓reduceIte, Nat.reduceEqDiff, Nat.reduceAdd]
        repeat' (first
          | (refine gateK_split (fun hb => ?_) (fun hb => ?_) <;> simp only [go_sem, ↓reduceIte, Nat.reduceEqDiff, Nat.reduceAdd, hb])
          | (refine dGateK_split (fun hb => ?_) (fun hb => ?_) <;> simp only [go_sem, ↓reduceIte, Nat.reduceEqDiff, Nat.reduceAdd, hb])
          | (rw [if_pos (by (try simp only [List.length_append, List.length_cons, List.length_nil, List.length_map]); omega)]; simp only [go_sem, ↓reduceIte, Nat.reduceEqDiff, Nat.reduceAdd]))
        refine fin4 _ (Y ++ condT t.kind t.rows ++ [10]) (by simp only [List.length_append, List.length_cons, List.length_nil]; omega) (by rw [hce]; simp) ?_
        exact Leads.ent [(0, 0)] ⟨by simp [entT, fget, AV.ren, renL, pget, rprS], by simp [entM, pinv, mget, mset, renL, AV.ren, pget, rprS], rfl, rfl⟩
    unfold rprS
    simp only [List.nil_append, List.map_cons, List.map_nil]
    by_cases hi : t.inits = []
    · have hl : t.inits.length = 0 := by simp [hi]
      refine bwp_seq fun K hK => bwp_region rfl ?_
      simp only [go_sem, ↓reduceIte, Nat.reduceEqDiff, Nat.reduceAdd, hI.len, hl]
      refine hK _ ?_; clear hK
      refine bwp_cond false (by simp [ev, fget, hl]) (fun h => nomatch h) (fun _ => ?_)
      refine bwp_skip ?_
      exact fin2 _ (Leads.ent [(0, 0)] ⟨by simp [entT, fget, AV.ren, renL, pget, rprS, initsL, hi], by simp [entM, pinv, mget, mset, mdel, renL, AV.ren, pget, renL_append, -List.map_map, rprS, initsL, hi], rfl, rfl⟩)
    · have hl : (0 : Int) < t.inits.length := by
        have := List.length_pos_iff.2 hi
        omega
      refine bwp_seq fun K hK => bwp_region rfl ?_
      simp only [go_sem, ↓reduceIte, Nat.reduceEqDiff, Nat.reduceAdd, hI.len, hl]
      refine hK _ ?_; clear hK
      refine bwp_cond true (by simp [ev, fget, hl]) (fun _ => ?_) (fun h => nomatch h)
      refine bwp_seq fun K hK => bwp_region rfl ?_
      simp only [go_sem, ↓reduceIte, Nat.reduceEqDiff, Nat.reduceAdd]
      repeat' (first
        | (refine gateK_split (fun hb => ?_) (fun hb => ?_) <;> simp only [go_sem, ↓reduceIte, Nat.reduceEqDiff, Nat.reduceAdd, hb])
        | (refine dGateK_split (fun hb => ?_) (fun hb => ?_) <;> simp only [go_sem, ↓reduceIte, Nat.reduceEqDiff, Nat.reduceAdd, hb])
        | (rw [if_pos (by (try simp only [List.length_append, List.length_cons, List.length_nil, List.length_map]); omega)]; simp only [go_sem, ↓reduceIte, Nat.reduceEqDiff, Nat.reduceAdd]))
      refine hK _ ?_; clear hK
      refine bwp_seq fun K3 hK3 => ?_
      refine bwp_seq fun K hK => bwp_region rfl ?_
      simp only [go_sem, ↓reduceIte, Nat.reduceEqDiff, Nat.reduceAdd]
      refine hK _ ?_; clear hK
      refine bwp_block ?_
      refine bwp_leads (S' := rprS [.str t.name, I, T, .int .i64 t.kind, A] (headL t ++ [105, 110, 105, 116, 32, 123, 10]) [(4, .d (.int .i64 (0 : Nat)))]) (Leads.ent [(0, 0)] ⟨by simp [entT, fget, AV.ren, renL, pget, rprS], by simp [entM, pinv, mget, mset, renL, AV.ren, pget, renL_append, -List.map_map, rprS], rfl, rfl⟩) ?_
      refine rp_inits hI hf.values hin hf.inits (by simp only [List.length_append, List.length_cons, List.length_nil]; omega) ?_
      generalize hY : headL t ++ [105, 110, 105, 116, 32, 123, 10] ++ t.inits.flatMap initL = Y
      have hYl : Y.length ≤ 10000 := by rw [← hY]; simp only [List.length_append, List.length_cons, List.length_nil]; omega
      unfold rprS
      simp only [List.cons_append, List.nil_append, List.map_cons, List.map_nil]
      simp only [go_sem, ↓reduceIte, Nat.reduceEqDiff, Nat.reduceAdd]
      refine hK3 _ ?_; clear hK3
      refine bwp_region rfl ?_
      simp only [go_sem, ↓reduceIte, Nat.reduceEqDiff, Nat.reduceAdd]
      repeat' (first
        | (refine gateK_split (fun hb => ?_) (fun hb => ?_) <;> simp only [go_sem, ↓reduceIte, Nat.reduceEqDiff, Nat.reduceAdd, hb])
        | (refine dGateK_split (fun hb => ?_) (fun hb => ?_) <;> simp only [go_sem, ↓reduceIte, Nat.reduceEqDiff, Nat.reduceAdd, hb])
        | (rw [if_pos (by (try simp only [List.length_append, List.length_cons, List.length_nil, List.length_map]); omega)]; simp only [go_sem, ↓reduceIte, Nat.reduceEqDiff, Nat.reduceAdd]))
      have he : headL t ++ initsL t.inits = Y ++ [125, 10] := by rw [← hY]; simp [initsL, hi]
      rw [he] at fin2
      exact fin2 _ (Leads.ent [(0, 0)] ⟨by simp [entT, fget, AV.ren, renL, pget, rprS], by simp [entM, pinv, mget, mset, mdel, renL, AV.ren, pget, renL_append, -List.map_map, rprS], rfl, rfl⟩)
end Go.Proofs.YtpfbljkfbjjlkaaDoor

/- The abstract layer: what a row hands a law, told as data, with bounds for its slices at every depth. -/
namespace Go.Jq
open Go
mutual
def Sh.bytes : Sh → Nat
  | .int k => k.bits / 8
  | .bool => 1
  | .str => 16
  | .sl _ => 24
def bytesL : List Sh → Nat
  | [] => 0
  | s :: ss => s.bytes + bytesL ss
end
mutual
def FitsZ : Sh → DV → Prop
  | .int k, d => ∃ n, d = .int k n ∧ (Lit.int k n).wf = true
  | .bool, d => ∃ b, d = .bool b
  | .str, d => ∃ s : List UInt8, d = .str s ∧ s.length ≤ reachBytes
  | .sl es, d => d = .nsl ∨ ∃ rows : List (List DV), d = .sl rows.length rows.flatten ∧ rows.length ≤ maxLen ∧ rows.length * bytesL es ≤ reachBytes ∧ ∀ r ∈ rows, FitsZL es r
def FitsZL : List Sh → List DV → Prop
  | [], ds => ds = []
  | s :: ss, ds => ∃ d r, ds = d :: r ∧ FitsZ s d ∧ FitsZL ss r
end
mutual
theorem FitsZ.fits : ∀ {s : Sh} {d : DV}, FitsZ s d → Fits s d
  | .int k, d, h => by simpa only [FitsZ, Fits] using h
  | .bool, d, h => by simpa only [FitsZ, Fits] using h
  | .str, d, h => by
    simp only [FitsZ] at h
    obtain ⟨s, rfl, hs⟩ := h
    simp only [Fits]
    exact ⟨s, rfl, Nat.le_trans hs (by decide)⟩
  | .sl es, d, h => by
    simp only [FitsZ] at h
    simp only [Fits]
    rcases h with h | ⟨rows, h1, h2, _, h3⟩
    · exact .inl h
    · exact .inr ⟨rows, h1, h2, fun r hr => FitsZL.fits (h3 r hr)⟩
theorem FitsZL.fits : ∀ {ss : List Sh} {ds : List DV}, FitsZL ss ds → FitsL ss ds
  | [], ds, h => by simpa only [FitsZL, FitsL] using h
  | s :: ss, ds, h => by
    simp only [FitsZL] at h
    obtain ⟨d, r, rfl, h1, h2⟩ := h
    simp only [FitsL]
    exact ⟨d, r, rfl, FitsZ.fits h1, FitsZL.fits h2⟩
end
theorem FitsZL.append : ∀ {ss ss' : List Sh} {ds ds' : List DV}, FitsZL ss ds → FitsZL ss' ds' → FitsZL (ss ++ ss') (ds ++ ds')
  | [], _, _, _, h, h' => by simp only [FitsZL] at h; subst h; simpa using h'
  | s :: ss, _, _, _, h, h' => by
    simp only [FitsZL] at h
    obtain ⟨d, r, rfl, hd, h⟩ := h
    simp only [List.cons_append, FitsZL]
    exact ⟨d, _, rfl, hd, FitsZL.append h h'⟩
def shOfZ (P : Program) : Nat → TypeId → Option (List Sh)
  | 0, _ => none
  | k + 1, t => match P.underlying t with
    | some (.int q) => some [.int q]
    | some .string => some [.str]
    | some (.slice e) => match shOfZ P k e with
      | some es => if es.length = P.cellsOf e ∧ es.length ≠ 0 ∧ bytesL es ≤ P.bytesOf e then some [.sl es] else none
      | none => none
    | some (.struct fs) => match shFs P (shOfZ P k) fs.toList 0 with
      | some ss => if ss.length = P.cellsOf t then some ss else none
      | none => none
    | _ => none
section
variable {H : Type} {enc : TypeId × Value → H} {P : Program} {w : World} {base : Nat} {spare : Nat → Bool} {held : Bool} {I : Nat → Prop} (hI : ∀ b, b < w.heap.size → I b)
theorem weightsAll_mem {e : TypeId} : ∀ {l : List (DataW H)} {d : DataW H}, d ∈ l → ∀ n ∈ d.weights P e, n ∈ DataW.weightsAll P e l
  | x :: l, d, h, n, hn => by
    simp only [DataW.weightsAll, List.mem_append]
    rcases List.mem_cons.1 h with rfl | h
    · exact .inl hn
    · exact .inr (weightsAll_mem h n hn)
theorem shFs_trodZ {f : TypeId → Option (List Sh)} {g : TypeId → List Value → Option (DataW H × List MemPlace)} (hfg : ∀ t ss cs x, f t = some ss → g t cs = some x → (∀ n ∈ x.1.weights P t, n ≤ reachBytes) → ∃ ds, FitsZL ss ds ∧ RelDL I w ds cs) (cs : List Value) :
    ∀ (fs : List Field) (acc : Nat) (ss : List Sh), shFs P f fs acc = some ss → acc + ss.length = cs.length → (∀ fd ∈ fs, ∃ x, g fd.type ((cs.drop fd.offset).take (P.cellsOf fd.type)) = some x ∧ ∀ n ∈ x.1.weights P fd.type, n ≤ reachBytes) → ∃ ds, FitsZL ss ds ∧ RelDL I w ds (cs.drop acc)
  | [], acc, ss, h, hl, _ => by
    simp only [shFs, Option.some.injEq] at h
    subst h
    exact ⟨[], rfl, by simp only [RelDL]; exact List.drop_eq_nil_of_le (by simpa using Nat.le_of_eq hl.symm)⟩
  | fd :: fs, acc, ss, h, hl, hx => by
    simp only [shFs] at h
    split at h
    · rename_i s hs
      split at h
      · rename_i hc
        rw [Option.map_eq_some_iff] at h
        obtain ⟨r, hr, rfl⟩ := h
        obtain ⟨x, hx1, hx2⟩ := hx fd List.mem_cons_self
        obtain ⟨ds, h1, h2⟩ := hfg _ _ _ _ hs hx1 hx2
        obtain ⟨ds', h3, h4⟩ := shFs_trodZ hfg cs fs (acc + s.length) r hr (by simp at hl; omega) fun fd' h => hx fd' (List.mem_cons_of_mem _ h)
        refine ⟨ds ++ ds', h1.append h3, ?_⟩
        have h5 := h2.append h4
        rw [hc.1, hc.2, ← List.drop_drop, List.take_append_drop] at h5
        exact h5
      · cases h
    · cases h
include hI in
theorem trod_relZ : ∀ (k : Nat) (t : TypeId) (ss : List Sh) (fuel : Nat) (cs : List Value) (x : DataW H × List MemPlace), shOfZ P k t = some ss → DataW.trod enc P w base spare held fuel t cs = some x → (∀ n ∈ x.1.weights P t, n ≤ reachBytes) → ∃ ds, FitsZL ss ds ∧ RelDL I w ds cs
  | 0, _, _, _, _, _, h, _, _ => by simp [shOfZ] at h
  | k + 1, t, ss, fuel, cs, x, h, hx, hz => by
    simp only [shOfZ] at h
    split at h
    · rename_i q hu
      cases h
      obtain ⟨n, rfl, _, hw⟩ := DataW.trod_int hu hx
      exact ⟨[.int q n], by simp only [FitsZL, FitsZ]; exact ⟨_, _, rfl, ⟨n, rfl, hw⟩, rfl⟩, by simp [RelDL, RelD]⟩
    · rename_i hu
      cases h
      obtain ⟨s, rfl, hxe, hw⟩ := DataW.trod_string hu hx
      have hs : s.data.toList.length ≤ reachBytes := hz _ (by rw [hxe]; simp [DataW.weights])
      exact ⟨[.str s.data.toList], by simp only [FitsZL, FitsZ]; exact ⟨_, _, rfl, ⟨_, rfl, hs⟩, rfl⟩, by simp [RelDL, RelD]⟩
    · rename_i e hu
      split at h
      · rename_i es hes
        split at h
        · rename_i hc
          cases h
          obtain ⟨hlen, hne, hby⟩ := hc
          rcases DataW.trod_slice hu hx with ⟨rfl, _⟩ | ⟨a, len, cap, elems, rest, n, _, rfl, hxe, hb, hl, hm, hel, hcell, _⟩
          · exact ⟨[.nsl], by simp only [FitsZL, FitsZ]; exact ⟨_, _, rfl, .inl rfl, rfl⟩, by simp [RelDL, RelD]⟩
          · have hw0 : (elems.length + rest.length) * P.bytesOf e ≤ reachBytes := hz _ (by rw [hxe]; simp [DataW.weights, hu])
            have hwe : ∀ y ∈ elems, ∀ n ∈ y.1.weights P e, n ≤ reachBytes := fun y hy n hn => hz n (by
              rw [hxe]
              simp only [DataW.weights, hu, List.mem_cons, List.mem_append]
              exact .inr (.inl (weightsAll_mem (List.mem_map_of_mem hy) n hn)))
            have each : ∀ i, i < len → ∃ r : List DV, ∃ csi, w.cells? base (a.add (i * P.cellsOf e)) (P.cellsOf e) = some csi ∧ FitsZL es r ∧ RelDL I w r csi := by
              intro i hi
              have h1 := hcell i hi
              rw [List.getElem?_eq_getElem (by omega), Option.bind_eq_some_iff] at h1
              obtain ⟨csi, h2, h3⟩ := h1
              obtain ⟨r, h4, h5⟩ := trod_relZ k e es n csi _ hes h3 (hwe _ (List.getElem_mem _))
              exact ⟨r, csi, h2, h4, h5⟩
            obtain ⟨rows, hrl, hrows⟩ := list_of len each
            have hfit : ∀ r ∈ rows, FitsZL es r := fun r hr => by
              obtain ⟨i, hi⟩ := List.mem_iff_getElem?.1 hr
              obtain ⟨_, _, h2, _⟩ := hrows i r hi
              exact h2
            have hsz : rows.length * bytesL es ≤ reachBytes := by
              refine Nat.le_trans (Nat.mul_le_mul (by omega : rows.length ≤ elems.length + rest.length) hby) hw0
            refine ⟨[.sl rows.length rows.flatten], by simp only [FitsZL, FitsZ]; exact ⟨_, _, rfl, .inr ⟨rows, rfl, by omega, hsz, hfit⟩, rfl⟩, ?_⟩
            simp only [RelDL, RelD]
            refine ⟨_, _, rfl, ⟨some a, cap, by rw [hrl], by omega, ?_⟩, rfl⟩
            rcases Nat.eq_zero_or_pos len with h0 | h0
            · have : rows = [] := List.eq_nil_of_length_eq_zero (by omega)
              subst this
              exact .inl ⟨rfl, rfl⟩
            · right
              have hr0 : rows[0]? = some rows[0] := List.getElem?_eq_getElem (by omega)
              obtain ⟨cs0, h1, h2, h3⟩ := hrows 0 _ hr0
              obtain ⟨hl0, hg0⟩ := cells_get h1
              have hpos : 0 < P.cellsOf e := by omega
              have hc0 : ∃ v, w.cell? a = some v := by
                have := hg0 0 hpos
                rw [List.getElem?_eq_getElem (by omega)] at this
                have e1 : (a.add (0 * P.cellsOf e)).add 0 = a := by simp [Addr.add]
                rw [e1] at this
                exact ⟨_, this⟩
              obtain ⟨v, hv⟩ := hc0
              obtain ⟨hlt, hsp⟩ := cell_lt hv
              obtain ⟨ab, ao, asp⟩ := a
              simp only at hlt hsp
              subst hsp
              refine ⟨ab, ao, rfl, hI ab hlt, ?_⟩
              have := RelDs.flatten (I := I) (w := w) (k := es.length) (b := ab) (o := ao) (rows := rows) (i0 := 0) (fun r hr => (FitsZL.fits (hfit r hr)).length) fun i r hi => by
                obtain ⟨csi, h4, h5, h6⟩ := hrows i r hi
                obtain ⟨_, hg⟩ := cells_get h4
                refine RelDs.of_get fun j d hj => ?_
                obtain ⟨v, hv, hr⟩ := h6.get j d hj
                have hjl : j < P.cellsOf e := by
                  have := (List.getElem?_eq_some_iff.1 hj).1
                  rw [(FitsZL.fits h5).length] at this
                  omega
                refine ⟨v, ?_, hr⟩
                have := hg j hjl
                rw [hv, addr_add, addr_add] at this
                rw [Nat.zero_add, hlen]
                exact this
              simpa using this
        · cases h
      · cases h
    · rename_i fs hu
      split at h
      · rename_i ss' hss
        split at h
        · rename_i hc
          cases h
          obtain ⟨xs, n, _, hxe, hcl, hxl, hget⟩ := DataW.trod_struct hu hx
          have := shFs_trodZ (P := P) (I := I) (w := w) (f := shOfZ P k) (g := fun t cs => DataW.trod enc P w base spare held n t cs) (fun t ss cs x h1 h2 h3 => trod_relZ k t ss n cs x h1 h2 h3) cs fs.toList 0 ss hss (by omega) fun fd hfd => by
            obtain ⟨i, hi⟩ := List.mem_iff_getElem?.1 hfd
            have hi0 := hi
            rw [Array.getElem?_toList] at hi
            have h1 := hget i fd hi
            have h2 : i < fs.size := (Array.getElem?_eq_some_iff.1 hi).1
            rw [List.getElem?_eq_getElem (by omega)] at h1
            refine ⟨_, h1, fun n hn => hz n ?_⟩
            rw [hxe]
            simp only [DataW.weights, hu]
            exact DataW.weights_mem_each (j := i) (by rw [List.getElem?_map, hi0]; rfl) (by rw [List.getElem?_map, List.getElem?_eq_getElem (by omega)]; rfl) n hn
          simpa using this
        · cases h
      · cases h
    · cases h
end
section
variable {H : Type} {enc : TypeId × Value → H} {P : Program} {w : World} {base : Nat} {spare : Nat → Bool} {held : Bool} {t : TypeId} {v : Value} {d : DataW H} {p : List MemPlace}
theorem arg_structZ {k : Nat} {ss : List Sh} {fs : Array Field} (hs : shOfZ P k t = some ss) (hu : P.underlying t = some (.struct fs)) {b0 : Nat} (hok : Value.okWide P w .any b0 t v) (h : DataW.Trod enc P w base spare held t v d p)
    {ts : List TypeId} {ds : List (DataW H)} (hz : (DataW.weightsEach P ts ds).all (· ≤ reachBytes) = true) {j : Nat} (hj : ts[j]? = some t) (hd : ds[j]? = some d) :
    ∃ ds, FitsZL ss ds ∧ Rel (ctx0 w) w (.agg (ds.map .d)) v := by
  obtain ⟨fuel, hf⟩ := h
  obtain ⟨ds, h1, h2⟩ := trod_relZ (I := (ctx0 w).imm) (fun b hb => hb) k t ss fuel _ _ hs hf fun n hn => by
    have := List.all_eq_true.1 hz n (DataW.weights_mem_each hj hd n hn)
    simpa using this
  unfold Value.okWide at hok
  rw [hu] at hok
  obtain ⟨cs, rfl, _⟩ := hok
  refine ⟨ds, h1, ?_⟩
  simp only [Rel]
  exact ⟨cs.toList, by simp, h2.relL⟩
end
theorem fitsZ_sl {α : Type} {enc : α → List DV} {p : α → Prop} {es : List Sh} (hrow : ∀ r, FitsL es r → ∃ a, p a ∧ r = enc a) {d : DV} (h : FitsZ (.sl es) d) : ∃ l : List α, (∀ a ∈ l, p a) ∧ l.length * bytesL es ≤ reachBytes ∧ IsSl enc l d := by
  simp only [FitsZ] at h
  rcases h with rfl | ⟨rows, rfl, hm, hz, hr⟩
  · exact ⟨[], by simp, by simp, by simp, .inl ⟨rfl, rfl⟩⟩
  · obtain ⟨l, h1, h2, h3⟩ := rows_of hrow rows fun r h => FitsZL.fits (hr r h)
    have : maxLen = 9223372036854775807 := rfl
    exact ⟨l, h2, by rw [h1]; exact hz, by omega, .inr (by rw [h3, h1])⟩
theorem slsZ_of {α : Type} {enc : α → List DV} {p : List α → Prop} : ∀ {ds : List DV}, (∀ d ∈ ds, ∃ l : List α, p l ∧ IsSl enc l d) → ∃ ls : List (List α), (∀ l ∈ ls, p l) ∧ IsSls enc ls ds
  | [], _ => ⟨[], by simp, trivial⟩
  | d :: ds, h => by
    obtain ⟨l, h1, h2⟩ := h d List.mem_cons_self
    obtain ⟨ls, h3, h4⟩ := slsZ_of fun d hd => h d (List.mem_cons_of_mem _ hd)
    refine ⟨l :: ls, ?_, h2, h4⟩
    intro b hb
    rcases List.mem_cons.1 hb with rfl | hb
    · exact h1
    · exact h3 b hb
theorem rowsZ_of {α : Type} {enc : α → List DV} {p : α → Prop} {es : List Sh} (hrow : ∀ r, FitsZL es r → ∃ a, p a ∧ r = enc a) : ∀ rows : List (List DV), (∀ r ∈ rows, FitsZL es r) → ∃ l : List α, l.length = rows.length ∧ (∀ a ∈ l, p a) ∧ rows.flatten = l.flatMap enc
  | [], _ => ⟨[], rfl, by simp, rfl⟩
  | r :: rows, h => by
    obtain ⟨l, h1, h2, h3⟩ := rowsZ_of hrow rows fun r hr => h r (List.mem_cons_of_mem _ hr)
    obtain ⟨a, ha, rfl⟩ := hrow r (h r List.mem_cons_self)
    refine ⟨a :: l, by simp [h1], ?_, by simp [h3]⟩
    intro b hb
    rcases List.mem_cons.1 hb with rfl | hb
    · exact ha
    · exact h2 b hb
theorem fitsZ_sl2 {α : Type} {enc : α → List DV} {p : α → Prop} {es : List Sh} (hrow : ∀ r, FitsL es r → ∃ a, p a ∧ r = enc a) {d : DV} (h : FitsZ (.sl [.sl es]) d) : ∃ ls : List (List α), (∀ l ∈ ls, (∀ a ∈ l, p a) ∧ l.length * bytesL es ≤ reachBytes) ∧ IsSl2 enc ls d := by
  simp only [FitsZ] at h
  rcases h with rfl | ⟨rows, rfl, hm, _, hr⟩
  · exact ⟨[], by simp, [], ⟨by simp, .inl ⟨rfl, rfl⟩⟩, trivial⟩
  · have hm' : maxLen = 9223372036854775807 := rfl
    obtain ⟨l, h1, h2, h3⟩ := rowsZ_of (enc := fun d => [d]) (p := fun d => ∃ l : List α, ((∀ a ∈ l, p a) ∧ l.length * bytesL es ≤ reachBytes) ∧ IsSl enc l d) (es := [.sl es]) (fun r hr => by
      simp only [FitsZL] at hr
      obtain ⟨d, r', rfl, h1, rfl⟩ := hr
      obtain ⟨l, a1, a2, a3⟩ := fitsZ_sl hrow h1
      exact ⟨d, ⟨l, ⟨a1, a2⟩, a3⟩, rfl⟩) rows hr
    obtain ⟨ls, g1, g2⟩ := slsZ_of h2
    exact ⟨ls, g1, l, ⟨by omega, .inr (by rw [h3, h1])⟩, g2⟩
end Go.Jq

/- A row's test as data: its numbers within 64 bits, its lists as long as memory lets them be. -/
namespace Go.Proofs.YtpfbljkfbjjlkaaDoor
open Go Go.Jq
set_option maxRecDepth 100000
set_option linter.unusedSimpArgs false
structure RangeT (t : Test) : Prop where
  name : t.name.length ≤ 9223372036854775807
  values : ∀ x ∈ t.inits, I64 x.value
  ins : ∀ l ∈ t.threads, ∀ x ∈ l, I64i x
  rows : ∀ l ∈ t.rows, ∀ a ∈ l, I64a a
def shTest : List Sh := [.str, .sl [.int .i64, .int .i64], .sl [.sl (List.replicate 9 (.int .i64))], .int .i64, .sl [.sl (List.replicate 4 (.int .i64))]]
theorem fits_i64s : ∀ {n : Nat} {ds : List DV}, FitsL (List.replicate n (.int .i64)) ds → ∃ l : List Int, l.length = n ∧ ds = l.map (.int .i64) ∧ ∀ x ∈ l, I64 x
  | 0, ds, h => by simp only [List.replicate_zero, FitsL] at h; exact ⟨[], rfl, h, by simp⟩
  | n + 1, ds, h => by
    simp only [List.replicate_succ, FitsL, Fits] at h
    obtain ⟨d, r, rfl, ⟨m, rfl, hw⟩, h⟩ := h
    obtain ⟨l, hl, rfl, hr⟩ := fits_i64s h
    exact ⟨m :: l, by simp [hl], rfl, by
      intro x hx
      rcases List.mem_cons.1 hx with hx | hx
      · rw [hx]; exact wf_i64 hw
      · exact hr x hx⟩
theorem row_init {r : List DV} (hr : FitsL (List.replicate 2 (.int .i64)) r) : ∃ a : Init, I64 a.value ∧ r = a.cells := by
  obtain ⟨f, hf, rfl, hw⟩ := fits_i64s hr
  match f, hf, hw with
  | [a, b], _, hw => exact ⟨⟨a, b⟩, hw b (by simp), rfl⟩
theorem row_ins {r : List DV} (hr : FitsL (List.replicate 9 (.int .i64)) r) : ∃ a : Ins, I64i a ∧ r = a.cells := by
  obtain ⟨f, hf, rfl, hw⟩ := fits_i64s hr
  match f, hf, hw with
  | [a, b, c, d, e, g, i, j, k], _, hw => exact ⟨⟨a, b, c, ⟨d, e⟩, g, ⟨i, j⟩, k⟩, ⟨hw b (by simp), hw d (by simp), hw e (by simp), hw i (by simp), hw j (by simp), hw k (by simp)⟩, rfl⟩
theorem row_atom {r : List DV} (hr : FitsL (List.replicate 4 (.int .i64)) r) : ∃ a : Atom, I64a a ∧ r = a.cells := by
  obtain ⟨f, hf, rfl, hw⟩ := fits_i64s hr
  match f, hf, hw with
  | [a, b, c, d], _, hw => exact ⟨⟨a, b, c, d⟩, ⟨hw a (by simp), hw b (by simp), hw d (by simp)⟩, rfl⟩
structure SizeT (t : Test) : Prop where
  name : t.name.length ≤ reachBytes
  inits : t.inits.length * 16 ≤ reachBytes
  ins : ∀ l ∈ t.threads, l.length * 72 ≤ reachBytes
  rows : ∀ l ∈ t.rows, l.length * 32 ≤ reachBytes
theorem fitsZ_test {ds : List DV} (h : FitsZL shTest ds) : ∃ t : Test, IsTest t ds ∧ RangeT t ∧ SizeT t := by
  simp only [shTest, FitsZL] at h
  obtain ⟨d0, r0, rfl, h0, d1, r1, rfl, h1, d2, r2, rfl, h2, d3, r3, rfl, h3, d4, r4, rfl, h4, rfl⟩ := h
  simp only [FitsZ] at h0 h3
  obtain ⟨nm, rfl, hnm⟩ := h0
  obtain ⟨kd, rfl, _⟩ := h3
  obtain ⟨inits, v1, z1, hI⟩ := fitsZ_sl (enc := Init.cells) (p := fun x => I64 x.value) (fun r hr => row_init hr) h1
  obtain ⟨threads, v2, hT⟩ := fitsZ_sl2 (enc := Ins.cells) (p := I64i) (fun r hr => row_ins hr) h2
  obtain ⟨rows, v3, hA⟩ := fitsZ_sl2 (enc := Atom.cells) (p := I64a) (fun r hr => row_atom hr) h4
  have b1 : bytesL (List.replicate 2 (Sh.int .i64)) = 16 := rfl
  have b2 : bytesL (List.replicate 9 (Sh.int .i64)) = 72 := rfl
  have b3 : bytesL (List.replicate 4 (Sh.int .i64)) = 32 := rfl
  rw [b1] at z1
  rw [b2] at v2
  rw [b3] at v3
  have hr : reachBytes ≤ 9223372036854775807 := by decide
  exact ⟨⟨nm, inits, threads, kd, rows⟩, ⟨d1, d2, d4, rfl, hI, hT, hA⟩, ⟨by simp only; omega, v1, fun l hl => (v2 l hl).1, fun l hl => (v3 l hl).1⟩, ⟨hnm, z1, fun l hl => (v2 l hl).2, fun l hl => (v3 l hl).2⟩⟩
end Go.Proofs.YtpfbljkfbjjlkaaDoor

/- What the test made of numbers comes to, told without a heap: the whole. -/
namespace Go.Proofs.YtpfbljkfbjjlkaaDoor
open Go Go.Jq
set_option maxRecDepth 100000
set_option linter.unusedSimpArgs false
set_option maxHeartbeats 4000000 in
theorem small_calls {ls : List Int} {X : DV} (hX : IsInts ls X) {most : Nat} (hmost : most ≤ 1000) :
    ACalls Tryd.prog 29 [.d X, .d (.int .i64 most)] [] fun r m' => (∃ cs, r = .agg (cs.map .d) ∧ IsTest (small ls most) cs) ∧ m' = [] := by
  refine acalls_of Tryd.func29 ac29_ok Tryd.ntmps29 Tryd.results29 rfl ?_
  unfold ac29
  refine bwp_seq fun K hK => bwp_region rfl ?_
  simp only [go_sem, ↓reduceIte, Nat.reduceEqDiff, Nat.reduceAdd]
  refine hK _ ?_; clear hK
  refine bwp_seq fun K hK => bwp_region rfl ?_
  simp only [go_sem, ↓reduceIte, Nat.reduceEqDiff, Nat.reduceAdd]
  refine hK _ ?_; clear hK
  refine bwp_seq fun K hK => bwp_region rfl ?_
  simp only [go_sem, ↓reduceIte, Nat.reduceEqDiff, Nat.reduceAdd]
  refine hK _ ?_; clear hK
  refine bwp_seq fun K hK => bwp_region rfl ?_
  simp only [go_sem, ↓reduceIte, Nat.reduceEqDiff, Nat.reduceAdd]
  refine hK _ ?_; clear hK
  refine bwp_leads (Leads.frz (S' := ⟨[(1, .d (.int .i64 most)), (4, .ptr 0 0), (5, .ptr 1 0), (7, .fn 63 [.ptr 2 0, .dptr [X]])],
    [(0, [.d (.str []), .d .nsl, .d .nsl, .d (.int .i64 0), .d .nsl]), (1, [.d (.str [116]), .d .nsl, .d .nsl, .d (.int .i64 0), .d .nsl]), (2, [.d (.int .i64 (0 : Nat))])], 3⟩) [(1, 0), (2, 1), (3, 2)] [(0, [X])] ⟨?_, ?_, rfl, rfl, ?_⟩) ?_
  · simp [frzT, fget, AV.cv, cvL, zget, pget]
  · simp [frzM, pinv, zget, mget, cvL, AV.cv]
  · simp [zokFrom, mget, cvL, AV.cv]
  have hw2 : ∀ q : Nat, q ≤ 10 → IntKind.i64.wrap ((q : Int) + 2) = ((q + 2 : Nat) : Int) := fun q hq => by rw [wrap_i64 (by omega) (by omega)]; rfl
  have hn : smallN ls ≤ 3 := by unfold smallN; omega
  have hl : smallLocs ls ≤ 10 := by unfold smallLocs; omega
  have hl0 : 0 < smallLocs ls := by unfold smallLocs; omega
  refine bwp_seq fun K hK => bwp_region rfl ?_
  simp only [go_sem, ↓reduceIte, Nat.reduceEqDiff, Nat.reduceAdd]
  refine ⟨rfl, smNext_callK (a := 0) hX (by omega) rfl ?_⟩
  simp only [go_sem, ↓reduceIte, Nat.reduceEqDiff, Nat.reduceAdd, Nat.reduceLeDiff, Nat.reduceMul, Int.reduceEq, tm2, hw2 (nxN ls 0 % 2) (by omega)]
  refine hK _ ?_; clear hK
  refine bwp_seq fun K hK => bwp_region rfl ?_
  simp -implicitDefEqProofs only [go_sem, ↓reduceIte, Nat.reduceEqDiff, Nat.reduceAdd, Nat.reduceLeDiff, Nat.reduceMul, Nat.reduceSub, Int.reduceLE, Int.reduceLT, Int.reduceEq, Int.reduceToNat, Int.reducePow, Int.reduceNeg]
  refine ⟨rfl, smNext_callK (a := 1) hX (by omega) rfl ?_⟩
  simp -implicitDefEqProofs only [go_sem, ↓reduceIte, Nat.reduceEqDiff, Nat.reduceAdd, Nat.reduceLeDiff, Nat.reduceMul, Nat.reduceSub, Int.reduceLE, Int.reduceLT, Int.reduceEq, Int.reduceToNat, Int.reducePow, Int.reduceNeg, tm2, hw2 (nxN ls 1 % 2) (by omega)]
  refine hK _ ?_; clear hK
  refine bwp_seq fun K1 hK1 => ?_
  refine bwp_seq fun K hK => bwp_region rfl ?_
  simp -implicitDefEqProofs only [go_sem, ↓reduceIte, Nat.reduceEqDiff, Nat.reduceAdd, Nat.reduceLeDiff, Nat.reduceMul, Nat.reduceSub, Int.reduceLE, Int.reduceLT, Int.reduceEq, Int.reduceToNat, Int.reducePow, Int.reduceNeg]
  refine ⟨rfl, smNext_callK (a := 2) hX (by omega) rfl ?_⟩
  simp -implicitDefEqProofs only [go_sem, ↓reduceIte, Nat.reduceEqDiff, Nat.reduceAdd, Nat.reduceLeDiff, Nat.reduceMul, Nat.reduceSub, Int.reduceLE, Int.reduceLT, Int.reduceEq, Int.reduceToNat, Int.reducePow, Int.reduceNeg, tm4]
  refine hK _ ?_; clear hK
  have mid : ∀ (S : St) (Iv : DV), Leads (mbound []) 184 S ⟨[(1, .d (.int .i64 most)), (4, .ptr 0 0), (5, .ptr 1 0), (7, .fn 63 [.ptr 2 0, .dptr [X]]), (8, .d (.int .i64 (smallN ls))), (9, .d (.int .i64 (smallLocs ls)))],
      [(0, [.d (.str []), .d .nsl, .d .nsl, .d (.int .i64 0), .d .nsl]), (1, [.d (.str [116]), .d Iv, .d .nsl, .d (.int .i64 0), .d .nsl]), (2, [.d (.int .i64 (smallAt ls))])], 3⟩ → IsSl Init.cells (smallInits ls) Iv → K1 S := by
    intro S Iv hS hIv
    refine hK1 _ ?_; clear hK1
    refine bwp_leads hS ?_
    refine bwp_leads (Leads.nilCell 1 2 1 rfl rfl rfl rfl) ?_
    refine bwp_seq fun K hK => bwp_region rfl ?_
    simp -implicitDefEqProofs only [go_sem, ↓reduceIte, Nat.reduceEqDiff, Nat.reduceAdd, Nat.reduceLeDiff, Nat.reduceMul, Nat.reduceSub, Int.reduceLE, Int.reduceLT, Int.reduceEq, Int.reduceToNat, Int.reducePow, Int.reduceNeg]
    refine hK _ ?_; clear hK
    refine bwp_seq fun K1 hK1 => ?_
    refine bwp_seq fun K2 hK2 => ?_
    refine bwp_region rfl ?_
    simp -implicitDefEqProofs only [go_sem, ↓reduceIte, Nat.reduceEqDiff, Nat.reduceAdd, Nat.reduceLeDiff, Nat.reduceMul, Nat.reduceSub, Int.reduceLE, Int.reduceLT, Int.reduceEq, Int.reduceToNat, Int.reducePow, Int.reduceNeg]
    refine hK2 _ ?_; clear hK2
    refine bwp_block ?_
    refine bwp_leads (S' := smO X Iv [] (smallN ls) (smallLocs ls) most 0 (smallAt ls) 0) (Leads.ent [(0, 0), (1, 1), (2, 2), (3, 3)] ⟨?_, ?_, rfl, rfl⟩) ?_
    · simp [smO, entT, fget, AV.ren, renL, pget]
    · simp [smO, entM, pinv, mget, mset, renL, AV.ren, pget]
    refine small_threads hX hn hl0 hl hmost (by unfold smallAt; split <;> omega) ?_
    intro ds hds hdl hat mem
    simp -implicitDefEqProofs only [go_sem, ↓reduceIte, Nat.reduceEqDiff, Nat.reduceAdd, Nat.reduceLeDiff, Nat.reduceMul, Nat.reduceSub, Int.reduceLE, Int.reduceLT, Int.reduceEq, Int.reduceToNat, Int.reducePow, Int.reduceNeg]
    refine hK1 _ ?_; clear hK1
    have hts : smallThreads ls (smallLocs ls) most (smallN ls) (smallAt ls) 0 [] = smallTs ls most := rfl
    rw [hts] at hds hat ⊢
    have htk : ds.take (smallN ls) = ds := List.take_of_length_le (by omega)
    refine bwp_leads (S' := smL X Iv ds (smallN ls) (smallTs ls most).1) (Leads.frz [(0, 0), (1, 1), (2, 2)] [(3, ds)] ⟨?_, ?_, rfl, rfl, ?_⟩) ?_
    · simp [smL, smO, frzT, fget, AV.cv, cvL, zget, pget]
    · simp [smL, smO, frzM, pinv, zget, mget, cvL, AV.cv, htk]
    · simp [smO, zokFrom, mget, cvL_d]
    refine small_tail (x := smallC ls most) hX (by omega) rfl hdl ?_
    intro Av hAv
    have hc : ∀ l : List DV, (AV.agg (l.map .d)).ren (pget []) = .agg (l.map .d) := fun l => by simp [AV.ren]
    exact ⟨⟨[.str [116], Iv, .sl (smallN ls) ds, .int .i64 (smallKind (smallC ls most)), Av], rfl, Iv, .sl (smallN ls) ds, Av, rfl, hIv, ⟨ds, ⟨by omega, .inr (by simp [hdl])⟩, hds⟩, hAv⟩, rfl⟩
  by_cases hz : nxN ls 2 % 4 = 0
  · refine bwp_cond true (by simp [ev, fget, hz]) (fun _ => ?_) (fun h => nomatch h)
    refine bwp_region_draw rfl rfl ?_
    simp -implicitDefEqProofs only [go_sem, ↓reduceIte, Nat.reduceEqDiff, Nat.reduceAdd, Nat.reduceLeDiff, Nat.reduceMul, Nat.reduceSub, Int.reduceLE, Int.reduceLT, Int.reduceEq, Int.reduceToNat, Int.reducePow, Int.reduceNeg]
    refine ⟨rfl, smNext_dCallK (a := 3) hX (by omega) rfl ?_⟩
    simp -implicitDefEqProofs only [go_sem, ↓reduceIte, Nat.reduceEqDiff, Nat.reduceAdd, Nat.reduceLeDiff, Nat.reduceMul, Nat.reduceSub, Int.reduceLE, Int.reduceLT, Int.reduceEq, Int.reduceToNat, Int.reducePow, Int.reduceNeg, tm3]
    refine ⟨rfl, mid _ (.sl 1 [.int .i64 120, .int .i64 (nxN ls 3 % 3 : Nat)]) (Leads.frz [(0, 0), (1, 1), (2, 2)] [(13, [.int .i64 120, .int .i64 (nxN ls 3 % 3 : Nat)])] ⟨?_, ?_, rfl, rfl, ?_⟩) ?_⟩
    · simp [frzT, fget, AV.cv, cvL, zget, pget, smallN, smallLocs]
    · simp [frzM, pinv, zget, mget, cvL, AV.cv, smallAt, hz]
    · simp [zokFrom, mget, cvL, AV.cv]
    · simp [smallInits, hz, IsSl, Init.cells]
  · refine bwp_cond false (by simp [ev, fget]; omega) (fun h => nomatch h) (fun _ => ?_)
    refine bwp_skip ?_
    refine mid _ .nsl (Leads.ent [(0, 0), (1, 1), (2, 2)] ⟨?_, ?_, rfl, rfl⟩) ?_
    · simp [entT, fget, AV.ren, renL, pget, smallN, smallLocs]
    · simp [entM, pinv, mget, renL, AV.ren, smallAt, hz]
    · simp [smallInits, hz, IsSl]
end Go.Proofs.YtpfbljkfbjjlkaaDoor

/- ParseBack comes to true: its loops. -/
namespace Go.Proofs.YtpfbljkfbjjlkaaDoor
open Go Go.Jq
set_option maxRecDepth 100000
set_option linter.unusedSimpArgs false
def pbW : List (List UInt8) := [[10], [9, 32], [32, 32]]
def pbG (how : Int) (k : Nat) : List UInt8 := if bits .and .i64 (how.fdiv (2 ^ (bits .and .i64 (k : Int) 15).toNat)) 3 = 0 then pbW.getD (k % 3) [] else []
theorem pbW_ok (k : Nat) : (pbW.getD (k % 3) []).length ≤ 2 ∧ Blanks (pbW.getD (k % 3) []) := by
  have key : ∀ q : Fin 3, (pbW.getD q.1 []).length ≤ 2 ∧ (pbW.getD q.1 []).all blankB = true := by decide
  exact key ⟨k % 3, by omega⟩
theorem pbG_ok (how : Int) (k : Nat) : (pbG how k).length ≤ 2 ∧ Blanks (pbG how k) := by
  unfold pbG
  split
  · exact pbW_ok k
  · exact ⟨by simp, rfl⟩
theorem spread_len {g : Nat → List UInt8} (hg : ∀ k, (g k).length ≤ 2) : ∀ (s : List UInt8) (k : Nat), (spread g k s).length ≤ 3 * s.length
  | [], _ => by simp [spread]
  | c :: s, k => by
    have h1 := spread_len hg s (k + 1)
    have h2 := hg k
    rw [spread, List.length_cons, List.length_append, List.length_cons]
    split
    · omega
    · simp only [List.length_nil]; omega
theorem spread_snoc (g : Nat → List UInt8) (s : List UInt8) {k : Nat} (h : k < s.length) : spread g 0 (s.take (k + 1)) = spread g 0 (s.take k) ++ s.getD k 0 :: (if s.getD k 0 = 32 then g k else []) := by
  rw [take_snoc s k h, spread_append, List.length_take, Nat.min_eq_left (by omega)]
  have e : s.getD k 0 = s[k] := by simp [h]
  rw [e]
  simp [spread]
theorem slice_one {s : List UInt8} {k : Nat} (h : k < s.length) : (s.take (k + 1)).drop k = [s.getD k 0] := by
  have e : s.getD k 0 = s[k] := by simp [h]
  rw [e, take_snoc s k h, List.drop_append_of_le_length (by rw [List.length_take]; omega), List.drop_of_length_le (by rw [List.length_take]; omega)]
  rfl
theorem mask_nat3 (x : Int) (m : Nat) (hm : m < 9223372036854775808) : ∃ q : Nat, bits .and .i64 x m = (q : Int) ∧ q ≤ m := by
  obtain ⟨h1, h2⟩ := and_mask x m hm
  exact ⟨(bits .and .i64 x m).toNat, by omega, by omega⟩
def pbI (ct cu : List DV) (how : Int) (i : Nat) (p q : List UInt8) (k : Nat) : St :=
  ⟨[(11, .d (.int .i64 k)), (10, .d (.str q)), (9, .d (.str p)), (2, .d (.int .i64 how)), (3, .ptr 0 0), (7, .ptr 1 0), (8, .d (.int .i64 i))], [(0, ct.map .d), (1, cu.map .d)], 2⟩
set_option maxHeartbeats 8000000 in
theorem pb_inner {ct cu : List DV} {how : Int} {i : Nat} {p : List UInt8} (hp : p.length ≤ 3000) {Q : Exit → St → Prop} (hQ : Q (.exit 2) (pbI ct cu how i p (spread (pbG how) 0 p) p.length)) :
    BWP Tryd.prog (mbound []) Tryd.f14.ntmps (.loop ac14L0) (pbI ct cu how i p [] 0) Q := by
  refine bwp_count (fun k => pbI ct cu how i p (spread (pbG how) 0 (p.take k)) k) p.length ?_
  intro k hk
  unfold ac14L0
  refine bwp_seq fun K1 hK1 => ?_
  by_cases hlt : k < p.length
  · have h1 : (k : Int) < p.length := by omega
    have h0 : (0 : Int) ≤ (k : Int) := by omega
    have h0' : (0 : Int) ≤ ((k + 1 : Nat) : Int) := by omega
    have hkk : k ≤ k + 1 ∧ k + 1 ≤ p.length := by omega
    have hw : IntKind.i64.wrap ((k : Int) + 1) = ((k + 1 : Nat) : Int) := by rw [wrap_i64 (by omega) (by omega)]; rfl
    have hsn := spread_snoc (pbG how) p hlt
    have hso := slice_one hlt
    have hsl := spread_len (fun k => (pbG_ok how k).1) (p.take k) 0
    have hsl2 : (spread (pbG how) 0 (p.take k)).length ≤ 9000 := by rw [List.length_take] at hsl; omega
    obtain ⟨r, hr, hr15⟩ := mask_nat3 (k : Int) 15 (by omega)
    have hr' : bits .and .i64 (k : Int) 15 = (r : Int) := hr
    have hg : pbG how k = if bits .and .i64 (how.fdiv (2 ^ r)) 3 = 0 then pbW.getD (k % 3) [] else [] := by
      unfold pbG
      rw [hr', Int.toNat_natCast]
    have hr0 : ¬ (r : Int) < 0 := by omega
    have hbits : IntKind.i64.bits = 64 := rfl
    have hmin : min r 64 = r := by omega
    have hix : p.getD k 0 = p.getD k 0 := rfl
    generalize hq : spread (pbG how) 0 (p.take k) = q at hsn hsl2
    generalize hc : p.getD k 0 = c at hsn hso hix
    have b1 : q.length + 1 ≤ 9223372036854775807 := by omega
    unfold pbI
    refine bwp_seq fun K hK => bwp_region rfl ?_
    simp only [go_sem, ↓reduceIte, Nat.reduceEqDiff, Nat.reduceAdd, h1]
    refine hK _ ?_; clear hK
    refine bwp_cond true (by simp [ev, fget]) (fun _ => ?_) (fun h => nomatch h)
    refine bwp_skip ?_
    refine hK1 _ ?_; clear hK1
    refine bwp_seq fun K1 hK1 => ?_
    refine bwp_block ?_
    refine bwp_seq fun K hK => bwp_region rfl ?_
    simp only [go_sem, ↓reduceIte, Nat.reduceEqDiff, Nat.reduceAdd, hw, h0, h0', Int.toNat_natCast, hkk, hso, List.length_cons, List.length_nil, Nat.zero_add, b1]
    refine hK _ ?_; clear hK
    have fin : ∀ (S : St), Leads (mbound []) Tryd.f14.ntmps S (pbI ct cu how i p (q ++ c :: (if c = 32 then pbG how k else [])) k) → K1 S := by
      intro S hS
      refine hK1 _ ?_; clear hK1
      refine bwp_leads hS ?_
      unfold pbI
      refine bwp_region rfl ?_
      simp only [go_sem, ↓reduceIte, Nat.reduceEqDiff, Nat.reduceAdd, hw]
      refine ⟨hlt, Leads.ent [(0, 0), (1, 1)] ⟨by simp [entT, fget, AV.ren, renL, pget, hsn], by simp [entM, pinv, mget, renL, AV.ren, pget, -List.map_map], rfl, rfl⟩⟩
    by_cases hcc : (c.toNat : Int) = 32
    · have hc32 : c = 32 := u8eq (k := 32) hcc
      by_cases hb : bits .and .i64 (how.fdiv (2 ^ r)) 3 = 0
      · rw [if_pos hb] at hg
        refine bwp_seq fun K hK => bwp_region rfl ?_
        simp only [go_sem, ↓reduceIte, Nat.reduceEqDiff, Nat.reduceAdd, h0, h1, Int.toNat_natCast, hc, eq_true hcc, hr', hr0, hbits, hmin, eq_true hb, decide_true]
        refine hK _ ?_; clear hK
        refine bwp_cond true (by simp [ev, fget]) (fun _ => ?_) (fun h => nomatch h)
        have h3 : k % 3 = 0 ∨ k % 3 = 1 ∨ k % 3 = 2 := by omega
        rcases h3 with h3 | h3 | h3
        all_goals
          have e3 : ((k : Int).tmod 3) = ((k % 3 : Nat) : Int) := rfl
          rw [h3] at hg e3
          simp only [Int.cast_ofNat_Int] at e3
          have b2 : q.length + 1 + 1 ≤ 9223372036854775807 := by omega
          have b3 : q.length + 1 + 2 ≤ 9223372036854775807 := by omega
          refine bwp_region rfl ?_
          simp -implicitDefEqProofs only [go_sem, ↓reduceIte, Nat.reduceEqDiff, Nat.reduceAdd, Nat.reduceLeDiff, Nat.reduceMul, Nat.reduceSub, Int.reduceLE, Int.reduceLT, Int.reduceEq, Int.reduceToNat, Int.reducePow, Int.reduceNeg, e3, Int.toNat_natCast, List.drop_zero, List.drop_succ_cons, List.length_append, List.length_cons, List.length_nil, Nat.zero_add, b2, b3, Int.natCast_nonneg, Int.reduceToNat]
          refine fin _ (Leads.ent [(0, 0), (1, 1)] ⟨by simp [entT, fget, AV.ren, renL, pget, pbI, hc32, hg, pbW], by simp [entM, pinv, mget, renL, AV.ren, pget, pbI, -List.map_map], rfl, rfl⟩)
      · rw [if_neg hb] at hg
        refine bwp_seq fun K hK => bwp_region rfl ?_
        simp only [go_sem, ↓reduceIte, Nat.reduceEqDiff, Nat.reduceAdd, h0, h1, Int.toNat_natCast, hc, eq_true hcc, hr', hr0, hbits, hmin, eq_false hb, decide_true, decide_false]
        refine hK _ ?_; clear hK
        refine bwp_cond false (by simp [ev, fget]) (fun h => nomatch h) (fun _ => ?_)
        refine bwp_skip ?_
        refine fin _ (Leads.ent [(0, 0), (1, 1)] ⟨by simp [entT, fget, AV.ren, renL, pget, pbI, hc32, hg], by simp [entM, pinv, mget, renL, AV.ren, pget, pbI, -List.map_map], rfl, rfl⟩)
    · have hc32 : ¬ c = 32 := fun h => hcc (by rw [h]; rfl)
      refine bwp_seq fun K hK => bwp_region rfl ?_
      simp only [go_sem, ↓reduceIte, Nat.reduceEqDiff, Nat.reduceAdd, h0, h1, Int.toNat_natCast, hc, eq_false hcc, decide_false]
      refine hK _ ?_; clear hK
      refine bwp_cond false (by simp [ev, fget]) (fun h => nomatch h) (fun _ => ?_)
      refine bwp_skip ?_
      refine fin _ (Leads.ent [(0, 0), (1, 1)] ⟨by simp [entT, fget, AV.ren, renL, pget, pbI, hc32], by simp [entM, pinv, mget, renL, AV.ren, pget, pbI, -List.map_map], rfl, rfl⟩)
  · have h1 : ¬ (k : Int) < p.length := by omega
    have he : k = p.length := by omega
    have ht : p.take k = p := List.take_of_length_le (by omega)
    rw [ht]
    unfold pbI
    refine bwp_seq fun K hK => bwp_region rfl ?_
    simp only [go_sem, ↓reduceIte, Nat.reduceEqDiff, Nat.reduceAdd, h1]
    refine hK _ ?_; clear hK
    refine bwp_cond false (by simp [ev, fget]) (fun h => nomatch h) (fun _ => ?_)
    refine bwp_leads (S' := pbI ct cu how i p (spread (pbG how) 0 p) p.length) (Leads.ent [(0, 0), (1, 1)] ⟨by simp [entT, fget, AV.ren, renL, pget, pbI, he], by simp [entM, pinv, mget, mset, renL, AV.ren, pget, renL_append, -List.map_map, pbI, he], rfl, rfl⟩) ?_
    exact bwp_exit hQ
theorem testT_val {u : Test} (hv : RangeT u) (h : testT u ≠ []) : ValT u := by
  have hok : okB u = true := by
    cases h0 : okB u with
    | true => rfl
    | false => exact absurd (by unfold testT; rw [h0]; rfl) h
  exact ⟨hok, hv.values, hv.ins, hv.rows⟩
def pbO (ct cu : List DV) (how : Int) (i : Nat) : St := ⟨[(8, .d (.int .i64 i)), (2, .d (.int .i64 how)), (3, .ptr 0 0), (7, .ptr 1 0)], [(0, ct.map .d), (1, cu.map .d)], 2⟩
set_option maxHeartbeats 16000000 in
theorem pb_outer {t s : Test} {cs cu : List DV} (hT : IsTest t cs) (hf : FewT2 t) (hv : RangeT t) (hU : IsTest s cu) (hf' : FewT2 s) (hv' : RangeT s) {how : Int} {Q : Exit → St → Prop} (hQ : Q (.exit 0) (pbO cu cu how 2)) :
    BWP Tryd.prog (mbound []) Tryd.f14.ntmps (.loop ac14L1) (pbO cs cu how 0) Q := by
  refine bwp_count (fun i => pbO (if i = 2 then cu else cs) cu how i) 2 ?_
  intro i hi
  unfold ac14L1
  refine bwp_seq fun K1 hK1 => ?_
  obtain ⟨I', T', A', rfl, hI', hTh', hA'⟩ := hU
  have hU' : IsTest s [.str s.name, I', T', .int .i64 s.kind, A'] := ⟨_, _, _, rfl, hI', hTh', hA'⟩
  by_cases hlt : i < 2
  rotate_left
  · have he : i = 2 := by omega
    subst he
    unfold pbO
    simp only [if_true]
    refine bwp_seq fun K hK => bwp_region rfl ?_
    simp only [go_sem, ↓reduceIte, Nat.reduceEqDiff, Nat.reduceAdd]
    refine hK _ ?_; clear hK
    refine bwp_cond false (by simp [ev, fget]) (fun h => nomatch h) (fun _ => ?_)
    refine bwp_leads (S' := pbO [.str s.name, I', T', .int .i64 s.kind, A'] [.str s.name, I', T', .int .i64 s.kind, A'] how 2) (Leads.ent [(0, 0), (1, 1)] ⟨by simp [entT, fget, AV.ren, renL, pget, pbO], by simp [entM, pinv, mget, mset, renL, AV.ren, pget, renL_append, -List.map_map, pbO], rfl, rfl⟩) ?_
    exact bwp_exit hQ
  · have hi2 : ¬ i = 2 := by omega
    rw [if_neg hi2]
    have hw : IntKind.i64.wrap ((i : Int) + 1) = ((i + 1 : Nat) : Int) := by rw [wrap_i64 (by omega) (by omega)]; rfl
    have hlt' : (i : Int) < 2 := by omega
    unfold pbO
    refine bwp_seq fun K hK => bwp_region rfl ?_
    simp only [go_sem, ↓reduceIte, Nat.reduceEqDiff, Nat.reduceAdd, eq_true hlt', decide_true]
    refine hK _ ?_; clear hK
    refine bwp_cond true (by simp [ev, fget]) (fun _ => ?_) (fun h => nomatch h)
    refine bwp_skip ?_
    refine hK1 _ ?_; clear hK1
    refine bwp_seq fun K1 hK1 => ?_
    refine bwp_block ?_
    refine bwp_seq fun K2 hK2 => ?_
    have fin : ∀ (S : St) (ct : List DV), ct = (if i + 1 = 2 then [.str s.name, I', T', .int .i64 s.kind, A'] else cs) → Leads (mbound []) Tryd.f14.ntmps S (pbO ct [.str s.name, I', T', .int .i64 s.kind, A'] how i) → K1 S := by
      intro S ct hct hS
      refine hK1 _ ?_; clear hK1
      refine bwp_leads hS ?_
      unfold pbO
      refine bwp_region rfl ?_
      simp only [go_sem, ↓reduceIte, Nat.reduceEqDiff, Nat.reduceAdd, hw]
      refine ⟨hlt, Leads.ent [(0, 0), (1, 1)] ⟨by simp [entT, fget, AV.ren, renL, pget], by simp [entM, pinv, mget, renL, AV.ren, pget, hct, -List.map_map], rfl, rfl⟩⟩
    have mid : ∀ (S : St) (u : Test) (ct : List DV), ct = (if i + 1 = 2 then [.str s.name, I', T', .int .i64 s.kind, A'] else cs) → IsTest u ct → FewT2 u → RangeT u → Leads (mbound []) Tryd.f14.ntmps S (pbO ct [.str s.name, I', T', .int .i64 s.kind, A'] how i) → K2 S := by
      intro S u ct hct hu hfu hvu hS
      have fin := fun S h => fin S ct hct h
      clear hct
      refine hK2 _ ?_; clear hK2
      refine bwp_leads hS ?_
      clear hS
      have kp := refPrint_pure hu hfu
      have hval := testT_val hvu
      obtain ⟨I, T, A, rfl, hI, hTh, hA⟩ := hu
      have hu : IsTest u [.str u.name, I, T, .int .i64 u.kind, A] := ⟨_, _, _, rfl, hI, hTh, hA⟩
      simp only [List.map_cons, List.map_nil] at kp
      have hsp := fun h => spread_reads (t := u) (hval h) (g := pbG how) (fun k => (pbG_ok how k).2)
      generalize testT u = p at kp hsp
      unfold pbO
      simp only [List.map_cons, List.map_nil]
      refine bwp_seq fun K hK => bwp_region rfl ?_
      simp only [go_sem, ↓reduceIte, Nat.reduceEqDiff, Nat.reduceAdd]
      repeat' (first
        | (refine gateK_split (fun hb => ?_) (fun hb => ?_) <;> simp only [go_sem, ↓reduceIte, Nat.reduceEqDiff, Nat.reduceAdd, hb])
        | (refine dGateK_split (fun hb => ?_) (fun hb => ?_) <;> simp only [go_sem, ↓reduceIte, Nat.reduceEqDiff, Nat.reduceAdd, hb])
        | (refine callK_pure (kp) rfl rfl ?_; simp only [go_sem, ↓reduceIte, Nat.reduceEqDiff, Nat.reduceAdd])
        | (refine dCallK_pure (kp) rfl rfl ?_; simp only [go_sem, ↓reduceIte, Nat.reduceEqDiff, Nat.reduceAdd])
        | (rw [if_pos (by (try simp only [List.length_append, List.length_cons, List.length_nil, List.length_map]); omega)]; simp only [go_sem, ↓reduceIte, Nat.reduceEqDiff, Nat.reduceAdd]))
      refine hK _ ?_; clear hK
      refine bwp_seq fun K3 hK3 => ?_
      by_cases hp0 : p = []
      · refine bwp_seq fun K hK => bwp_region rfl ?_
        simp only [go_sem, ↓reduceIte, Nat.reduceEqDiff, Nat.reduceAdd, eq_true hp0, decide_true]
        refine hK _ ?_; clear hK
        refine bwp_cond true (by simp [ev, fget]) (fun _ => ?_) (fun h => nomatch h)
        refine bwp_exit ?_
        simp only [go_sem, ↓reduceIte, Nat.reduceEqDiff, Nat.reduceAdd]
        refine fin _ (Leads.ent [(0, 0), (1, 1)] ⟨by simp [entT, fget, AV.ren, renL, pget, pbO], by simp [entM, pinv, mget, renL, AV.ren, pget, pbO, -List.map_map], rfl, rfl⟩)
      by_cases hp3 : 3000 < p.length
      · have hp3' : (3000 : Int) < p.length := by omega
        refine bwp_seq fun K hK => bwp_region rfl ?_
        simp only [go_sem, ↓reduceIte, Nat.reduceEqDiff, Nat.reduceAdd, eq_false hp0, eq_true hp3', decide_true, decide_false]
        refine hK _ ?_; clear hK
        refine bwp_cond true (by simp [ev, fget]) (fun _ => ?_) (fun h => nomatch h)
        refine bwp_exit ?_
        simp only [go_sem, ↓reduceIte, Nat.reduceEqDiff, Nat.reduceAdd]
        refine fin _ (Leads.ent [(0, 0), (1, 1)] ⟨by simp [entT, fget, AV.ren, renL, pget, pbO], by simp [entM, pinv, mget, renL, AV.ren, pget, pbO, -List.map_map], rfl, rfl⟩)
      have hp3' : ¬ (3000 : Int) < p.length := by omega
      refine bwp_seq fun K hK => bwp_region rfl ?_
      simp only [go_sem, ↓reduceIte, Nat.reduceEqDiff, Nat.reduceAdd, eq_false hp0, eq_false hp3', decide_true, decide_false]
      refine hK _ ?_; clear hK
      refine bwp_cond false (by simp [ev, fget]) (fun h => nomatch h) (fun _ => ?_)
      refine bwp_skip ?_
      refine hK3 _ ?_; clear hK3
      refine bwp_seq fun K hK => bwp_region rfl ?_
      simp only [go_sem, ↓reduceIte, Nat.reduceEqDiff, Nat.reduceAdd]
      refine hK _ ?_; clear hK
      refine bwp_seq fun K4 hK4 => ?_
      refine bwp_seq fun K hK => bwp_region rfl ?_
      simp only [go_sem, ↓reduceIte, Nat.reduceEqDiff, Nat.reduceAdd]
      refine hK _ ?_; clear hK
      refine bwp_block ?_
      refine bwp_leads (S' := pbI [.str u.name, I, T, .int .i64 u.kind, A] [.str s.name, I', T', .int .i64 s.kind, A'] how i p [] 0) (Leads.ent [(0, 0), (1, 1)] ⟨by simp [entT, fget, AV.ren, renL, pget, pbI], by simp [entM, pinv, mget, mset, renL, AV.ren, pget, renL_append, -List.map_map, pbI], rfl, rfl⟩) ?_
      refine pb_inner (by omega) ?_
      have hsp := hsp hp0 (by omega)
      generalize spread (pbG how) 0 p = q at hsp ⊢
      unfold pbI
      simp only [go_sem, ↓reduceIte, Nat.reduceEqDiff, Nat.reduceAdd]
      refine hK4 _ ?_; clear hK4
      refine bwp_seq fun K5 hK5 => ?_
      by_cases hq : 4000 < q.length
      · have hq' : (4000 : Int) < q.length := by omega
        refine bwp_seq fun K hK => bwp_region rfl ?_
        simp only [go_sem, ↓reduceIte, Nat.reduceEqDiff, Nat.reduceAdd, eq_true hq', decide_true]
        refine hK _ ?_; clear hK
        refine bwp_cond true (by simp [ev, fget]) (fun _ => ?_) (fun h => nomatch h)
        refine bwp_exit ?_
        simp only [go_sem, ↓reduceIte, Nat.reduceEqDiff, Nat.reduceAdd]
        refine fin _ (Leads.ent [(0, 0), (1, 1)] ⟨by simp [entT, fget, AV.ren, renL, pget, pbO], by simp [entM, pinv, mget, renL, AV.ren, pget, pbO, -List.map_map], rfl, rfl⟩)
      have hq' : ¬ (4000 : Int) < q.length := by omega
      have hm : maxLen = 9223372036854775807 := rfl
      have hreads := hsp (by omega)
      have k1 := parse2_pure (s := q) (by omega)
      have hi1 := isTest_p q
      rw [hreads] at k1 hi1
      have k2 := refSame_pure hi1 hu
      have hsm : sameB (pT (.ok u)) u = true := (sameB_iff _ _).2 rfl
      rw [hsm] at k2
      obtain ⟨I1, T1, A1, hc⟩ := pCells_split (.ok u)
      rw [hc] at k1 k2
      simp only [List.map_cons, List.map_nil, pCode, pAt] at k1 k2
      generalize (pT (.ok u)).name = nm at *
      generalize (pT (.ok u)).kind = kd at *
      refine bwp_seq fun K hK => bwp_region rfl ?_
      simp only [go_sem, ↓reduceIte, Nat.reduceEqDiff, Nat.reduceAdd, eq_false hq', decide_false]
      refine hK _ ?_; clear hK
      refine bwp_cond false (by simp [ev, fget]) (fun h => nomatch h) (fun _ => ?_)
      refine bwp_skip ?_
      refine hK5 _ ?_; clear hK5
      refine bwp_seq fun K hK => bwp_region rfl ?_
      simp only [go_sem, ↓reduceIte, Nat.reduceEqDiff, Nat.reduceAdd]
      repeat' (first
        | (refine gateK_split (fun hb => ?_) (fun hb => ?_) <;> simp only [go_sem, ↓reduceIte, Nat.reduceEqDiff, Nat.reduceAdd, hb])
        | (refine dGateK_split (fun hb => ?_) (fun hb => ?_) <;> simp only [go_sem, ↓reduceIte, Nat.reduceEqDiff, Nat.reduceAdd, hb])
        | (refine callK_pure (k1) rfl rfl ?_; simp only [go_sem, ↓reduceIte, Nat.reduceEqDiff, Nat.reduceAdd])
        | (refine dCallK_pure (k1) rfl rfl ?_; simp only [go_sem, ↓reduceIte, Nat.reduceEqDiff, Nat.reduceAdd])
        | (rw [if_pos (by (try simp only [List.length_append, List.length_cons, List.length_nil, List.length_map]); omega)]; simp only [go_sem, ↓reduceIte, Nat.reduceEqDiff, Nat.reduceAdd]))
      refine hK _ ?_; clear hK
      refine bwp_seq fun K hK => bwp_region rfl ?_
      simp only [go_sem, ↓reduceIte, Nat.reduceEqDiff, Nat.reduceAdd]
      repeat' (first
        | (refine gateK_split (fun hb => ?_) (fun hb => ?_) <;> simp only [go_sem, ↓reduceIte, Nat.reduceEqDiff, Nat.reduceAdd, hb])
        | (refine dGateK_split (fun hb => ?_) (fun hb => ?_) <;> simp only [go_sem, ↓reduceIte, Nat.reduceEqDiff, Nat.reduceAdd, hb])
        | (refine callK_pure (k2) rfl rfl ?_; simp only [go_sem, ↓reduceIte, Nat.reduceEqDiff, Nat.reduceAdd])
        | (refine dCallK_pure (k2) rfl rfl ?_; simp only [go_sem, ↓reduceIte, Nat.reduceEqDiff, Nat.reduceAdd])
        | (rw [if_pos (by (try simp only [List.length_append, List.length_cons, List.length_nil, List.length_map]); omega)]; simp only [go_sem, ↓reduceIte, Nat.reduceEqDiff, Nat.reduceAdd]))
      refine hK _ ?_; clear hK
      refine bwp_cond false (by simp [ev, fget]) (fun h => nomatch h) (fun _ => ?_)
      refine bwp_skip ?_
      simp only [go_sem, ↓reduceIte, Nat.reduceEqDiff, Nat.reduceAdd]
      refine fin _ (Leads.ent [(0, 0), (1, 1)] ⟨by simp [entT, fget, AV.ren, renL, pget, pbO], by simp [entM, pinv, mget, renL, AV.ren, pget, pbO, -List.map_map], rfl, rfl⟩)
    have h01 : i = 0 ∨ i = 1 := by omega
    rcases h01 with rfl | rfl
    · refine bwp_seq fun K hK => bwp_region rfl ?_
      simp only [go_sem, ↓reduceIte, Nat.reduceEqDiff, Nat.reduceAdd]
      refine hK _ ?_; clear hK
      refine bwp_cond false (by simp [ev, fget]) (fun h => nomatch h) (fun _ => ?_)
      refine bwp_skip ?_
      refine mid _ t cs rfl hT hf hv (Leads.ent [(0, 0), (1, 1)] ⟨by simp [entT, fget, AV.ren, renL, pget, pbO], by simp [entM, pinv, mget, renL, AV.ren, pget, pbO], rfl, rfl⟩)
    · obtain ⟨I0, T0, A0, rfl, _, _, _⟩ := hT
      refine bwp_seq fun K hK => bwp_region rfl ?_
      simp only [go_sem, ↓reduceIte, Nat.reduceEqDiff, Nat.reduceAdd]
      refine hK _ ?_; clear hK
      refine bwp_cond true (by simp [ev, fget]) (fun _ => ?_) (fun h => nomatch h)
      refine bwp_region rfl ?_
      simp only [go_sem, ↓reduceIte, Nat.reduceEqDiff, Nat.reduceAdd, List.map_cons, List.map_nil, List.length_cons, List.length_nil]
      refine mid _ s _ rfl hU' hf' hv' (Leads.ent [(0, 0), (1, 1)] ⟨by simp [entT, fget, AV.ren, renL, pget, pbO], by simp [entM, pinv, mget, renL, AV.ren, pget, pbO], rfl, rfl⟩)
set_option maxHeartbeats 16000000 in
theorem parseBack_pure {t : Test} {cs : List DV} (hT : IsTest t cs) (hv : RangeT t) (hz : SizeT t) {ls : List Int} {X : DV} (hX : IsInts ls X) {how : Int} (_ : I64 how) :
    Pure Tryd.prog 14 [.agg (cs.map .d), .d X, .d (.int .i64 how)] (.d (.bool true)) := by
  have haw := awake3_pure
  have hrb : reachBytes ≤ 140737488351232 := by decide
  have hT1 := hT
  obtain ⟨I, T, A, rfl, hI, hTh, hA⟩ := hT1
  simp only [List.map_cons, List.map_nil]
  refine acalls_of Tryd.func14 ac14_ok Tryd.ntmps14 Tryd.results14 rfl ?_
  unfold ac14
  refine bwp_seq fun K hK => bwp_region rfl ?_
  simp only [go_sem, ↓reduceIte, Nat.reduceEqDiff, Nat.reduceAdd]
  refine hK _ ?_; clear hK
  refine bwp_seq fun K1 hK1 => ?_
  have no : ∀ S : St, decide (mbound [] ≤ S.n) = true → BWP Tryd.prog (mbound []) Tryd.f14.ntmps ((ACode.region false [⟨some 37, .callf 24 [], none⟩, ⟨some 6, .mv (.t 37), none⟩] []).seq ACode.ret) S (Exit.thenA K1 (AEnd Tryd.prog #[.tmp 6] (mbound []) fun r m' => r = .d (.bool true) ∧ m' = [])) := by
    intro S hn
    refine bwp_seq fun K hK => bwp_region hn ?_
    simp only [go_sem, ↓reduceIte, Nat.reduceEqDiff, Nat.reduceAdd]
    refine callK_pure awake3_pure rfl rfl ?_
    simp only [go_sem, ↓reduceIte, Nat.reduceEqDiff, Nat.reduceAdd]
    refine hK _ ?_; clear hK
    refine bwp_ret ?_
    simp only [go_sem]
    refine aend_ret _ rfl rfl ⟨?_, rfl⟩
    simp [fget]
  by_cases h1 : 6 < t.threads.length
  · have h1' : (6 : Int) < t.threads.length := by omega
    refine bwp_seq fun K hK => bwp_region rfl ?_
    simp only [go_sem, ↓reduceIte, Nat.reduceEqDiff, Nat.reduceAdd, hTh.len, eq_true h1', decide_true]
    refine hK _ ?_; clear hK
    refine bwp_cond true (by simp [ev, fget]) (fun _ => ?_) (fun h => nomatch h)
    exact no _ rfl
  have h1' : ¬ (6 : Int) < t.threads.length := by omega
  by_cases h2 : 10 < t.inits.length
  · have h2' : (10 : Int) < t.inits.length := by omega
    refine bwp_seq fun K hK => bwp_region rfl ?_
    simp only [go_sem, ↓reduceIte, Nat.reduceEqDiff, Nat.reduceAdd, hTh.len, hI.len, eq_false h1', eq_true h2', decide_true, decide_false]
    refine hK _ ?_; clear hK
    refine bwp_cond true (by simp [ev, fget]) (fun _ => ?_) (fun h => nomatch h)
    exact no _ rfl
  have h2' : ¬ (10 : Int) < t.inits.length := by omega
  by_cases h3 : 50 < t.name.length
  · have h3' : (50 : Int) < t.name.length := by omega
    refine bwp_seq fun K hK => bwp_region rfl ?_
    simp only [go_sem, ↓reduceIte, Nat.reduceEqDiff, Nat.reduceAdd, hTh.len, hI.len, eq_false h1', eq_false h2', eq_true h3', decide_true, decide_false]
    refine hK _ ?_; clear hK
    refine bwp_cond true (by simp [ev, fget]) (fun _ => ?_) (fun h => nomatch h)
    exact no _ rfl
  have h3' : ¬ (50 : Int) < t.name.length := by omega
  by_cases h4 : 10 < t.rows.length
  · have h4' : (10 : Int) < t.rows.length := by omega
    refine bwp_seq fun K hK => bwp_region rfl ?_
    simp only [go_sem, ↓reduceIte, Nat.reduceEqDiff, Nat.reduceAdd, hTh.len, hI.len, hA.len, eq_false h1', eq_false h2', eq_false h3', eq_true h4', decide_true, decide_false]
    refine hK _ ?_; clear hK
    refine bwp_cond true (by simp [ev, fget]) (fun _ => ?_) (fun h => nomatch h)
    exact no _ rfl
  have h4' : ¬ (10 : Int) < t.rows.length := by omega
  clear no
  refine bwp_seq fun K hK => bwp_region rfl ?_
  simp only [go_sem, ↓reduceIte, Nat.reduceEqDiff, Nat.reduceAdd, hTh.len, hI.len, hA.len, eq_false h1', eq_false h2', eq_false h3', eq_false h4', decide_true, decide_false]
  refine hK _ ?_; clear hK
  refine bwp_cond false (by simp [ev, fget]) (fun h => nomatch h) (fun _ => ?_)
  refine bwp_skip ?_
  refine hK1 _ ?_; clear hK1
  have hf : FewT2 t := ⟨by omega, by omega, hv.values, by omega, fun l hl => ⟨by have := hz.ins l hl; omega, hv.ins l hl⟩, by omega, fun l hl => ⟨by have := hz.rows l hl; omega, hv.rows l hl⟩⟩
  have hf' := (small_few ls 8).two
  have hv' : RangeT (small ls 8) := ⟨by have : (small ls 8).name = [116] := rfl; rw [this]; decide, hf'.values, fun l hl => (hf'.ins l hl).2, fun l hl => (hf'.rows.2 l hl).2⟩
  refine bwp_seq fun K hK => bwp_region rfl ?_
  simp only [go_sem, ↓reduceIte, Nat.reduceEqDiff, Nat.reduceAdd]
  refine callK_pureQ (small_calls hX (most := 8) (by omega)) rfl (fun v ⟨cs, h, _⟩ => by subst h; exact inL_data cs) ?_
  rintro v ⟨cu, rfl, hU⟩
  have hU1 := hU
  obtain ⟨I', T', A', rfl, hI', hTh', hA'⟩ := hU1
  simp only [go_sem, ↓reduceIte, Nat.reduceEqDiff, Nat.reduceAdd, List.map_cons, List.map_nil, List.length_cons, List.length_nil]
  refine hK _ ?_; clear hK
  refine bwp_seq fun K1 hK1 => ?_
  refine bwp_seq fun K hK => bwp_region rfl ?_
  simp only [go_sem, ↓reduceIte, Nat.reduceEqDiff, Nat.reduceAdd]
  refine hK _ ?_; clear hK
  refine bwp_block ?_
  refine bwp_leads (S' := pbO [.str t.name, I, T, .int .i64 t.kind, A] [.str (small ls 8).name, I', T', .int .i64 (small ls 8).kind, A'] how 0) (Leads.ent [(0, 0), (1, 1)] ⟨by simp [entT, fget, AV.ren, renL, pget, pbO], by simp [entM, pinv, mget, mset, renL, AV.ren, pget, renL_append, -List.map_map, pbO], rfl, rfl⟩) ?_
  refine pb_outer hT hf hv hU hf' hv' ?_
  unfold pbO
  simp only [go_sem, ↓reduceIte, Nat.reduceEqDiff, Nat.reduceAdd]
  refine hK1 _ ?_; clear hK1
  refine bwp_seq fun K hK => bwp_region rfl ?_
  simp only [go_sem, ↓reduceIte, Nat.reduceEqDiff, Nat.reduceAdd]
  repeat' (first
    | (refine gateK_split (fun hb => ?_) (fun hb => ?_) <;> simp only [go_sem, ↓reduceIte, Nat.reduceEqDiff, Nat.reduceAdd, hb])
    | (refine dGateK_split (fun hb => ?_) (fun hb => ?_) <;> simp only [go_sem, ↓reduceIte, Nat.reduceEqDiff, Nat.reduceAdd, hb])
    | (refine callK_pure (haw) rfl rfl ?_; simp only [go_sem, ↓reduceIte, Nat.reduceEqDiff, Nat.reduceAdd])
    | (refine dCallK_pure (haw) rfl rfl ?_; simp only [go_sem, ↓reduceIte, Nat.reduceEqDiff, Nat.reduceAdd])
    | (rw [if_pos (by (try simp only [List.length_append, List.length_cons, List.length_nil, List.length_map]); omega)]; simp only [go_sem, ↓reduceIte, Nat.reduceEqDiff, Nat.reduceAdd]))
  refine hK _ ?_; clear hK
  refine bwp_ret ?_
  simp only [go_sem]
  refine aend_ret _ rfl rfl ⟨?_, rfl⟩
  simp [fget]
end Go.Proofs.YtpfbljkfbjjlkaaDoor
