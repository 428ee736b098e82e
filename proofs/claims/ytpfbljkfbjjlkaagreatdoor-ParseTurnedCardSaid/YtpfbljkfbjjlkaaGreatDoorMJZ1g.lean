/- What the statement's proof leans on, part 7: the layer, the walks, the plain laws. -/
import Derived.Test.YtpfbljkfbjjlkaaGreatDoorMJZ1f
import Derived.Test.YtpfbljkfbjjlkaaGreatDoorMJZ1c
import Derived.Test.YtpfbljkfbjjlkaaGreatDoorMJZ1d
import Derived.Lib.ItoaMem
import Derived.Test.YtpfbljkfbjjlkaaGreatDoorMJZ1e
import Derived.Test.YtpfbljkfbjjlkaaGreatDoorMJZ1b
import Derived.KernelRfl
import Derived.SizedLaws
set_option linter.unusedSimpArgs false
set_option linter.unusedVariables false

/- The document's Same, over data. -/
namespace Go.Proofs.YtpfbljkfbjjlkaaGreatDoor
open Go Go.Jq
set_option maxRecDepth 100000
set_option linter.unusedSimpArgs false
def sameB (t u : Test) : Bool := decide (t.name = u.name) && (eqL eqInit t.inits u.inits && (eqL (eqL eqIns) t.threads u.threads && (decide (t.kind = u.kind) && eqL (eqL eqAtom) t.rows u.rows)))
theorem sameB_iff (t u : Test) : sameB t u = true ↔ t = u := by
  cases t; cases u
  simp [sameB, eqL_iff eqInit_iff, eqL_iff (eqL_iff eqIns_iff), eqL_iff (eqL_iff eqAtom_iff)]
set_option maxHeartbeats 2000000 in
theorem refSameCond_pure {kd kd' : Int} {rows rows' : List (List Atom)} {A A' : DV} (hA : IsSl2 Atom.cells rows A) (hA' : IsSl2 Atom.cells rows' A') :
    Pure Tryz.prog 48 [.agg [.d (.int .i64 kd), .d A], .agg [.d (.int .i64 kd'), .d A']] (.d (.bool (decide (kd = kd') && eqL (eqL eqAtom) rows rows'))) := by
  have hb := hA.big
  refine acalls_of Tryz.func48 ac48_ok Tryz.ntmps48 Tryz.results48 rfl ?_
  unfold ac48
  refine bwp_seq fun K hK => bwp_region rfl ?_
  simp only [go_sem, ↓reduceIte]
  refine hK _ ?_; clear hK
  refine bwp_seq fun K1 hK1 => ?_
  have no : ∀ S : St, (decide (kd = kd') && eqL (eqL eqAtom) rows rows') = false → decide (mbound [] ≤ S.n) = true → BWP Tryz.prog (mbound []) 68 ((ACode.region false [⟨some 4, .mv (.c (.d (.bool false))), none⟩] []).seq ACode.ret) S (Exit.thenA K1 (AEnd Tryz.prog #[.tmp 4] (mbound []) fun r m' => r = .d (.bool (decide (kd = kd') && eqL (eqL eqAtom) rows rows')) ∧ m' = [])) := by
    intro S h0 hn
    rw [h0]
    refine bwp_seq fun K hK => bwp_region hn ?_
    simp only [go_sem, ↓reduceIte]
    refine hK _ ?_; clear hK
    refine bwp_ret ?_
    simp only [go_sem]
    refine aend_ret _ rfl rfl ⟨?_, rfl⟩
    simp [fget]
  by_cases h1 : kd = kd'
  · by_cases hl : rows.length = rows'.length
    · have hl1 : ((rows.length : Int) = (rows'.length : Int)) := by omega
      refine bwp_seq fun K hK => bwp_region rfl ?_
      simp only [go_sem, ↓reduceIte, h1, hA.len, hA'.len, hl1]
      refine hK _ ?_; clear hK
      refine bwp_cond false (by simp [ev, fget, hl1]) (fun h => nomatch h) (fun _ => ?_)
      refine bwp_skip ?_
      refine hK1 _ ?_; clear hK1
      refine bwp_seq fun K2 hK2 => ?_
      refine bwp_seq fun K hK => bwp_region rfl ?_
      simp only [go_sem, ↓reduceIte]
      refine hK _ ?_; clear hK
      refine bwp_block ?_
      refine bwp_leads (S' := rsS [.int .i64 kd, A] [.int .i64 kd', A'] [(5, .d (.int .i64 (0 : Nat)))]) (Leads.ent [(0, 0), (1, 1)] ⟨by simp [entT, fget, AV.ren, renL, pget, rsS, h1], by simp [entM, pinv, mget, mset, renL, AV.ren, pget, renL_append, -List.map_map, rsS, h1], rfl, rfl⟩) ?_
      refine rs_outAtom hA hA' hl ?_ ?_
      · intro he S hS
        simp only [go_sem, ↓reduceIte]
        exact aend_ret (.d (.bool false)) (by simp [resA, resVs, resV, hS]) rfl ⟨by simp [he], rfl⟩
      · intro he
        simp only [go_sem, ↓reduceIte]
        refine hK2 _ ?_; clear hK2
        unfold rsS
        refine bwp_seq fun K hK => bwp_region rfl ?_
        simp only [go_sem, ↓reduceIte]
        refine hK _ ?_; clear hK
        refine bwp_ret ?_
        simp only [go_sem]
        refine aend_ret _ rfl rfl ⟨?_, rfl⟩
        simp [fget, he, h1]
    · have hl1 : ¬ ((rows.length : Int) = (rows'.length : Int)) := by omega
      refine bwp_seq fun K hK => bwp_region rfl ?_
      simp only [go_sem, ↓reduceIte, h1, hA.len, hA'.len, hl1]
      refine hK _ ?_; clear hK
      refine bwp_cond true (by simp [ev, fget, h1, hl1]) (fun _ => ?_) (fun h => nomatch h)
      exact no _ (by rw [eqL_len _ _ _ hl]; simp) rfl
  · refine bwp_seq fun K hK => bwp_region rfl ?_
    simp only [go_sem, ↓reduceIte, h1]
    refine hK _ ?_; clear hK
    refine bwp_cond true (by simp [ev, fget, h1]) (fun _ => ?_) (fun h => nomatch h)
    exact no _ (by simp [h1]) rfl
set_option maxHeartbeats 4000000 in
theorem rs_inits {nm nm' : List UInt8} {kd kd' : Int} {T T' A A' : DV} {l l' : List Init} {I I' : DV} (hI : IsSl Init.cells l I) (hI' : IsSl Init.cells l' I') (hln : l.length = l'.length) {Q : Exit → St → Prop}
    (hbad : eqL eqInit l l' = false → ∀ S, fget S.t 4 = .d (.bool false) → Q .ret S) (hgood : eqL eqInit l l' = true → Q (.exit 0) (rsS [.str nm, I, T, .int .i64 kd, A] [.str nm', I', T', .int .i64 kd', A'] [])) :
    BWP Tryz.prog (mbound []) 104 (.loop ac11L0) (rsS [.str nm, I, T, .int .i64 kd, A] [.str nm', I', T', .int .i64 kd', A'] [(5, .d (.int .i64 (0 : Nat)))]) Q := by
  have hb := hI.1
  refine bwp_countI (fun k => rsS [.str nm, I, T, .int .i64 kd, A] [.str nm', I', T', .int .i64 kd', A'] [(5, .d (.int .i64 (k : Nat)))]) (fun k => ∀ j (h : j < l.length) (h' : j < l'.length), j < k → eqInit l[j] l'[j] = true) l.length (fun j _ _ h => absurd h (Nat.not_lt_zero _)) ?_
  intro k hk hp
  unfold ac11L0 rsS
  simp only [List.cons_append, List.nil_append, List.map_cons, List.map_nil]
  refine bwp_seq fun K1 hK1 => ?_
  by_cases hlt : k < l.length
  · have hlt' : (k : Int) < l.length := by omega
    have hlt2 : (k : Int) < l'.length := by omega
    obtain ⟨cs, rest, hDe, hdrop, hcs⟩ := hI.at init_len (by omega) k hlt
    obtain ⟨cs', rest', hDe', hdrop', hcs'⟩ := hI'.at init_len (by omega) k (by omega)
    have hw : IntKind.i64.wrap ((k : Int) + 1) = ((k + 1 : Nat) : Int) := by rw [wrap_i64 (by omega) (by omega)]; rfl
    have hno := eqL_at eqInit l l' k hlt (by omega)
    have hnext : eqInit l[k] (l'[k]'(by omega)) = true → ∀ j (h : j < l.length) (h' : j < l'.length), j < k + 1 → eqInit l[j] l'[j] = true := fun he j h h' hj => by
      rcases Nat.lt_succ_iff_lt_or_eq.1 hj with h1 | h1
      · exact hp j h h' h1
      · subst h1; exact he
    generalize l[k] = x at hdrop hno hnext
    generalize l'[k]'(by omega) = y at hdrop' hno hnext
    refine bwp_seq fun K hK => bwp_region rfl ?_
    simp only [go_sem, ↓reduceIte, hI.len, hlt']
    refine hK _ ?_; clear hK
    refine bwp_cond true (by simp [ev, fget, hlt']) (fun _ => ?_) (fun h => nomatch h)
    refine bwp_skip ?_
    refine hK1 _ ?_; clear hK1
    refine bwp_seq fun K1 hK1 => ?_
    refine bwp_block ?_
    refine bwp_seq fun K hK => bwp_region_draw rfl rfl ?_
    simp only [go_sem, ↓reduceIte, hDe, hDe', hlt', hlt2, Int.natCast_nonneg, Int.toNat_natCast, hcs, hcs', hdrop, hdrop', Init.cells]
    refine ⟨rfl, hK _ ?_⟩; clear hK
    cases he : eqInit x y with
    | false =>
      have he' : ¬ (x.loc = y.loc ∧ x.value = y.value) := fun h => by
        have : eqInit x y = true := by simp [eqInit, h]
        rw [this] at he
        cases he
      refine bwp_cond true (by simp [ev, fget]; omega) (fun _ => ?_) (fun h => nomatch h)
      refine bwp_seq fun K hK => bwp_region rfl ?_
      simp only [go_sem, ↓reduceIte]
      refine hK _ ?_; clear hK
      refine bwp_ret ?_
      simp only [go_sem, ↓reduceIte]
      exact hbad (hno he) _ rfl
    | true =>
      have he' : x.loc = y.loc ∧ x.value = y.value := by simpa [eqInit, and_assoc] using he
      refine bwp_cond false (by simp [ev, fget]; omega) (fun h => nomatch h) (fun _ => ?_)
      refine bwp_skip ?_
      simp only [go_sem, ↓reduceIte]
      refine hK1 _ ?_; clear hK1
      refine bwp_region rfl ?_
      simp only [go_sem, ↓reduceIte, hw]
      refine ⟨hlt, hnext he, Leads.ent [(0, 0), (1, 1)] ⟨by simp [entT, fget, AV.ren, renL, pget], by simp [entM, pinv, mget, renL, AV.ren, hDe, hDe', pget], rfl, rfl⟩⟩
  · have hlt' : ¬ (k : Int) < l.length := by omega
    have hin : k = l.length := by omega
    refine bwp_seq fun K hK => bwp_region rfl ?_
    simp only [go_sem, ↓reduceIte, hI.len, hlt']
    refine hK _ ?_; clear hK
    refine bwp_cond false (by simp [ev, fget, hlt']) (fun h => nomatch h) (fun _ => ?_)
    refine bwp_leads (S' := rsS [.str nm, I, T, .int .i64 kd, A] [.str nm', I', T', .int .i64 kd', A'] []) (Leads.ent [(0, 0), (1, 1)] ⟨by simp [entT, fget, AV.ren, renL, pget, rsS], by simp [entM, pinv, mget, mset, renL, AV.ren, pget, renL_append, -List.map_map, rsS], rfl, rfl⟩) ?_
    exact bwp_exit (hgood (eqL_all eqInit l l' hln fun j h h' => hp j h h' (by omega)))
set_option maxHeartbeats 4000000 in
theorem refSame_pure {t u : Test} {cs cu : List DV} (hT : IsTest t cs) (hU : IsTest u cu) : Pure Tryz.prog 11 [.agg (cs.map .d), .agg (cu.map .d)] (.d (.bool (sameB t u))) := by
  obtain ⟨I, T, A, rfl, hI, hTh, hA⟩ := hT
  obtain ⟨I', T', A', rfl, hI', hTh', hA'⟩ := hU
  have kc := refSameCond_pure (kd := t.kind) (kd' := u.kind) hA hA'
  have hs : sameB t u = (decide (t.name = u.name) && (eqL eqInit t.inits u.inits && (eqL (eqL eqIns) t.threads u.threads && (decide (t.kind = u.kind) && eqL (eqL eqAtom) t.rows u.rows)))) := rfl
  generalize (decide (t.kind = u.kind) && eqL (eqL eqAtom) t.rows u.rows) = e3 at *
  simp only [List.map_cons, List.map_nil]
  refine acalls_of Tryz.func11 ac11_ok Tryz.ntmps11 Tryz.results11 rfl ?_
  unfold ac11
  refine bwp_seq fun K hK => bwp_region rfl ?_
  simp only [go_sem, ↓reduceIte]
  refine hK _ ?_; clear hK
  refine bwp_seq fun K1 hK1 => ?_
  have no : ∀ S : St, sameB t u = false → decide (mbound [] ≤ S.n) = true → BWP Tryz.prog (mbound []) 104 ((ACode.region false [⟨some 4, .mv (.c (.d (.bool false))), none⟩] []).seq ACode.ret) S (Exit.thenA K1 (AEnd Tryz.prog #[.tmp 4] (mbound []) fun r m' => r = .d (.bool (sameB t u)) ∧ m' = [])) := by
    intro S h0 hn
    rw [h0]
    refine bwp_seq fun K hK => bwp_region hn ?_
    simp only [go_sem, ↓reduceIte]
    refine hK _ ?_; clear hK
    refine bwp_ret ?_
    simp only [go_sem]
    refine aend_ret _ rfl rfl ⟨?_, rfl⟩
    simp [fget]
  by_cases h1 : t.name = u.name
  · by_cases h2 : t.inits.length = u.inits.length
    · have h2' : (t.inits.length : Int) = u.inits.length := by omega
      by_cases h3 : t.threads.length = u.threads.length
      · have h3' : (t.threads.length : Int) = u.threads.length := by omega
        refine bwp_seq fun K hK => bwp_region rfl ?_
        simp only [go_sem, ↓reduceIte, h1, hI.len, hI'.len, h2', hTh.len, hTh'.len, h3']
        refine callK_pure kc rfl rfl ?_
        cases e3 with
        | false =>
          simp only [go_sem, ↓reduceIte]
          refine hK _ ?_; clear hK
          refine bwp_cond true (by simp [ev, fget]) (fun _ => ?_) (fun h => nomatch h)
          exact no _ (by simp [hs]) rfl
        | true =>
          simp only [go_sem, ↓reduceIte]
          refine hK _ ?_; clear hK
          refine bwp_cond false (by simp [ev, fget]) (fun h => nomatch h) (fun _ => ?_)
          refine bwp_skip ?_
          refine hK1 _ ?_; clear hK1
          refine bwp_seq fun K2 hK2 => ?_
          refine bwp_seq fun K hK => bwp_region rfl ?_
          simp only [go_sem, ↓reduceIte]
          refine hK _ ?_; clear hK
          refine bwp_block ?_
          refine bwp_leads (S' := rsS [.str t.name, I, T, .int .i64 t.kind, A] [.str u.name, I', T', .int .i64 u.kind, A'] [(5, .d (.int .i64 (0 : Nat)))]) (Leads.ent [(0, 0), (1, 1)] ⟨by simp [entT, fget, AV.ren, renL, pget, rsS, h1], by simp [entM, pinv, mget, mset, renL, AV.ren, pget, renL_append, -List.map_map, rsS, h1], rfl, rfl⟩) ?_
          refine rs_inits hI hI' h2 ?_ ?_
          · intro he S hS
            simp only [go_sem, ↓reduceIte]
            exact aend_ret (.d (.bool false)) (by simp [resA, resVs, resV, hS]) rfl ⟨by simp [hs, he], rfl⟩
          · intro he1
            simp only [go_sem, ↓reduceIte]
            refine hK2 _ ?_; clear hK2
            unfold rsS
            simp only [List.nil_append, List.map_cons, List.map_nil]
            refine bwp_seq fun K2 hK2 => ?_
            refine bwp_seq fun K hK => bwp_region rfl ?_
            simp only [go_sem, ↓reduceIte]
            refine hK _ ?_; clear hK
            refine bwp_block ?_
            refine bwp_leads (S' := rsS [.str t.name, I, T, .int .i64 t.kind, A] [.str u.name, I', T', .int .i64 u.kind, A'] [(6, .d (.int .i64 (0 : Nat)))]) (Leads.ent [(0, 0), (1, 1)] ⟨by simp [entT, fget, AV.ren, renL, pget, rsS], by simp [entM, pinv, mget, mset, renL, AV.ren, pget, renL_append, -List.map_map, rsS], rfl, rfl⟩) ?_
            refine rs_outIns hTh hTh' h3 ?_ ?_
            · intro he S hS
              simp only [go_sem, ↓reduceIte]
              exact aend_ret (.d (.bool false)) (by simp [resA, resVs, resV, hS]) rfl ⟨by simp [hs, he], rfl⟩
            · intro he2
              simp only [go_sem, ↓reduceIte]
              refine hK2 _ ?_; clear hK2
              unfold rsS
              refine bwp_seq fun K hK => bwp_region rfl ?_
              simp only [go_sem, ↓reduceIte]
              refine hK _ ?_; clear hK
              refine bwp_ret ?_
              simp only [go_sem]
              refine aend_ret _ rfl rfl ⟨?_, rfl⟩
              simp [fget, hs, he1, he2, h1]
      · have h3' : ¬ (t.threads.length : Int) = u.threads.length := by omega
        refine bwp_seq fun K hK => bwp_region rfl ?_
        simp only [go_sem, ↓reduceIte, h1, hI.len, hI'.len, h2', hTh.len, hTh'.len, h3']
        refine hK _ ?_; clear hK
        refine bwp_cond true (by simp [ev, fget, h3', h1, h2']) (fun _ => ?_) (fun h => nomatch h)
        exact no _ (by simp [hs, eqL_len (eqL eqIns) _ _ h3]) rfl
    · have h2' : ¬ (t.inits.length : Int) = u.inits.length := by omega
      refine bwp_seq fun K hK => bwp_region rfl ?_
      simp only [go_sem, ↓reduceIte, h1, hI.len, hI'.len, h2']
      refine hK _ ?_; clear hK
      refine bwp_cond true (by simp [ev, fget, h2', h1]) (fun _ => ?_) (fun h => nomatch h)
      exact no _ (by simp [hs, eqL_len eqInit _ _ h2]) rfl
  · refine bwp_seq fun K hK => bwp_region rfl ?_
    simp only [go_sem, ↓reduceIte, h1]
    refine hK _ ?_; clear hK
    refine bwp_cond true (by simp [ev, fget, h1]) (fun _ => ?_) (fun h => nomatch h)
    exact no _ (by simp [hs, h1]) rfl
end Go.Proofs.YtpfbljkfbjjlkaaGreatDoor

/- What Parse and Tree come to, as tests; Same of them; what the document fixes. -/
namespace Go.Proofs.YtpfbljkfbjjlkaaGreatDoor
open Go Go.Jq
set_option maxRecDepth 100000
set_option linter.unusedSimpArgs false
def PT.Post {α : Type} (t : PT α) (P : α → Prop) : Prop := ∀ (s : List UInt8) (a : Nat) (x : α) (b : Nat), t.run s a = .ok (x, b) → P x
theorem post_bind {α β : Type} {t : PT α} {f : α → PT β} {P : α → Prop} {Q : β → Prop} (h : t.Post P) (h' : ∀ x, P x → (f x).Post Q) : (t.bind f).Post Q := by
  intro s a y b hr
  rw [PT.run_bind] at hr
  cases ht : t.run s a with
  | error e => rw [ht] at hr; cases hr
  | ok p =>
    obtain ⟨x, c⟩ := p
    rw [ht] at hr
    exact h' x (h s a x c ht) s c y b hr
theorem post_true {α : Type} (t : PT α) : t.Post fun _ => True := fun _ _ _ _ _ => trivial
theorem post_ret {α : Type} {x : α} {P : α → Prop} (h : P x) : (PT.ret x).Post P := by
  intro s a y b hr
  simp only [PT.run, Except.ok.injEq, Prod.mk.injEq] at hr
  rw [← hr.1]; exact h
theorem post_bad {α : Type} {c : Int} {P : α → Prop} : (PT.bad c : PT α).Post P := by
  intro s a y b hr
  cases hr
theorem post_eat {α : Type} {k : PT α} {P : α → Prop} (h : k.Post P) : (PT.eat k).Post P := by
  intro s a y b hr
  simp only [PT.run] at hr
  split at hr
  · exact h _ _ _ _ hr
  · cases hr
theorem post_cur {α : Type} {k : Int → List UInt8 → PT α} {P : α → Prop} (h : ∀ d x, (k d x).Post P) : (PT.cur k).Post P := fun s a y b hr => h _ _ s a y b hr
theorem post_take {α : Type} {x : List UInt8} {yes no : PT α} {P : α → Prop} (h : yes.Post P) (h' : no.Post P) : (tTake x yes no).Post P := by
  refine post_cur fun d y => ?_
  split
  · exact post_eat h
  · exact h'
theorem post_many {α : Type} {one : PT α} {P : α → Prop} (h : one.Post P) : ∀ f, (tMany one f).Post fun l => l.length < f ∧ ∀ x ∈ l, P x
  | 0 => post_bad
  | f + 1 => post_take (post_ret ⟨by simp, by simp⟩) (post_bind h fun x hx => post_bind (post_many h f) fun l hl => post_ret ⟨by simp; exact hl.1, fun y hy => by
      rcases List.mem_cons.1 hy with rfl | hy
      · exact hx
      · exact hl.2 y hy⟩)
theorem post_threads {P : Ins → Prop} (h : tInsE.Post P) : ∀ f, (tThreads f).Post fun l => l.length < f ∧ ∀ t ∈ l, t.length < fuelP ∧ ∀ x ∈ t, P x
  | 0 => post_bad
  | f + 1 => post_take (post_bind (post_bind (post_true _) fun _ _ => post_many h fuelP) fun x hx => post_bind (post_threads h f) fun l hl => post_ret ⟨by simp; exact hl.1, fun y hy => by
      rcases List.mem_cons.1 hy with rfl | hy
      · exact hx
      · exact hl.2 y hy⟩) (post_ret ⟨by simp, by simp⟩)
theorem post_row {P : Atom → Prop} (h : tAtom.Post P) : ∀ f, (tRow f).Post fun l => l.length < f ∧ ∀ x ∈ l, P x
  | 0 => post_bad
  | f + 1 => post_take (post_bind h fun x hx => post_bind (post_row h f) fun l hl => post_ret ⟨by simp; exact hl.1, fun y hy => by
      rcases List.mem_cons.1 hy with rfl | hy
      · exact hx
      · exact hl.2 y hy⟩) (post_ret ⟨by simp, by simp⟩)
theorem post_rows {P : Atom → Prop} (h : tAtom.Post P) : ∀ f, (tRows f).Post fun l => (l.length ≤ f ∧ l ≠ []) ∧ ∀ t ∈ l, (t.length ≤ fuelP ∧ t ≠ []) ∧ ∀ x ∈ t, P x
  | 0 => post_bad
  | f + 1 => post_bind h fun x hx => post_bind (post_row h fuelP) fun l hl => by
      have hxl : ((x :: l).length ≤ fuelP ∧ (x :: l) ≠ []) ∧ ∀ y ∈ x :: l, P y := ⟨⟨by simp only [List.length_cons]; omega, by simp⟩, fun y hy => by
        rcases List.mem_cons.1 hy with rfl | hy
        · exact hx
        · exact hl.2 y hy⟩
      exact post_take (post_bind (post_rows h f) fun r hr => post_ret ⟨⟨by simp only [List.length_cons]; omega, by simp⟩, fun y hy => by
        rcases List.mem_cons.1 hy with rfl | hy
        · exact hxl
        · exact hr.2 y hy⟩) (post_ret ⟨⟨by simp, by simp⟩, fun y hy => by
          simp only [List.mem_cons, List.not_mem_nil, or_false] at hy
          subst hy
          exact hxl⟩)
structure Lens (t : Test) : Prop where
  inits : t.inits.length < fuelP
  threads : t.threads.length < fuelP
  ins : ∀ l ∈ t.threads, l.length < fuelP
  rows : t.rows.length ≤ fuelP
  atoms : ∀ l ∈ t.rows, l.length ≤ fuelP
theorem lens_run : tTest.Post Lens := by
  refine post_bind (post_true _) fun _ _ => post_bind (post_true _) fun n _ => post_bind (post_true _) fun _ _ => ?_
  refine post_bind (P := fun l => l.length < fuelP) (post_take (post_bind (post_true _) fun _ _ => fun s a x b h => (post_many (post_true tInit) fuelP s a x b h).1) (post_ret (by decide))) fun i hi => ?_
  refine post_bind (post_threads (post_true _) fuelP) fun th hth => ?_
  refine post_bind (P := fun c => c.2.length ≤ fuelP ∧ ∀ l ∈ c.2, l.length ≤ fuelP) ?_ fun c hc => post_bind (post_true _) fun _ _ => post_cur fun d y => ?_
  · have ask : ∀ k, (tAsk k).Post fun c => c.2.length ≤ fuelP ∧ ∀ l ∈ c.2, l.length ≤ fuelP := fun k => post_bind (post_rows (post_true _) fuelP) fun r hr => post_bind (post_true _) fun _ _ => post_ret ⟨hr.1.1, fun l hl => (hr.2 l hl).1.1⟩
    exact post_take (ask 1) (post_take (ask 2) (post_ret ⟨by simp, by simp⟩))
  · split
    · exact post_ret ⟨hi, hth.1, fun l hl => (hth.2 l hl).1, hc.1, hc.2⟩
    · exact post_bad
theorem pTest_post {P : Test → Prop} (h : tTest.Post P) {s : List UInt8} {t : Test} (ht : pTest s = .ok t) : P t := by
  unfold pTest at ht
  split at ht
  · cases ht
  · split at ht
    · rename_i a _
      split at ht
      · rename_i t' b hb
        cases ht
        exact h s a t b hb
      · cases ht
    · cases ht
def pT (r : PR Test) : Test := match r with
  | .ok t => t
  | .error _ => ⟨[], [], [], 0, []⟩
def pCells (r : PR Test) : List DV := match r with
  | .ok t => testD t
  | .error _ => testD0
def pCode (r : PR Test) : Int := match r with
  | .ok _ => 0
  | .error e => e.1
def pAt (r : PR Test) : Nat := match r with
  | .ok _ => 0
  | .error e => e.2
theorem parseV_eq (r : PR Test) : parseV r = .tup [.agg ((pCells r).map .d), .agg [.d (.int .i64 (pCode r)), .d (.int .i64 (pAt r))]] := by
  cases r <;> rfl
theorem isSl_d {α : Type} (enc : α → List DV) {l : List α} (h : l.length ≤ fuelP) : IsSl enc l (slD enc l) := ⟨by unfold fuelP at h; omega, .inr rfl⟩
theorem isSls_d {α : Type} (enc : α → List DV) : ∀ {ls : List (List α)}, (∀ l ∈ ls, l.length ≤ fuelP) → IsSls enc ls (ls.map (slD enc))
  | [], _ => trivial
  | l :: ls, h => ⟨isSl_d enc (h l List.mem_cons_self), isSls_d enc fun l' h' => h l' (List.mem_cons_of_mem _ h')⟩
theorem isSl2_d {α : Type} (enc : α → List DV) {ls : List (List α)} (h : ls.length ≤ fuelP) (h' : ∀ l ∈ ls, l.length ≤ fuelP) : IsSl2 enc ls (.sl ls.length (ls.map (slD enc))) := by
  refine ⟨ls.map (slD enc), ⟨by simp; unfold fuelP at h; omega, .inr ?_⟩, isSls_d enc h'⟩
  have e : ∀ l : List DV, l.flatMap (fun d => [d]) = l := by
    intro l
    induction l with
    | nil => rfl
    | cons x l ih => simp [ih]
  rw [e, List.length_map]
theorem Lens.isTest {t : Test} (h : Lens t) : IsTest t (testD t) :=
  ⟨_, _, _, rfl, isSl_d _ (Nat.le_of_lt h.inits), isSl2_d _ (Nat.le_of_lt h.threads) fun l hl => Nat.le_of_lt (h.ins l hl), isSl2_d _ h.rows h.atoms⟩
theorem isTest_p (s : List UInt8) : IsTest (pT (pTest s)) (pCells (pTest s)) := by
  cases h : pTest s with
  | ok t => exact (pTest_post lens_run h).isTest
  | error e =>
    have hN : ∀ {α : Type} (f : α → List DV), IsSl f [] .nsl := fun f => ⟨by simp, .inl ⟨rfl, rfl⟩⟩
    exact ⟨.nsl, .nsl, .nsl, rfl, hN _, ⟨[], hN _, trivial⟩, ⟨[], hN _, trivial⟩⟩
theorem parse2_pure {s : List UInt8} (hs : s.length ≤ maxLen) : Pure Tryz.prog 9 [.d (.str s)] (.tup [.agg ((pCells (pTest s)).map .d), .agg [.d (.int .i64 (pCode (pTest s))), .d (.int .i64 (pAt (pTest s)))]]) := by
  rw [← parseV_eq]; exact parse1_pure hs
theorem tree2_pure {s : List UInt8} (hs : s.length ≤ maxLen) : Pure Tryz.prog 10 [.d (.str s)] (.tup [.agg ((pCells (pTest s)).map .d), .agg [.d (.int .i64 (pCode (pTest s))), .d (.int .i64 (pAt (pTest s)))]]) := by
  rw [← parseV_eq]; exact tree_pure hs
theorem pCells_split (r : PR Test) : ∃ I T A, pCells r = [.str (pT r).name, I, T, .int .i64 (pT r).kind, A] := by
  cases r with
  | ok t => exact ⟨_, _, _, rfl⟩
  | error e => exact ⟨_, _, _, rfl⟩
def awT : List UInt8 := [116, 101, 115, 116, 32, 97, 32, 123, 32, 116, 104, 114, 101, 97, 100, 32, 123, 32, 102, 101, 110, 99, 101, 32, 59, 32, 125, 32, 125]
theorem awake_test : pTest awT = .ok ⟨[97], [], [[⟨3, 0, 0, ⟨0, 0⟩, 0, ⟨0, 0⟩, 0⟩]], 0, []⟩ := by kernel_rfl
set_option maxHeartbeats 4000000 in
theorem awake3_pure : Pure Tryz.prog 12 [] (.d (.bool true)) := by
  have k := parse1_pure (s := awT) (by decide)
  rw [awake_test] at k
  simp only [parseV, testD, slD, thrD, thrC, rowsD, rowsC, awT, Ins.cells, List.length_cons, List.length_nil, List.flatMap_cons, List.flatMap_nil, List.map_cons, List.map_nil, List.cons_append, List.nil_append, List.append_nil, Nat.zero_add, Nat.reduceAdd] at k
  refine acalls_of Tryz.func12 ac12_ok Tryz.ntmps12 Tryz.results12 rfl ?_
  unfold ac12
  refine bwp_seq fun K hK => bwp_region rfl ?_
  simp -implicitDefEqProofs only [go_sem, ↓reduceIte]
  refine hK _ ?_; clear hK
  refine bwp_seq fun K hK => bwp_region rfl ?_
  simp -implicitDefEqProofs only [go_sem, ↓reduceIte]
  repeat' (first
    | (refine gateK_split (fun hb => ?_) (fun hb => ?_) <;> simp -implicitDefEqProofs only [go_sem, ↓reduceIte, hb])
    | (refine dGateK_split (fun hb => ?_) (fun hb => ?_) <;> simp -implicitDefEqProofs only [go_sem, ↓reduceIte, hb])
    | (refine callK_pure (k) rfl rfl ?_; simp -implicitDefEqProofs only [go_sem, ↓reduceIte])
    | (refine dCallK_pure (k) rfl rfl ?_; simp -implicitDefEqProofs only [go_sem, ↓reduceIte])
    | (rw [if_pos (by (try simp only [List.length_append, List.length_cons, List.length_nil, List.length_map]); omega)]; simp -implicitDefEqProofs only [go_sem, ↓reduceIte]))
  refine hK _ ?_; clear hK
  refine bwp_seq fun K hK => bwp_region rfl ?_
  simp -implicitDefEqProofs only [go_sem, ↓reduceIte]
  refine hK _ ?_; clear hK
  refine bwp_ret ?_
  simp only [go_sem]
  refine aend_ret _ rfl rfl ⟨?_, rfl⟩
  simp [fget]
end Go.Proofs.YtpfbljkfbjjlkaaGreatDoor

/- What stands behind an error's token says nothing. -/
namespace Go.Proofs.YtpfbljkfbjjlkaaGreatDoor
open Go Go.Jq
set_option maxRecDepth 100000
set_option linter.unusedSimpArgs false
theorem pTest_place {s : List UInt8} {c : Int} {p : Nat} (h : pTest s = .error (c, p)) : p ≤ s.length := by
  unfold pTest at h
  split at h
  · cases h; omega
  · cases hg : goW s 0 with
    | error e =>
      rw [hg] at h
      simp only [Except.error.injEq] at h
      subst h
      rw [(goW_err hg).2.2]
      exact skipA_le (Nat.zero_le _)
    | ok a =>
      rw [hg] at h
      obtain ⟨rfl, h0⟩ := goW_ok hg
      simp only at h
      cases hr : tTest.run s 0 with
      | ok r => rw [hr] at h; cases h
      | error e =>
        rw [hr] at h
        simp only [Except.error.injEq] at h
        subst h
        exact tTest.run_err (Nat.zero_le _) h0 hr
end Go.Proofs.YtpfbljkfbjjlkaaGreatDoor

/- A test's text as rows of words. -/
namespace Go.Proofs.YtpfbljkfbjjlkaaGreatDoor
open Go Go.Jq
theorem locT_ok {n : Int} (h : isLocB n = true) : locT n = [UInt8.ofNat n.toNat] := by
  simp only [isLocB, Bool.and_eq_true, decide_eq_true_eq] at h
  unfold locT
  have hw : IntKind.i32.wrap n = n := by
    unfold IntKind.wrap
    have hm : n % 2 ^ 32 = n := by omega
    simp only [IntKind.signed, IntKind.bits, Bool.true_and, hm]
    split
    · rename_i hc
      have := of_decide_eq_true hc
      omega
    · rfl
  rw [hw]
  unfold Utf8.encode
  have hv : Utf8.valid n = true := by
    unfold Utf8.valid
    simp only [Bool.and_eq_true, Bool.or_eq_true, decide_eq_true_eq]
    omega
  simp only [hv, if_true]
  rw [if_pos (by omega)]
def askW (kind : Int) : List UInt8 := if kind = 2 then [102, 111, 114, 97, 108, 108] else [101, 120, 105, 115, 116, 115]
theorem join_two (x y : List UInt8) (r : List (List UInt8)) (s : List UInt8) : Lib.join (x :: y :: r) s = x ++ s ++ Lib.join (y :: r) s := by
  simp [Lib.join, List.intercalate]
theorem join_app (s : List UInt8) : ∀ (a b : List (List UInt8)), a ≠ [] → b ≠ [] → Lib.join (a ++ b) s = Lib.join a s ++ s ++ Lib.join b s
  | [], _, h, _ => absurd rfl h
  | [x], b, _, hb => by
    obtain ⟨y, r, rfl⟩ := List.exists_cons_of_ne_nil hb
    rw [List.singleton_append, join_two, Lib.join_one]
  | x :: y :: r, b, _, hb => by
    have ih := join_app s (y :: r) b (by simp) hb
    rw [List.cons_append, List.cons_append, join_two, join_two, ← List.cons_append, ih]
    simp
theorem wordT_eq (kind : Int) : wordT kind = askW kind ++ [32] := by unfold wordT askW; split <;> rfl
theorem rows_ok {kind : Int} {rows : List (List Atom)} (hk : kind ≠ 0) (h : okCondB kind rows = true) : (kind = 1 ∨ kind = 2) ∧ rows ≠ [] ∧ ∀ l ∈ rows, l ≠ [] ∧ ∀ a ∈ l, okAtomB a = true := by
  unfold okCondB at h
  rw [if_neg hk] at h
  simp only [Bool.and_eq_true, Bool.or_eq_true, decide_eq_true_eq, Bool.not_eq_true', List.any_eq_false] at h
  refine ⟨h.1.1, fun e => by rw [e] at h; simp at h, fun l hl => ?_⟩
  have := h.2 l hl
  simp only [badRowB, Bool.or_eq_true, decide_eq_true_eq, List.any_eq_true, Bool.not_eq_true', not_or, not_exists, not_and, Bool.not_eq_false] at this
  exact ⟨fun e => this.1 (by rw [e]; rfl), this.2⟩
theorem condT_ne {kind : Int} {rows : List (List Atom)} (hk : kind ≠ 0) (h : okCondB kind rows = true) : condT kind rows ≠ [] := by
  unfold condT
  rw [if_neg (by simp [hk, h])]
  simp
end Go.Proofs.YtpfbljkfbjjlkaaGreatDoor

/- A tree over a row of tokens; what a printed test's tokens come to. -/
namespace Go.Proofs.YtpfbljkfbjjlkaaGreatDoor
open Go Go.Jq
set_option maxRecDepth 100000
set_option linter.unusedSimpArgs false
abbrev KT := Int × List UInt8
namespace PT
variable {α β : Type}
def runK : PT α → List KT → Option (α × List KT)
  | .ret x, l => some (x, l)
  | .bad _, _ => none
  | .cur k, l => match l with
    | [] => none
    | d :: r => (k d.1 d.2).runK (d :: r)
  | .eat k, l => match l with
    | _ :: u :: r => k.runK (u :: r)
    | _ => none
end PT
theorem take_no {α : Type} {w : List UInt8} (yes no : PT α) (u : KT) (r : List KT) (h : u.2 ≠ w) : (tTake w yes no).runK (u :: r) = no.runK (u :: r) := by
  simp [tTake, PT.runK, isK, h]
end Go.Proofs.YtpfbljkfbjjlkaaGreatDoor

/- What the test made of numbers comes to (its reader of numbers), told without a heap. -/
namespace Go.Proofs.YtpfbljkfbjjlkaaGreatDoor
open Go Go.Jq
set_option maxRecDepth 100000
set_option linter.unusedSimpArgs false
def nx (ls : List Int) (a : Nat) : Int := match ls[a]? with
  | some n => bits .and .i64 n 65535
  | none => 0
theorem nx_le (ls : List Int) (a : Nat) : ∃ q : Nat, q ≤ 65535 ∧ nx ls a = (q : Int) := by
  unfold nx
  cases ls[a]? with
  | none => exact ⟨0, by omega, rfl⟩
  | some n => exact bits_and_le n 65535 (by omega)
theorem smNext_calls {ls : List Int} {X : DV} (hX : IsInts ls X) (a : Nat) (ha : a < 9223372036854775807) :
    ACalls Tryz.prog 26 [.ptr 0 0, .dptr [X]] [(0, [.d (.int .i64 a)])] fun r m' => r = .d (.int .i64 (nx ls a)) ∧ m' = [(0, [.d (.int .i64 (a + 1 : Nat))])] := by
  have hsl := hX.sl
  have hbig := hsl.big
  have hw : IntKind.i64.wrap ((a : Int) + 1) = ((a + 1 : Nat) : Int) := by rw [wrap_i64 (by omega) (by omega)]; rfl
  have hw' : IntKind.i64.wrap (((a + 1 : Nat) : Int) - 1) = (a : Int) := by rw [wrap_i64 (by omega) (by omega)]; omega
  refine acalls_of Tryz.func26 ac26_ok Tryz.ntmps26 Tryz.results26 rfl ?_
  unfold ac26
  refine bwp_seq fun K hK => bwp_region rfl ?_
  simp -implicitDefEqProofs only [go_sem, ↓reduceIte]
  refine hK _ ?_; clear hK
  refine bwp_seq fun K hK => bwp_region rfl ?_
  simp -implicitDefEqProofs only [go_sem, ↓reduceIte, hw]
  refine hK _ ?_; clear hK
  refine bwp_seq fun K1 hK1 => ?_
  refine bwp_seq fun K hK => bwp_region rfl ?_
  simp -implicitDefEqProofs only [go_sem, ↓reduceIte, hsl.len]
  refine hK _ ?_; clear hK
  by_cases hlt : a < ls.length
  · have h1 : ¬ (ls.length : Int) < ((a + 1 : Nat) : Int) := by omega
    obtain ⟨cs, hXe, hcs, hld⟩ := hsl.get a hlt
    have hel : (ls.map (DV.int .i64))[a]? = some (.int .i64 ls[a]) := by simp [hlt]
    simp only [eltD, hel, Nat.mul_one] at hld hcs
    have h2 : (a : Int) < ls.length := by omega
    refine bwp_cond false (by simp [ev, fget]; omega) (fun h => nomatch h) (fun _ => ?_)
    refine bwp_skip ?_
    refine hK1 _ ?_; clear hK1
    refine bwp_seq fun K hK => bwp_region rfl ?_
    simp -implicitDefEqProofs only [go_sem, ↓reduceIte, hw', hXe, h2, Int.toNat_natCast, Int.natCast_nonneg, hcs, hld]
    refine hK _ ?_; clear hK
    refine bwp_ret ?_
    simp only [go_sem]
    refine aend_mem (.d (.int .i64 (nx ls a))) [(0, 0)] [(0, [.d (.int .i64 (a + 1 : Nat))])] ?_ rfl rfl ?_ ⟨rfl, rfl⟩
    · simp [resA, resVs, resV, fget, nx, hlt]
    · simp [entM, pinv, mget, renL, AV.ren]
  · have h1 : (ls.length : Int) < ((a + 1 : Nat) : Int) := by omega
    have h2 : ls[a]? = none := List.getElem?_eq_none (by omega)
    refine bwp_cond true (by simp [ev, fget]; omega) (fun _ => ?_) (fun h => nomatch h)
    refine bwp_seq fun K hK => bwp_region rfl ?_
    simp -implicitDefEqProofs only [go_sem, ↓reduceIte]
    refine hK _ ?_; clear hK
    refine bwp_ret ?_
    simp only [go_sem]
    refine aend_mem (.d (.int .i64 (nx ls a))) [(0, 0)] [(0, [.d (.int .i64 (a + 1 : Nat))])] ?_ rfl rfl ?_ ⟨rfl, rfl⟩
    · simp [resA, resVs, resV, fget, nx, h2]
    · simp [entM, pinv, mget, renL, AV.ren]
def nxN (ls : List Int) (a : Nat) : Nat := (nx ls a).toNat
theorem nx_nxN (ls : List Int) (a : Nat) : nx ls a = (nxN ls a : Int) := by
  obtain ⟨q, _, h⟩ := nx_le ls a
  simp [nxN, h]
theorem nxN_le (ls : List Int) (a : Nat) : nxN ls a ≤ 65535 := by
  obtain ⟨q, hq, h⟩ := nx_le ls a
  simp [nxN, h, hq]
theorem smNext_callK {ls : List Int} {X : DV} (hX : IsInts ls X) {a : Nat} (ha : a < 9223372036854775807) {j : Nat} {dst : Option Nat} {r : List AOper} {K : St → Prop} {t : Fr} {m : Mem} {n : Nat} (hm : mget m j = some [.d (.int .i64 a)])
    (hk : runOps Tryz.prog r ⟨putF t dst (.d (.int .i64 (nxN ls a))), mset m j [.d (.int .i64 (a + 1 : Nat))], n + 1⟩ K) : callK Tryz.prog 26 [.ptr j 0, .dptr [X]] dst r K t m n := by
  refine callK_gen [(0, j)] [.ptr 0 0, .dptr [X]] [(0, [.d (.int .i64 a)])] (nb := j + 1) (smNext_calls hX a ha) (by simp [okRen]) (by simp [renL, AV.ren, pget]) (by simp [inL, inB, pget]) ⟨by simp [pget, hm, renL, AV.ren, inL, inB], trivial⟩ (by simp [mget]) ?_
  rintro r0 m' ⟨rfl, rfl⟩
  rw [nx_nxN]
  have e : callMem [(0, j)] [(0, [AV.d (.int .i64 a)])] [(0, [AV.d (.int .i64 (a + 1 : Nat))])] n m = mset m j [.d (.int .i64 (a + 1 : Nat))] := by
    simp [callMem, updNew, updOld, mget, renL, AV.ren]
  rw [e]
  exact hk
theorem smNext_dCallK {ls : List Int} {X : DV} (hX : IsInts ls X) {a : Nat} (ha : a < 9223372036854775807) {j : Nat} {dst : Option Nat} {r : List AOper} {acc : List Foot} {ms : List Nat} {K : St → Prop} {t : Fr} {m : Mem} {n : Nat} (hm : mget m j = some [.d (.int .i64 a)])
    (hk : runDA Tryz.prog r (⟨[j, n], [j]⟩ :: acc) ms ⟨putF t dst (.d (.int .i64 (nxN ls a))), mset m j [.d (.int .i64 (a + 1 : Nat))], n + 1⟩ K) : dCallK Tryz.prog 26 [.ptr j 0, .dptr [X]] dst r acc ms K t m n := by
  refine ⟨[(0, j)], [(0, [.d (.int .i64 a)])], [.ptr 0 0, .dptr [X]], _, _, j + 1, by simp [okRen], by simp [renL, AV.ren, pget], by simp [inL, inB, pget], ⟨by simp [pget, hm, renL, AV.ren, inL, inB], trivial⟩, fun i id h => ?_, smNext_calls hX a ha, ?_⟩
  · simp only [pget] at h
    split at h
    · rename_i e; subst e; rfl
    · cases h
  rw [nx_nxN]
  have e : callMem [(0, j)] [(0, [AV.d (.int .i64 a)])] [(0, [AV.d (.int .i64 (a + 1 : Nat))])] n m = mset m j [.d (.int .i64 (a + 1 : Nat))] := by
    simp [callMem, updNew, updOld, mget, renL, AV.ren]
  rw [e]
  exact hk
end Go.Proofs.YtpfbljkfbjjlkaaGreatDoor

/- What the test made of numbers comes to, told without a heap: its model. -/
namespace Go.Proofs.YtpfbljkfbjjlkaaGreatDoor
open Go Go.Jq
set_option maxRecDepth 100000
set_option linter.unusedSimpArgs false
def smallLoc (locs x : Nat) : Nat := 120 + x / 16 % locs
def smallVal (x : Nat) : Opnd := if x / 256 % 3 = 0 then ⟨(x / 1024 % 2 : Nat), 0⟩ else ⟨-1, (x / 64 % 3 : Nat)⟩
def smallReg (x : Nat) : Nat := x / 2048 % 2
def smallIns (locs x : Nat) : List Ins :=
  if x % 12 < 4 then [⟨1, 0, smallLoc locs x, smallVal x, 0, ⟨0, 0⟩, 0⟩]
  else if x % 12 < 8 then [⟨2, smallReg x, smallLoc locs x, ⟨0, 0⟩, 0, ⟨0, 0⟩, 0⟩]
  else if x % 12 = 8 then [⟨3, 0, 0, ⟨0, 0⟩, 0, ⟨0, 0⟩, 0⟩]
  else if x % 12 = 9 then [⟨4, smallReg x, smallLoc locs x, smallVal x, 0, ⟨-1, 1⟩, 0⟩]
  else if x % 12 = 10 then [⟨5, smallReg x, 0, smallVal x, 6, ⟨-1, 1⟩, 0⟩]
  else [⟨6, 0, 0, smallVal x, 0, ⟨-1, 0⟩, 1⟩, ⟨1, 0, smallLoc locs x, ⟨-1, 2⟩, 0, ⟨0, 0⟩, 0⟩]
def smallMem (x : Nat) : Nat := if x % 12 = 8 ∨ x % 12 = 10 then 0 else 1
def smallThread (ls : List Int) (locs most : Nat) : Nat → Nat → Nat → List Ins → Nat × Nat × List Ins
  | 0, a, mem, s => (a, mem, s)
  | k + 1, a, mem, s => if mem < most then smallThread ls locs most k (a + 1) (mem + smallMem (nxN ls a)) (s ++ smallIns locs (nxN ls a)) else (a, mem, s)
def smallThreads (ls : List Int) (locs most : Nat) : Nat → Nat → Nat → List (List Ins) → Nat × List (List Ins)
  | 0, a, _, ts => (a, ts)
  | n + 1, a, mem, ts =>
    let r := smallThread ls locs most (nxN ls a % 3 + 1) (a + 1) mem []
    smallThreads ls locs most n r.1 r.2.1 (ts ++ [r.2.2])
def smT (X : DV) (n locs most i mem : Nat) (s : List Ins) : Fr :=
  [(1, .d (.int .i64 most)), (4, .ptr 0 0), (5, .ptr 1 0), (7, .fn 26 [.ptr 2 0, .dptr [X]]), (8, .d (.int .i64 n)), (9, .d (.int .i64 locs)), (10, .d (.int .i64 mem)), (11, .d (.int .i64 i)), (12, .sl 4 9 0 s.length)]
def smM (Iv : DV) (ds : List DV) (i a : Nat) (s : List Ins) : Mem :=
  [(0, [.d (.str []), .d .nsl, .d .nsl, .d (.int .i64 0), .d .nsl]), (1, [.d (.str [116]), .d Iv, .sl 3 1 0 i, .d (.int .i64 0), .d .nsl]), (2, [.d (.int .i64 a)]), (3, ds.map .d), (4, (s.flatMap Ins.cells).map .d)]
def smS (X Iv : DV) (ds : List DV) (n locs most i k a mem : Nat) (s : List Ins) : St := ⟨(13, .d (.int .i64 k)) :: smT X n locs most i mem s, smM Iv ds i a s, 5⟩
def smE (X Iv : DV) (ds : List DV) (n locs most i a mem : Nat) (s : List Ins) : St := ⟨smT X n locs most i mem s, smM Iv ds i a s, 5⟩
theorem insLen (s : List Ins) : (s.flatMap Ins.cells).length = s.length * 9 := by
  induction s with
  | nil => rfl
  | cons a l ih => rw [List.flatMap_cons, List.length_append, ih, List.length_cons, Nat.succ_mul, Nat.add_comm]; rfl
set_option maxHeartbeats 4000000 in
theorem small_loop {ls : List Int} {X Iv : DV} (hX : IsInts ls X) {ds : List DV} {n locs most i : Nat} (hl0 : 0 < locs) (hl : locs ≤ 10) (hmost : most ≤ 1000) {Q : Exit → St → Prop} :
    ∀ (k a mem : Nat) (s : List Ins), k ≤ 10 → a + k ≤ 1000000 → mem + k ≤ 1000000 → s.length + 2 * k ≤ 1000000 →
      Q (.exit 2) (smE X Iv ds n locs most i (smallThread ls locs most k a mem s).1 (smallThread ls locs most k a mem s).2.1 (smallThread ls locs most k a mem s).2.2) → BWP Tryz.prog (mbound []) 184 (.loop ac8L0) (smS X Iv ds n locs most i k a mem s) Q := by
  intro k a mem s hk ha hme hs hQ
  refine bwp_loop (fun S => ∃ k' a' mem' s', k' ≤ 10 ∧ a' + k' ≤ 1000000 ∧ mem' + k' ≤ 1000000 ∧ s'.length + 2 * k' ≤ 1000000 ∧ smallThread ls locs most k' a' mem' s' = smallThread ls locs most k a mem s ∧ S = smS X Iv ds n locs most i k' a' mem' s')
    (fun S => match fget S.t 13 with
      | .d (.int _ k) => k.toNat
      | _ => 0) ⟨k, a, mem, s, hk, ha, hme, hs, rfl, rfl⟩ ?_
  rintro S ⟨k, a, mem, s, hk, ha, hme, hs, hrec, rfl⟩
  rw [← hrec] at hQ
  unfold ac8L0 smS smT smM
  have stop : ∀ (t : Fr), fget t 57 = .d (.bool false) → fget t 1 = .d (.int .i64 most) → fget t 4 = .ptr 0 0 → fget t 5 = .ptr 1 0 → fget t 7 = .fn 26 [.ptr 2 0, .dptr [X]] → fget t 8 = .d (.int .i64 n) → fget t 9 = .d (.int .i64 locs) →
      fget t 10 = .d (.int .i64 mem) → fget t 11 = .d (.int .i64 i) → fget t 12 = .sl 4 9 0 s.length → smallThread ls locs most k a mem s = (a, mem, s) → ∀ Q', (∀ S, Q (.exit 2) S → Q' (.exit 2) S) → BWP Tryz.prog (mbound []) 184 (.cond (.t 57) .skip (.exit 2)) ⟨t, smM Iv ds i a s, 5⟩ Q' := by
    intro t h57 h1 h4 h5 h7 h8 h9 h10 h11 h12 he Q' hQ'
    refine bwp_cond false (by simp [ev, fget, h57]) (fun h => nomatch h) (fun _ => ?_)
    rw [he] at hQ
    refine bwp_leads (S' := smE X Iv ds n locs most i a mem s) (Leads.ent [(0, 0), (1, 1), (2, 2), (3, 3), (4, 4)] ⟨?_, ?_, rfl, ?_⟩) (bwp_exit (hQ' _ hQ))
    · simp [smE, smT, entT, AV.ren, renL, pget, h1, h4, h5, h7, h8, h9, h10, h11, h12]
    · simp [smE, smM, entM, pinv, mget, renL, AV.ren, pget]
    · simp [keepRen]
  refine bwp_seq fun K1 hK1 => ?_
  cases k with
  | zero =>
    have h0 : ¬ (0 : Int) < ((0 : Nat) : Int) := by omega
    refine bwp_seq fun K hK => bwp_region rfl ?_
    simp -implicitDefEqProofs only [go_sem, ↓reduceIte, h0]
    refine hK _ ?_; clear hK
    exact stop _ rfl rfl rfl rfl rfl rfl rfl rfl rfl rfl rfl _ fun _ h => h
  | succ k =>
    have h0 : (0 : Int) < ((k + 1 : Nat) : Int) := by omega
    by_cases hmm : mem < most
    · have hmm' : (mem : Int) < most := by omega
      refine bwp_seq fun K hK => bwp_region rfl ?_
      simp -implicitDefEqProofs only [go_sem, ↓reduceIte, h0, hmm']
      refine hK _ ?_; clear hK
      refine bwp_cond true (by simp [ev, fget]) (fun _ => ?_) (fun h => nomatch h)
      refine bwp_skip ?_
      refine hK1 _ ?_; clear hK1
      refine bwp_seq fun K1 hK1 => ?_
      refine bwp_block ?_
      refine bwp_seq fun K hK => bwp_region rfl ?_
      simp -implicitDefEqProofs only [go_sem, ↓reduceIte]
      refine ⟨rfl, smNext_callK hX (by omega) rfl ?_⟩
      simp -implicitDefEqProofs only [go_sem, ↓reduceIte]
      refine hK _ ?_; clear hK
      have hx := nxN_le ls a
      generalize hxe : nxN ls a = x at hx
      have hl0' : ¬ (locs : Int) = 0 := by omega
      have hmod : x / 16 % locs < 10 := Nat.lt_of_lt_of_le (Nat.mod_lt _ hl0) hl
      have hwl : IntKind.i64.wrap (120 + ((x / 16 % locs : Nat) : Int)) = (smallLoc locs x : Int) := by rw [wrap_i64 (by omega) (by omega)]; simp [smallLoc]
      refine bwp_seq fun K hK => bwp_region rfl ?_
      simp -implicitDefEqProofs only [go_sem, ↓reduceIte, fd16 x, hl0', tmod_nat, hwl]
      refine hK _ ?_; clear hK
      refine bwp_seq fun K hK => bwp_region rfl ?_
      simp -implicitDefEqProofs only [go_sem, ↓reduceIte, fd64 x, tm3]
      refine hK _ ?_; clear hK
      refine bwp_seq fun K2 hK2 => ?_
      have mid : ∀ t : Fr, fget t 1 = .d (.int .i64 most) → fget t 4 = .ptr 0 0 → fget t 5 = .ptr 1 0 → fget t 7 = .fn 26 [.ptr 2 0, .dptr [X]] → fget t 8 = .d (.int .i64 n) → fget t 9 = .d (.int .i64 locs) →
          fget t 10 = .d (.int .i64 mem) → fget t 11 = .d (.int .i64 i) → fget t 12 = .sl 4 9 0 s.length → fget t 13 = .d (.int .i64 (k + 1 : Nat)) → fget t 14 = .d (.int .i64 x) → fget t 15 = .d (.int .i64 (smallLoc locs x)) → fget t 16 = .ptr 6 0 →
          K2 ⟨t, [(0, [.d (.str []), .d .nsl, .d .nsl, .d (.int .i64 0), .d .nsl]), (1, [.d (.str [116]), .d Iv, .sl 3 1 0 i, .d (.int .i64 0), .d .nsl]), (2, [.d (.int .i64 (a + 1 : Nat))]), (3, ds.map .d), (4, (s.flatMap Ins.cells).map .d), (6, [.d (.int .i64 (smallVal x).reg), .d (.int .i64 (smallVal x).value)])], 7⟩ := by
        intro t h1 h4 h5 h7 h8 h9 h10 h11 h12 h13 h14 h15 h16
        have back : ∀ (t : Fr) (is : List Ins) (mem' : Nat) (c7 : List AV), fget t 1 = .d (.int .i64 most) → fget t 4 = .ptr 0 0 → fget t 5 = .ptr 1 0 → fget t 7 = .fn 26 [.ptr 2 0, .dptr [X]] → fget t 8 = .d (.int .i64 n) → fget t 9 = .d (.int .i64 locs) →
            fget t 10 = .d (.int .i64 mem') → fget t 11 = .d (.int .i64 i) → fget t 12 = .sl 8 9 0 (s.length + is.length) → fget t 13 = .d (.int .i64 (k + 1 : Nat)) → smallIns locs x = is → is.length ≤ 2 → mem' = mem + smallMem x →
            K1 ⟨t, [(0, [.d (.str []), .d .nsl, .d .nsl, .d (.int .i64 0), .d .nsl]), (1, [.d (.str [116]), .d Iv, .sl 3 1 0 i, .d (.int .i64 0), .d .nsl]), (2, [.d (.int .i64 (a + 1 : Nat))]), (3, ds.map .d), (6, [.d (.int .i64 (smallVal x).reg), .d (.int .i64 (smallVal x).value)]), (7, c7),
              (8, (s.flatMap Ins.cells).map .d ++ (is.flatMap Ins.cells).map .d)], 9⟩ := by
          intro t is mem' c7 h1 h4 h5 h7 h8 h9 h10 h11 h12 h13 his hil hmem
          have hwk : IntKind.i64.wrap (((k + 1 : Nat) : Int) - 1) = (k : Int) := by rw [wrap_i64 (by omega) (by omega)]; omega
          refine hK1 _ ?_; clear hK1
          refine bwp_region rfl ?_
          simp -implicitDefEqProofs only [go_sem, ↓reduceIte, h13, hwk]
          have hrec' : smallThread ls locs most k (a + 1) mem' (s ++ is) = smallThread ls locs most (k + 1) a mem s := by
            simp only [smallThread, hmm, if_true, hxe, his, hmem]
          have hsm : smallMem x ≤ 1 := by unfold smallMem; split <;> omega
          refine ⟨smS X Iv ds n locs most i k (a + 1) mem' (s ++ is), Leads.ent [(0, 0), (1, 1), (2, 2), (3, 3), (8, 4)] ⟨?_, ?_, rfl, rfl⟩, ⟨k, a + 1, mem', s ++ is, by omega, by omega, by omega, by simp; omega, hrec'.trans hrec, rfl⟩, ?_⟩
          · simp [smS, smT, entT, fget, AV.ren, renL, pget, h1, h4, h5, h7, h8, h9, h10, h11, h12]
          · simp [smS, smM, entM, pinv, mget, renL, AV.ren, pget, renL_append]
          · simp only [smS, fget, ↓reduceIte, Nat.reduceEqDiff, Int.toNat_natCast]
            omega
        have hwm : IntKind.i64.wrap ((mem : Int) + 1) = ((mem + 1 : Nat) : Int) := by rw [wrap_i64 (by omega) (by omega)]; rfl
        have hb1 : (s.length + 1) * 72 ≤ 140737488351232 := by omega
        have hb2 : (s.length + 2) * 72 ≤ 140737488351232 := by omega
        have hil := insLen s
        refine hK2 _ ?_; clear hK2
        refine bwp_seq fun K hK => bwp_region rfl ?_
        simp -implicitDefEqProofs only [go_sem, ↓reduceIte, h14, fd2048 x, and1]
        refine hK _ ?_; clear hK
        refine bwp_seq fun K hK => bwp_region rfl ?_
        simp -implicitDefEqProofs only [go_sem, ↓reduceIte, h14, tm12 x]
        refine hK _ ?_; clear hK
        refine bwp_block ?_
        have h12c : x % 12 = 0 ∨ x % 12 = 1 ∨ x % 12 = 2 ∨ x % 12 = 3 ∨ x % 12 = 4 ∨ x % 12 = 5 ∨ x % 12 = 6 ∨ x % 12 = 7 ∨ x % 12 = 8 ∨ x % 12 = 9 ∨ x % 12 = 10 ∨ x % 12 = 11 := by omega
        rcases h12c with h | h | h | h | h | h | h | h | h | h | h | h
        iterate 4
          · have hc := congrArg (Nat.cast : Nat → Int) h
            simp only [Int.cast_ofNat_Int] at hc
            repeat (first
              | (refine bwp_seq fun K hK => bwp_region rfl ?_; simp -implicitDefEqProofs only [go_sem, ↓reduceIte, h1, h4, h5, h7, h8, h9, h10, h11, h12, h13, h14, h15, h16, hc, hwm, hb1, hb2, hil, List.length_append]; refine hK _ ?_; clear hK)
              | (refine bwp_seq fun K hK => ?_)
              | (refine bwp_cond true ?_ (fun _ => ?_) (fun h => nomatch h); focus (simp [ev, fget, h1, h4, h5, h7, h8, h9, h10, h11, h12, h13, h14, h15, h16, hc, hwm, hb1, hb2, hil, List.length_append]; done))
              | (refine bwp_cond false ?_ (fun h => nomatch h) (fun _ => ?_); focus (simp [ev, fget, h1, h4, h5, h7, h8, h9, h10, h11, h12, h13, h14, h15, h16, hc, hwm, hb1, hb2, hil, List.length_append]; done))
              | (refine bwp_block ?_)
              | (refine bwp_skip ?_; refine hK _ ?_; clear hK)
              | (refine bwp_region rfl ?_; simp -implicitDefEqProofs only [go_sem, ↓reduceIte, h1, h4, h5, h7, h8, h9, h10, h11, h12, h13, h14, h15, h16, hc, hwm, hb1, hb2, hil, List.length_append]; refine hK _ ?_; clear hK))
            refine bwp_region rfl ?_
            simp -implicitDefEqProofs only [go_sem, ↓reduceIte, h1, h4, h5, h7, h8, h9, h10, h11, h12, h13, h14, h15, h16, hc, hwm, hb1, hb2, hil, List.length_append]
            exact back _ [⟨1, 0, smallLoc locs x, smallVal x, 0, ⟨0, 0⟩, 0⟩] (mem + 1) _ h1 h4 h5 h7 h8 h9 rfl h11 rfl h13 (by simp [smallIns, h]) (by simp) (by simp [smallMem, h])
        iterate 4
          · have hc := congrArg (Nat.cast : Nat → Int) h
            simp only [Int.cast_ofNat_Int] at hc
            repeat (first
              | (refine bwp_seq fun K hK => bwp_region rfl ?_; simp -implicitDefEqProofs only [go_sem, ↓reduceIte, h1, h4, h5, h7, h8, h9, h10, h11, h12, h13, h14, h15, h16, hc, hwm, hb1, hb2, hil, List.length_append]; refine hK _ ?_; clear hK)
              | (refine bwp_seq fun K hK => ?_)
              | (refine bwp_cond true ?_ (fun _ => ?_) (fun h => nomatch h); focus (simp [ev, fget, h1, h4, h5, h7, h8, h9, h10, h11, h12, h13, h14, h15, h16, hc, hwm, hb1, hb2, hil, List.length_append]; done))
              | (refine bwp_cond false ?_ (fun h => nomatch h) (fun _ => ?_); focus (simp [ev, fget, h1, h4, h5, h7, h8, h9, h10, h11, h12, h13, h14, h15, h16, hc, hwm, hb1, hb2, hil, List.length_append]; done))
              | (refine bwp_block ?_)
              | (refine bwp_skip ?_; refine hK _ ?_; clear hK)
              | (refine bwp_region rfl ?_; simp -implicitDefEqProofs only [go_sem, ↓reduceIte, h1, h4, h5, h7, h8, h9, h10, h11, h12, h13, h14, h15, h16, hc, hwm, hb1, hb2, hil, List.length_append]; refine hK _ ?_; clear hK))
            refine bwp_region rfl ?_
            simp -implicitDefEqProofs only [go_sem, ↓reduceIte, h1, h4, h5, h7, h8, h9, h10, h11, h12, h13, h14, h15, h16, hc, hwm, hb1, hb2, hil, List.length_append]
            exact back _ [⟨2, smallReg x, smallLoc locs x, ⟨0, 0⟩, 0, ⟨0, 0⟩, 0⟩] (mem + 1) _ h1 h4 h5 h7 h8 h9 rfl h11 rfl h13 (by simp [smallIns, h]) (by simp) (by simp [smallMem, h])
        · have hc : ((x % 12 : Nat) : Int) = 8 := by omega
          repeat (first
            | (refine bwp_seq fun K hK => bwp_region rfl ?_; simp -implicitDefEqProofs only [go_sem, ↓reduceIte, h1, h4, h5, h7, h8, h9, h10, h11, h12, h13, h14, h15, h16, hc, hwm, hb1, hb2, hil, List.length_append]; refine hK _ ?_; clear hK)
            | (refine bwp_seq fun K hK => ?_)
            | (refine bwp_cond true ?_ (fun _ => ?_) (fun h => nomatch h); focus (simp [ev, fget, h1, h4, h5, h7, h8, h9, h10, h11, h12, h13, h14, h15, h16, hc, hwm, hb1, hb2, hil, List.length_append]; done))
            | (refine bwp_cond false ?_ (fun h => nomatch h) (fun _ => ?_); focus (simp [ev, fget, h1, h4, h5, h7, h8, h9, h10, h11, h12, h13, h14, h15, h16, hc, hwm, hb1, hb2, hil, List.length_append]; done))
            | (refine bwp_block ?_)
            | (refine bwp_skip ?_; refine hK _ ?_; clear hK)
            | (refine bwp_region rfl ?_; simp -implicitDefEqProofs only [go_sem, ↓reduceIte, h1, h4, h5, h7, h8, h9, h10, h11, h12, h13, h14, h15, h16, hc, hwm, hb1, hb2, hil, List.length_append]; refine hK _ ?_; clear hK))
          refine bwp_region rfl ?_
          simp -implicitDefEqProofs only [go_sem, ↓reduceIte, h1, h4, h5, h7, h8, h9, h10, h11, h12, h13, h14, h15, h16, hc, hwm, hb1, hb2, hil, List.length_append]
          exact back _ [⟨3, 0, 0, ⟨0, 0⟩, 0, ⟨0, 0⟩, 0⟩] mem _ h1 h4 h5 h7 h8 h9 h10 h11 rfl h13 (by simp [smallIns, h]) (by simp) (by simp [smallMem, h])
        · have hc : ((x % 12 : Nat) : Int) = 9 := by omega
          repeat (first
            | (refine bwp_seq fun K hK => bwp_region rfl ?_; simp -implicitDefEqProofs only [go_sem, ↓reduceIte, h1, h4, h5, h7, h8, h9, h10, h11, h12, h13, h14, h15, h16, hc, hwm, hb1, hb2, hil, List.length_append]; refine hK _ ?_; clear hK)
            | (refine bwp_seq fun K hK => ?_)
            | (refine bwp_cond true ?_ (fun _ => ?_) (fun h => nomatch h); focus (simp [ev, fget, h1, h4, h5, h7, h8, h9, h10, h11, h12, h13, h14, h15, h16, hc, hwm, hb1, hb2, hil, List.length_append]; done))
            | (refine bwp_cond false ?_ (fun h => nomatch h) (fun _ => ?_); focus (simp [ev, fget, h1, h4, h5, h7, h8, h9, h10, h11, h12, h13, h14, h15, h16, hc, hwm, hb1, hb2, hil, List.length_append]; done))
            | (refine bwp_block ?_)
            | (refine bwp_skip ?_; refine hK _ ?_; clear hK)
            | (refine bwp_region rfl ?_; simp -implicitDefEqProofs only [go_sem, ↓reduceIte, h1, h4, h5, h7, h8, h9, h10, h11, h12, h13, h14, h15, h16, hc, hwm, hb1, hb2, hil, List.length_append]; refine hK _ ?_; clear hK))
          refine bwp_region rfl ?_
          simp -implicitDefEqProofs only [go_sem, ↓reduceIte, h1, h4, h5, h7, h8, h9, h10, h11, h12, h13, h14, h15, h16, hc, hwm, hb1, hb2, hil, List.length_append]
          exact back _ [⟨4, smallReg x, smallLoc locs x, smallVal x, 0, ⟨-1, 1⟩, 0⟩] (mem + 1) _ h1 h4 h5 h7 h8 h9 rfl h11 rfl h13 (by simp [smallIns, h]) (by simp) (by simp [smallMem, h])
        · have hc : ((x % 12 : Nat) : Int) = 10 := by omega
          repeat (first
            | (refine bwp_seq fun K hK => bwp_region rfl ?_; simp -implicitDefEqProofs only [go_sem, ↓reduceIte, h1, h4, h5, h7, h8, h9, h10, h11, h12, h13, h14, h15, h16, hc, hwm, hb1, hb2, hil, List.length_append]; refine hK _ ?_; clear hK)
            | (refine bwp_seq fun K hK => ?_)
            | (refine bwp_cond true ?_ (fun _ => ?_) (fun h => nomatch h); focus (simp [ev, fget, h1, h4, h5, h7, h8, h9, h10, h11, h12, h13, h14, h15, h16, hc, hwm, hb1, hb2, hil, List.length_append]; done))
            | (refine bwp_cond false ?_ (fun h => nomatch h) (fun _ => ?_); focus (simp [ev, fget, h1, h4, h5, h7, h8, h9, h10, h11, h12, h13, h14, h15, h16, hc, hwm, hb1, hb2, hil, List.length_append]; done))
            | (refine bwp_block ?_)
            | (refine bwp_skip ?_; refine hK _ ?_; clear hK)
            | (refine bwp_region rfl ?_; simp -implicitDefEqProofs only [go_sem, ↓reduceIte, h1, h4, h5, h7, h8, h9, h10, h11, h12, h13, h14, h15, h16, hc, hwm, hb1, hb2, hil, List.length_append]; refine hK _ ?_; clear hK))
          refine bwp_region rfl ?_
          simp -implicitDefEqProofs only [go_sem, ↓reduceIte, h1, h4, h5, h7, h8, h9, h10, h11, h12, h13, h14, h15, h16, hc, hwm, hb1, hb2, hil, List.length_append]
          exact back _ [⟨5, smallReg x, 0, smallVal x, 6, ⟨-1, 1⟩, 0⟩] mem _ h1 h4 h5 h7 h8 h9 h10 h11 rfl h13 (by simp [smallIns, h]) (by simp) (by simp [smallMem, h])
        · have hc : ((x % 12 : Nat) : Int) = 11 := by omega
          repeat (first
            | (refine bwp_seq fun K hK => bwp_region rfl ?_; simp -implicitDefEqProofs only [go_sem, ↓reduceIte, h1, h4, h5, h7, h8, h9, h10, h11, h12, h13, h14, h15, h16, hc, hwm, hb1, hb2, hil, List.length_append]; refine hK _ ?_; clear hK)
            | (refine bwp_seq fun K hK => ?_)
            | (refine bwp_cond true ?_ (fun _ => ?_) (fun h => nomatch h); focus (simp [ev, fget, h1, h4, h5, h7, h8, h9, h10, h11, h12, h13, h14, h15, h16, hc, hwm, hb1, hb2, hil, List.length_append]; done))
            | (refine bwp_cond false ?_ (fun h => nomatch h) (fun _ => ?_); focus (simp [ev, fget, h1, h4, h5, h7, h8, h9, h10, h11, h12, h13, h14, h15, h16, hc, hwm, hb1, hb2, hil, List.length_append]; done))
            | (refine bwp_block ?_)
            | (refine bwp_skip ?_; refine hK _ ?_; clear hK)
            | (refine bwp_region rfl ?_; simp -implicitDefEqProofs only [go_sem, ↓reduceIte, h1, h4, h5, h7, h8, h9, h10, h11, h12, h13, h14, h15, h16, hc, hwm, hb1, hb2, hil, List.length_append]; refine hK _ ?_; clear hK))
          refine bwp_region rfl ?_
          simp -implicitDefEqProofs only [go_sem, ↓reduceIte, h1, h4, h5, h7, h8, h9, h10, h11, h12, h13, h14, h15, h16, hc, hwm, hb1, hb2, hil, List.length_append]
          exact back _ [⟨6, 0, 0, smallVal x, 0, ⟨-1, 0⟩, 1⟩, ⟨1, 0, smallLoc locs x, ⟨-1, 2⟩, 0, ⟨0, 0⟩, 0⟩] (mem + 1) _ h1 h4 h5 h7 h8 h9 rfl h11 rfl h13 (by simp [smallIns, h]) (by simp) (by simp [smallMem, h])
      refine bwp_seq fun K hK => bwp_region rfl ?_
      simp -implicitDefEqProofs only [go_sem, ↓reduceIte, fd256 x, tm3]
      refine hK _ ?_; clear hK
      by_cases hv : x / 256 % 3 = 0
      · have hv' : ((x / 256 % 3 : Nat) : Int) = 0 := by omega
        refine bwp_cond true (by simp [ev, fget, hv]) (fun _ => ?_) (fun h => nomatch h)
        refine bwp_region rfl ?_
        simp -implicitDefEqProofs only [go_sem, ↓reduceIte, fd1024 x, and1]
        have := mid
        simp only [smallVal, hv, if_true] at this
        exact this _ rfl rfl rfl rfl rfl rfl rfl rfl rfl rfl rfl rfl rfl
      · refine bwp_cond false (by simp [ev, fget]; omega) (fun h => nomatch h) (fun _ => ?_)
        refine bwp_skip ?_
        have := mid
        simp only [smallVal, hv, if_false] at this
        exact this _ rfl rfl rfl rfl rfl rfl rfl rfl rfl rfl rfl rfl rfl
    · have hmm' : ¬ (mem : Int) < most := by omega
      refine bwp_seq fun K hK => bwp_region rfl ?_
      simp -implicitDefEqProofs only [go_sem, ↓reduceIte, h0, hmm']
      refine hK _ ?_; clear hK
      exact stop _ rfl rfl rfl rfl rfl rfl rfl rfl rfl rfl (by simp [smallThread, hmm]) _ fun _ h => h
end Go.Proofs.YtpfbljkfbjjlkaaGreatDoor

/- What the test made of numbers comes to, told without a heap: its threads. -/
namespace Go.Proofs.YtpfbljkfbjjlkaaGreatDoor
open Go Go.Jq
set_option maxRecDepth 100000
set_option linter.unusedSimpArgs false
theorem smallIns_len (locs x : Nat) : (smallIns locs x).length ≤ 2 := by
  unfold smallIns
  repeat' split
  all_goals simp
theorem smallMem_le (x : Nat) : smallMem x ≤ 1 := by unfold smallMem; split <;> omega
theorem smallThread_bounds (ls : List Int) (locs most : Nat) : ∀ (k a mem : Nat) (s : List Ins), (smallThread ls locs most k a mem s).1 ≤ a + k ∧ (smallThread ls locs most k a mem s).2.1 ≤ mem + k ∧ (smallThread ls locs most k a mem s).2.2.length ≤ s.length + 2 * k
  | 0, a, mem, s => by simp [smallThread]
  | k + 1, a, mem, s => by
    simp only [smallThread]
    split
    · have h := smallThread_bounds ls locs most k (a + 1) (mem + smallMem (nxN ls a)) (s ++ smallIns locs (nxN ls a))
      have h1 := smallIns_len locs (nxN ls a)
      have h2 := smallMem_le (nxN ls a)
      simp only [List.length_append] at h
      omega
    · simp only; omega
def smO (X Iv : DV) (ds : List DV) (n locs most i a mem : Nat) : St :=
  ⟨[(1, .d (.int .i64 most)), (4, .ptr 0 0), (5, .ptr 1 0), (7, .fn 26 [.ptr 2 0, .dptr [X]]), (8, .d (.int .i64 n)), (9, .d (.int .i64 locs)), (10, .d (.int .i64 mem)), (11, .d (.int .i64 i))],
    [(0, [.d (.str []), .d .nsl, .d .nsl, .d (.int .i64 0), .d .nsl]), (1, [.d (.str [116]), .d Iv, .sl 3 1 0 i, .d (.int .i64 0), .d .nsl]), (2, [.d (.int .i64 a)]), (3, ds.map .d)], 4⟩
set_option maxHeartbeats 4000000 in
theorem small_threads {ls : List Int} {X Iv : DV} (hX : IsInts ls X) {n locs most : Nat} (hn : n ≤ 3) (hl0 : 0 < locs) (hl : locs ≤ 10) (hmost : most ≤ 1000) {Q : Exit → St → Prop} {a0 : Nat} (ha0 : a0 ≤ 10)
    (hQ : ∀ ds, IsSls Ins.cells (smallThreads ls locs most n a0 0 []).2 ds → ds.length = n → (smallThreads ls locs most n a0 0 []).1 ≤ 100 → ∀ mem, Q (.exit 0) (smO X Iv ds n locs most n (smallThreads ls locs most n a0 0 []).1 mem)) :
    BWP Tryz.prog (mbound []) 184 (.loop ac8L1) (smO X Iv [] n locs most 0 a0 0) Q := by
  refine bwp_loop (fun S => ∃ i a mem ts ds, IsSls Ins.cells ts ds ∧ ts.length = i ∧ i ≤ n ∧ a ≤ 10 + 10 * i ∧ mem ≤ 10 * i ∧ smallThreads ls locs most (n - i) a mem ts = smallThreads ls locs most n a0 0 [] ∧ S = smO X Iv ds n locs most i a mem)
    (fun S => match fget S.t 11 with
      | .d (.int _ i) => n - i.toNat
      | _ => 0) ⟨0, a0, 0, [], [], trivial, rfl, Nat.zero_le _, by omega, by omega, rfl, rfl⟩ ?_
  rintro S ⟨i, a, mem, ts, ds, hds, htl, hi, ha, hme, hrec, rfl⟩
  have hdl : ds.length = i := by rw [hds.length, htl]
  unfold ac8L1
  refine bwp_seq fun K1 hK1 => ?_
  by_cases hlt : i < n
  · have hlt' : (i : Int) < n := by omega
    unfold smO
    refine bwp_seq fun K hK => bwp_region rfl ?_
    simp -implicitDefEqProofs only [go_sem, ↓reduceIte, hlt']
    refine hK _ ?_; clear hK
    refine bwp_cond true (by simp [ev, fget]) (fun _ => ?_) (fun h => nomatch h)
    refine bwp_skip ?_
    refine hK1 _ ?_; clear hK1
    refine bwp_seq fun K1 hK1 => ?_
    refine bwp_block ?_
    refine bwp_seq fun K hK => bwp_region rfl ?_
    simp -implicitDefEqProofs only [go_sem, ↓reduceIte]
    refine hK _ ?_; clear hK
    refine bwp_seq fun K2 hK2 => ?_
    refine bwp_seq fun K hK => bwp_region rfl ?_
    simp -implicitDefEqProofs only [go_sem, ↓reduceIte]
    refine ⟨rfl, smNext_callK hX (by omega) rfl ?_⟩
    have hk4 : nxN ls a % 3 + 1 ≤ 10 := by omega
    have hw3 : IntKind.i64.wrap (((nxN ls a % 3 : Nat) : Int) + 1) = ((nxN ls a % 3 + 1 : Nat) : Int) := by rw [wrap_i64 (by omega) (by omega)]; rfl
    simp -implicitDefEqProofs only [go_sem, ↓reduceIte, tm3, hw3]
    refine hK _ ?_; clear hK
    refine bwp_block ?_
    refine bwp_leads (S' := ⟨[(12, .d .nsl), (13, .d (.int .i64 (nxN ls a % 3 + 1 : Nat))), (1, .d (.int .i64 most)), (4, .ptr 0 0), (5, .ptr 1 0), (7, .fn 26 [.ptr 2 0, .dptr [X]]), (8, .d (.int .i64 n)), (9, .d (.int .i64 locs)), (10, .d (.int .i64 mem)), (11, .d (.int .i64 i))],
      [(0, [.d (.str []), .d .nsl, .d .nsl, .d (.int .i64 0), .d .nsl]), (1, [.d (.str [116]), .d Iv, .sl 3 1 0 i, .d (.int .i64 0), .d .nsl]), (2, [.d (.int .i64 (a + 1 : Nat))]), (3, ds.map .d)], 4⟩) (Leads.ent [(0, 0), (1, 1), (2, 2), (3, 3)] ⟨?_, ?_, rfl, rfl⟩) ?_
    · simp [entT, fget, AV.ren, renL, pget]
    · simp [entM, pinv, mget, renL, AV.ren, pget]
    refine bwp_leads (Leads.nil 12 9 rfl rfl) ?_
    refine bwp_leads (S' := smS X Iv ds n locs most i (nxN ls a % 3 + 1) (a + 1) mem []) (Leads.ent [(0, 0), (1, 1), (2, 2), (3, 3), (4, 4)] ⟨?_, ?_, rfl, rfl⟩) ?_
    · simp [smS, smT, entT, fget, AV.ren, renL, pget]
    · simp [smS, smM, entM, pinv, mget, mset, renL, AV.ren, pget]
    refine small_loop hX hl0 hl hmost _ _ _ _ hk4 (by omega) (by omega) (by simp; omega) ?_
    have hb := smallThread_bounds ls locs most (nxN ls a % 3 + 1) (a + 1) mem []
    have hrec2 : smallThreads ls locs most (n - i) a mem ts = smallThreads ls locs most (n - (i + 1)) (smallThread ls locs most (nxN ls a % 3 + 1) (a + 1) mem []).1 (smallThread ls locs most (nxN ls a % 3 + 1) (a + 1) mem []).2.1 (ts ++ [(smallThread ls locs most (nxN ls a % 3 + 1) (a + 1) mem []).2.2]) := by
      rw [show n - i = (n - (i + 1)) + 1 by omega]
      rfl
    generalize smallThread ls locs most (nxN ls a % 3 + 1) (a + 1) mem [] = r at hb hrec2
    obtain ⟨a', mem', s'⟩ := r
    simp only [List.length_nil, Nat.zero_add] at hb
    simp -implicitDefEqProofs only [go_sem, ↓reduceIte]
    refine hK2 _ ?_; clear hK2
    have htk : (s'.flatMap Ins.cells).take (s'.length * 9) = s'.flatMap Ins.cells := List.take_of_length_le (by rw [insLen]; omega)
    refine bwp_leads (Leads.frz (S' := ⟨[(12, .d (.sl s'.length (s'.flatMap Ins.cells))), (1, .d (.int .i64 most)), (4, .ptr 0 0), (5, .ptr 1 0), (7, .fn 26 [.ptr 2 0, .dptr [X]]), (8, .d (.int .i64 n)), (9, .d (.int .i64 locs)), (10, .d (.int .i64 mem')), (11, .d (.int .i64 i))],
      [(0, [.d (.str []), .d .nsl, .d .nsl, .d (.int .i64 0), .d .nsl]), (1, [.d (.str [116]), .d Iv, .sl 3 1 0 i, .d (.int .i64 0), .d .nsl]), (2, [.d (.int .i64 a')]), (3, ds.map .d)], 4⟩) [(0, 0), (1, 1), (2, 2), (3, 3)] [(4, s'.flatMap Ins.cells)] ⟨?_, ?_, rfl, rfl, ?_⟩) ?_
    · simp [smE, smT, frzT, fget, AV.cv, cvL, zget, pget, htk]
    · simp [smE, smM, frzM, pinv, zget, mget, cvL, AV.cv, pget, cvL_d]
    · simp [smE, smM, zokFrom, mget, cvL_d]
    have hi24 : (i + 1) * 24 ≤ 140737488351232 := by omega
    refine bwp_region rfl ?_
    simp -implicitDefEqProofs only [go_sem, ↓reduceIte, List.length_append, hdl, hi24]
    refine hK1 _ ?_; clear hK1
    have hwi : IntKind.i64.wrap ((i : Int) + 1) = ((i + 1 : Nat) : Int) := by rw [wrap_i64 (by omega) (by omega)]; rfl
    refine bwp_region rfl ?_
    simp -implicitDefEqProofs only [go_sem, ↓reduceIte, hwi]
    refine ⟨smO X Iv (ds ++ [.sl s'.length (s'.flatMap Ins.cells)]) n locs most (i + 1) a' mem', Leads.ent [(0, 0), (1, 1), (2, 2), (5, 3)] ⟨?_, ?_, rfl, rfl⟩, ⟨i + 1, a', mem', ts ++ [s'], _, hds.append ⟨by omega, .inr rfl⟩, by simp [htl], by omega, by omega, by omega, hrec2.symm.trans hrec, rfl⟩, ?_⟩
    · simp [smO, entT, fget, AV.ren, renL, pget]
    · simp [smO, entM, pinv, mget, renL, AV.ren, pget, renL_append]
    · simp only [smO, fget, ↓reduceIte, Nat.reduceEqDiff, Int.toNat_natCast]
      omega
  · have hlt' : ¬ (i : Int) < n := by omega
    have hin : i = n := by omega
    unfold smO
    refine bwp_seq fun K hK => bwp_region rfl ?_
    simp -implicitDefEqProofs only [go_sem, ↓reduceIte, hlt']
    refine hK _ ?_; clear hK
    refine bwp_cond false (by simp [ev, fget]) (fun h => nomatch h) (fun _ => ?_)
    subst hin
    refine bwp_leads (S' := smO X Iv ds i locs most i a mem) (Leads.ent [(0, 0), (1, 1), (2, 2), (3, 3)] ⟨?_, ?_, rfl, rfl⟩) (bwp_exit ?_)
    · simp [smO, entT, fget, AV.ren, renL, pget]
    · simp [smO, entM, pinv, mget, renL, AV.ren, pget]
    · rw [Nat.sub_self] at hrec
      simp only [smallThreads] at hrec
      simp -implicitDefEqProofs only [go_sem, ↓reduceIte]
      rw [← hrec] at hQ
      exact hQ ds hds hdl (by simp only; omega) mem
end Go.Proofs.YtpfbljkfbjjlkaaGreatDoor

/- What the test made of numbers comes to, told without a heap. -/
namespace Go.Proofs.YtpfbljkfbjjlkaaGreatDoor
open Go Go.Jq
set_option maxRecDepth 100000
set_option linter.unusedSimpArgs false
def smallN (ls : List Int) : Nat := nxN ls 0 % 2 + 2
def smallLocs (ls : List Int) : Nat := nxN ls 1 % 2 + 2
def smallInits (ls : List Int) : List Init := if nxN ls 2 % 4 = 0 then [⟨120, (nxN ls 3 % 3 : Nat)⟩] else []
def smallAt (ls : List Int) : Nat := if nxN ls 2 % 4 = 0 then 4 else 3
def smallTs (ls : List Int) (most : Nat) : Nat × List (List Ins) := smallThreads ls (smallLocs ls) most (smallN ls) (smallAt ls) 0 []
def smallC (ls : List Int) (most : Nat) : Nat := nxN ls (smallTs ls most).1
def smallRows (x : Nat) : List (List Atom) := if x % 3 = 0 then [[⟨0, (x / 8 % 2 : Nat), 0, (x / 16 % 2 : Nat)⟩], [⟨-1, 0, 120, (x / 32 % 3 : Nat)⟩, ⟨1, 0, 0, (x / 128 % 2 : Nat)⟩]] else []
def smallKind (x : Nat) : Int := if x % 3 = 0 then ((x / 3 % 2 + 1 : Nat) : Int) else 0
def small (ls : List Int) (most : Nat) : Test := ⟨[116], smallInits ls, (smallTs ls most).2, smallKind (smallC ls most), smallRows (smallC ls most)⟩
def smL (X Iv : DV) (ds : List DV) (n a : Nat) : St :=
  ⟨[(4, .ptr 0 0), (5, .ptr 1 0), (7, .fn 26 [.ptr 2 0, .dptr [X]])],
    [(0, [.d (.str []), .d .nsl, .d .nsl, .d (.int .i64 0), .d .nsl]), (1, [.d (.str [116]), .d Iv, .d (.sl n ds), .d (.int .i64 0), .d .nsl]), (2, [.d (.int .i64 a)])], 3⟩
def smEnd (Iv : DV) (ds : List DV) (n : Nat) (kind : Int) (Av : DV) : St :=
  ⟨[(4, .ptr 0 0), (5, .ptr 1 0)], [(0, [.d (.str []), .d .nsl, .d .nsl, .d (.int .i64 0), .d .nsl]), (1, [.d (.str [116]), .d Iv, .d (.sl n ds), .d (.int .i64 kind), .d Av])], 2⟩
theorem small_end {Iv Av : DV} {ds : List DV} {n : Nat} {kind : Int} {Q : AV → Mem → Prop} (hQ : Q (.agg [.d (.str [116]), .d Iv, .d (.sl n ds), .d (.int .i64 kind), .d Av]) []) :
    BWP Tryz.prog (mbound []) 184 (.seq (.region false [⟨(some 183), .load (some 5) (.t 5), none⟩, ⟨none, .store 5 (.t 4) (.t 183), none⟩] []) .ret) (smEnd Iv ds n kind Av) (AEnd Tryz.prog #[.cell 4 30] (mbound []) Q) := by
  have hld : ldk Tryz.prog 30 = some (some 5) := by kernel_rfl
  unfold smEnd
  refine bwp_seq fun K hK => bwp_region rfl ?_
  simp -implicitDefEqProofs only [go_sem, ↓reduceIte]
  refine hK _ ?_; clear hK
  refine bwp_ret ?_
  simp only [go_sem]
  refine aend_mem (.agg [.d (.str [116]), .d Iv, .d (.sl n ds), .d (.int .i64 kind), .d Av]) [] [] ?_ rfl rfl trivial ?_
  · simp [resA, resVs, resV, fget, hld, mget, loadA]
  · simpa [AV.ren, renL] using hQ
def smSeq : Nat → ACode → ACode
  | 0, c => c
  | n + 1, .seq _ b => smSeq n b
  | _, c => c
theorem small_tail {ls : List Int} {X : DV} (hX : IsInts ls X) {Iv : DV} {ds : List DV} {n a x : Nat} (ha : a ≤ 1000) (hxe : nxN ls a = x) (hdl : ds.length = n) {Q : AV → Mem → Prop}
    (hQ : ∀ Av, IsSl2 Atom.cells (smallRows x) Av → Q (.agg [.d (.str [116]), .d Iv, .d (.sl n ds), .d (.int .i64 (smallKind x)), .d Av]) []) :
    BWP Tryz.prog (mbound []) 184 (smSeq 9 ac8) (smL X Iv ds n a) (AEnd Tryz.prog #[.cell 4 30] (mbound []) Q) := by
  have hx := nxN_le ls a
  rw [hxe] at hx
  unfold ac8 smL
  simp only [smSeq]
  refine bwp_seq fun K1 hK1 => ?_
  refine bwp_seq fun K hK => bwp_region rfl ?_
  simp -implicitDefEqProofs only [go_sem, ↓reduceIte]
  refine ⟨rfl, smNext_callK (a := a) hX (by omega) rfl ?_⟩
  simp -implicitDefEqProofs only [go_sem, ↓reduceIte, hxe]
  refine hK _ ?_; clear hK
  have fin : ∀ (S : St) (Av : DV), Leads (mbound []) 184 S (smEnd Iv ds n (smallKind x) Av) → IsSl2 Atom.cells (smallRows x) Av → K1 S := by
    intro S Av hS hAv
    refine hK1 _ ?_; clear hK1
    exact bwp_leads hS (small_end (hQ Av hAv))
  refine bwp_seq fun K hK => bwp_region rfl ?_
  simp -implicitDefEqProofs only [go_sem, ↓reduceIte, tm3]
  refine hK _ ?_; clear hK
  have htk : ds.take n = ds := List.take_of_length_le (by omega)
  by_cases hz : x % 3 = 0
  · refine bwp_cond true (by simp [ev, fget, hz]) (fun _ => ?_) (fun h => nomatch h)
    have hwk : IntKind.i64.wrap (((x / 3 % 2 : Nat) : Int) + 1) = ((x / 3 % 2 + 1 : Nat) : Int) := by rw [wrap_i64 (by omega) (by omega)]; rfl
    have hw3 : IntKind.i64.wrap ((x / 3 : Nat) : Int) = ((x / 3 : Nat) : Int) := Go.Jq.wrap_small (by omega)
    refine bwp_region rfl ?_
    simp -implicitDefEqProofs only [go_sem, ↓reduceIte, td3, hw3, tm2, tm3, hwk, fd8, fd16, fd32, fd128, and1]
    refine fin _ (.sl 2 [.sl 1 (Atom.cells ⟨0, (x / 8 % 2 : Nat), 0, (x / 16 % 2 : Nat)⟩), .sl 2 (Atom.cells ⟨-1, 0, 120, (x / 32 % 3 : Nat)⟩ ++ Atom.cells ⟨1, 0, 0, (x / 128 % 2 : Nat)⟩)])
      (Leads.frz [(0, 0), (1, 1)] [(4, Atom.cells ⟨0, (x / 8 % 2 : Nat), 0, (x / 16 % 2 : Nat)⟩), (5, Atom.cells ⟨-1, 0, 120, (x / 32 % 3 : Nat)⟩ ++ Atom.cells ⟨1, 0, 0, (x / 128 % 2 : Nat)⟩),
        (6, [.sl 1 (Atom.cells ⟨0, (x / 8 % 2 : Nat), 0, (x / 16 % 2 : Nat)⟩), .sl 2 (Atom.cells ⟨-1, 0, 120, (x / 32 % 3 : Nat)⟩ ++ Atom.cells ⟨1, 0, 0, (x / 128 % 2 : Nat)⟩)])] ⟨?_, ?_, rfl, rfl, ?_⟩) ?_
    · simp [smEnd, frzT, fget, AV.cv, zget, pget]
    · simp [smEnd, frzM, pinv, zget, mget, cvL, AV.cv, smallKind, hz]
    · simp [zokFrom, zget, mget, cvL, AV.cv, Atom.cells]
    · simp only [smallRows, hz, if_true]
      refine ⟨[.sl 1 (Atom.cells ⟨0, (x / 8 % 2 : Nat), 0, (x / 16 % 2 : Nat)⟩), .sl 2 (Atom.cells ⟨-1, 0, 120, (x / 32 % 3 : Nat)⟩ ++ Atom.cells ⟨1, 0, 0, (x / 128 % 2 : Nat)⟩)], ⟨by simp, .inr ?_⟩, ?_⟩
      · rfl
      · exact ⟨⟨by simp, .inr rfl⟩, ⟨by simp, .inr rfl⟩, trivial⟩
  · refine bwp_cond false (by simp [ev, fget]; omega) (fun h => nomatch h) (fun _ => ?_)
    refine bwp_skip ?_
    refine fin _ .nsl (Leads.ent [(0, 0), (1, 1)] ⟨?_, ?_, rfl, rfl⟩) ?_
    · simp [smEnd, entT, fget, AV.ren, pget]
    · simp [smEnd, entM, pinv, mget, renL, AV.ren, smallKind, hz]
    · simp only [smallRows, hz, if_false]
      exact ⟨[], ⟨by decide, .inl ⟨rfl, rfl⟩⟩, trivial⟩
end Go.Proofs.YtpfbljkfbjjlkaaGreatDoor

/- The test made of numbers is a good one: plain Lean, no program in sight. -/
namespace Go.Proofs.YtpfbljkfbjjlkaaGreatDoor
open Go Go.Jq
def JumpOk (l : List Ins) : Prop := ∀ (i : Nat) (x : Ins), l[i]? = some x → x.kind = 6 → x.n = 1 ∧ i + 1 < l.length
theorem JumpOk.append {l l' : List Ins} (h : JumpOk l) (h' : JumpOk l') : JumpOk (l ++ l') := by
  intro i x hx hk
  rcases Nat.lt_or_ge i l.length with hi | hi
  · rw [List.getElem?_append_left hi] at hx
    have := h i x hx hk
    rw [List.length_append]; omega
  · rw [List.getElem?_append_right hi] at hx
    have := h' _ x hx hk
    rw [List.length_append]; omega
structure GoodThread (l : List Ins) : Prop where
  len : l.length ≤ 6
  ok : ∀ x ∈ l, okInsB x = true
  loc : ∀ x ∈ l, x.loc = 0 ∨ (120 ≤ x.loc ∧ x.loc ≤ 122)
  jump : JumpOk l
theorem smallVal_ok (x : Nat) : isOpB (smallVal x) = true := by
  unfold smallVal
  split
  · have : x / 1024 % 2 < 2 := Nat.mod_lt _ (by omega)
    have h1 : isRegB ((x / 1024 % 2 : Nat) : Int) = true := by
      generalize x / 1024 % 2 = q at this
      simp only [isRegB, Bool.and_eq_true, decide_eq_true_eq]; omega
    simp only [isOpB, h1, Bool.true_and, Bool.or_eq_true]
    exact .inr rfl
  · simp [isOpB]
theorem smallReg_ok (x : Nat) : isRegB (smallReg x : Nat) = true := by
  have : smallReg x < 2 := Nat.mod_lt _ (by omega)
  simp only [isRegB, Bool.and_eq_true, decide_eq_true_eq]
  omega
theorem smallLoc_ok {locs : Nat} (h0 : 0 < locs) (h3 : locs ≤ 3) (x : Nat) : 120 ≤ smallLoc locs x ∧ smallLoc locs x ≤ 122 := by
  have : x / 16 % locs < locs := Nat.mod_lt _ h0
  unfold smallLoc
  omega
theorem smallIns_ok {locs : Nat} (h0 : 0 < locs) (h3 : locs ≤ 3) (x : Nat) : (∀ i ∈ smallIns locs x, okInsB i = true ∧ (i.loc = 0 ∨ (120 ≤ i.loc ∧ i.loc ≤ 122))) ∧ JumpOk (smallIns locs x) := by
  have hv := smallVal_ok x
  have hr := smallReg_ok x
  have hl := smallLoc_ok h0 h3 x
  have hlB : isLocB (smallLoc locs x : Nat) = true := (isLocB_iff _).2 (by omega)
  have hlI : (120 : Int) ≤ (smallLoc locs x : Nat) ∧ ((smallLoc locs x : Nat) : Int) ≤ 122 := by omega
  unfold smallIns
  generalize smallLoc locs x = L at *
  generalize smallReg x = R at *
  generalize smallVal x = V at *
  have hop1 : isOpB ⟨-1, 1⟩ = true := rfl
  have hop0 : isOpB ⟨-1, 0⟩ = true := rfl
  have hop2 : isOpB ⟨-1, 2⟩ = true := rfl
  have one : ∀ y : Ins, y.kind ≠ 6 → JumpOk [y] := by
    intro y hy i x hx hk
    cases i with
    | zero => simp at hx; subst hx; exact absurd hk hy
    | succ i => simp at hx
  split
  · refine ⟨?_, one _ (by simp)⟩
    intro i hi
    simp only [List.mem_singleton] at hi
    subst hi
    exact ⟨by simp [okInsB, eqIns, hlB, hv], .inr hlI⟩
  · split
    · refine ⟨?_, one _ (by simp)⟩
      intro i hi
      simp only [List.mem_singleton] at hi
      subst hi
      exact ⟨by simp [okInsB, eqIns, hlB, hr], .inr hlI⟩
    · split
      · refine ⟨?_, one _ (by simp)⟩
        intro i hi
        simp only [List.mem_singleton] at hi
        subst hi
        exact ⟨by decide, .inl rfl⟩
      · split
        · refine ⟨?_, one _ (by simp)⟩
          intro i hi
          simp only [List.mem_singleton] at hi
          subst hi
          exact ⟨by simp [okInsB, eqIns, hlB, hr, hv, hop1], .inr hlI⟩
        · split
          · refine ⟨?_, one _ (by simp)⟩
            intro i hi
            simp only [List.mem_singleton] at hi
            subst hi
            exact ⟨by simp [okInsB, eqIns, hr, hv, hop1], .inl rfl⟩
          · refine ⟨?_, ?_⟩
            · intro i hi
              simp only [List.mem_cons, List.not_mem_nil, or_false] at hi
              rcases hi with rfl | rfl
              · exact ⟨by simp [okInsB, eqIns, hv, hop0], .inl rfl⟩
              · exact ⟨by simp [okInsB, eqIns, hlB, hop2], .inr hlI⟩
            · intro i x hx hk
              match i with
              | 0 => simp at hx; subst hx; exact ⟨rfl, by simp⟩
              | 1 => simp at hx; subst hx; simp at hk
              | i + 2 => simp at hx
theorem smallThread_ok (ls : List Int) {locs : Nat} (h0 : 0 < locs) (h3 : locs ≤ 3) (most : Nat) : ∀ (k a mem : Nat) (s : List Ins), (∀ i ∈ s, okInsB i = true ∧ (i.loc = 0 ∨ (120 ≤ i.loc ∧ i.loc ≤ 122))) → JumpOk s →
    (∀ i ∈ (smallThread ls locs most k a mem s).2.2, okInsB i = true ∧ (i.loc = 0 ∨ (120 ≤ i.loc ∧ i.loc ≤ 122))) ∧ JumpOk (smallThread ls locs most k a mem s).2.2
  | 0, a, mem, s, h, hj => ⟨h, hj⟩
  | k + 1, a, mem, s, h, hj => by
    simp only [smallThread]
    split
    · have hi := smallIns_ok h0 h3 (nxN ls a)
      refine smallThread_ok ls h0 h3 most k _ _ _ ?_ (hj.append hi.2)
      intro i him
      rcases List.mem_append.1 him with him | him
      · exact h i him
      · exact hi.1 i him
    · exact ⟨h, hj⟩
theorem smallThreads_ok (ls : List Int) {locs : Nat} (h0 : 0 < locs) (h3 : locs ≤ 3) (most : Nat) : ∀ (n a mem : Nat) (ts : List (List Ins)), (∀ l ∈ ts, GoodThread l) → ∀ l ∈ (smallThreads ls locs most n a mem ts).2, GoodThread l
  | 0, a, mem, ts, h => h
  | n + 1, a, mem, ts, h => by
    simp only [smallThreads]
    refine smallThreads_ok ls h0 h3 most n _ _ _ ?_
    intro l hl
    rw [List.mem_append] at hl
    rcases hl with hl | hl
    · exact h l hl
    · simp only [List.mem_singleton] at hl
      subst hl
      have hb := smallThread_bounds ls locs most (nxN ls a % 3 + 1) (a + 1) mem []
      have hk := smallThread_ok ls h0 h3 most (nxN ls a % 3 + 1) (a + 1) mem [] (by simp) (fun i x hx => by simp at hx)
      simp only [List.length_nil] at hb
      exact ⟨by omega, fun x hx => (hk.1 x hx).1, fun x hx => (hk.1 x hx).2, hk.2⟩
theorem small_good (ls : List Int) (most : Nat) : ∀ l ∈ (small ls most).threads, GoodThread l := by
  simp only [small, smallTs]
  exact smallThreads_ok ls (by unfold smallLocs; omega) (by unfold smallLocs; omega) most _ _ _ [] (by simp)
structure GoodTest (t : Test) : Prop where
  name : isWordB t.name = true
  short : t.name.length ≤ 20
  threads : ∀ l ∈ t.threads, GoodThread l
  inits : ∀ x ∈ t.inits, x.loc = 120
  once : t.inits.length ≤ 1
  cond : okCondB t.kind t.rows = true
  rows : t.rows.length ≤ 8
  row : ∀ l ∈ t.rows, l.length ≤ 8
  rloc : ∀ l ∈ t.rows, ∀ a ∈ l, a.loc = 0 ∨ a.loc = 120
theorem GoodTest.ok {t : Test} (h : GoodTest t) : okB t = true := by
  have h1 : badInitB t.inits = false := by
    unfold badInitB
    rw [List.any_eq_false]
    intro x hx
    rw [h.inits x hx]
    decide
  have h2 : t.threads.any badThreadB = false := by
    rw [List.any_eq_false]
    intro l hl
    unfold badThreadB
    rw [Bool.not_eq_true, List.any_eq_false]
    intro x hx
    rw [(h.threads l hl).ok x hx]
    decide
  simp [okB, h.name, h1, h2, h.cond]
theorem small_goodTest (ls : List Int) (most : Nat) : GoodTest (small ls most) := by
  refine ⟨by show isWordB [116] = true; decide +kernel, by simp [small], small_good ls most, ?_, ?_, ?_, ?_, ?_, ?_⟩
  · intro x hx
    simp only [small, smallInits] at hx
    split at hx
    · simp only [List.mem_singleton] at hx; subst hx; rfl
    · simp at hx
  · simp only [small, smallInits]; split <;> simp
  · simp only [small]
    generalize smallC ls most = x
    unfold okCondB smallKind smallRows
    by_cases hz : x % 3 = 0
    · have h2 : x / 3 % 2 < 2 := Nat.mod_lt _ (by omega)
      have h8 : x / 8 % 2 < 2 := Nat.mod_lt _ (by omega)
      have hk : ((x / 3 % 2 + 1 : Nat) : Int) = 1 ∨ ((x / 3 % 2 + 1 : Nat) : Int) = 2 := by omega
      have hr8 : isRegB ((x / 8 % 2 : Nat) : Int) = true := by simp only [isRegB, Bool.and_eq_true, decide_eq_true_eq]; omega
      have hr0 : isRegB 0 = true := rfl
      have hl : isLocB 120 = true := rfl
      simp only [hz, if_true]
      generalize ((x / 3 % 2 + 1 : Nat) : Int) = kd at hk
      generalize ((x / 8 % 2 : Nat) : Int) = r8 at hr8
      rcases hk with rfl | rfl
      · simp [badRowB, okAtomB, hr8, hr0, hl]
      · simp [badRowB, okAtomB, hr8, hr0, hl]
    · simp [hz]
  · simp only [small, smallRows]; split <;> simp
  · intro l hl
    simp only [small, smallRows] at hl
    split at hl
    · simp only [List.mem_cons, List.not_mem_nil, or_false] at hl
      rcases hl with rfl | rfl <;> simp
    · simp at hl
  · intro l hl a ha
    simp only [small, smallRows] at hl
    split at hl
    · simp only [List.mem_cons, List.not_mem_nil, or_false] at hl
      rcases hl with rfl | rfl
      · simp only [List.mem_singleton] at ha; subst ha; exact .inl rfl
      · simp only [List.mem_cons, List.not_mem_nil, or_false] at ha
        rcases ha with rfl | rfl
        · exact .inr rfl
        · exact .inl rfl
    · simp at hl
end Go.Proofs.YtpfbljkfbjjlkaaGreatDoor

/- The test made of numbers has a short text. -/
namespace Go.Proofs.YtpfbljkfbjjlkaaGreatDoor
open Go Go.Jq
theorem smallIns_i64 {locs x : Nat} (hl : locs ≤ 3) (h0 : 0 < locs) : ∀ i ∈ smallIns locs x, I64i i := by
  have hv : I64 (smallVal x).reg ∧ I64 (smallVal x).value := by
    unfold smallVal
    split
    · have := Nat.mod_lt (x / 1024) (by omega : 0 < 2)
      simp only [I64]
      omega
    · have := Nat.mod_lt (x / 64) (by omega : 0 < 3)
      simp only [I64]
      omega
  have hr : I64 (smallReg x : Nat) := by
    have : smallReg x < 2 := Nat.mod_lt _ (by omega)
    simp only [I64]
    omega
  have z : I64 0 := by simp [I64]
  have o : I64 1 := by simp [I64]
  have w : I64 2 := by simp [I64]
  have mo : I64 (-1) := by simp [I64]
  intro i hi
  unfold smallIns at hi
  repeat' split at hi
  all_goals simp only [List.mem_cons, List.not_mem_nil, or_false] at hi
  · subst hi; exact ⟨z, hv.1, hv.2, z, z, z⟩
  · subst hi; exact ⟨hr, z, z, z, z, z⟩
  · subst hi; exact ⟨z, z, z, z, z, z⟩
  · subst hi; exact ⟨hr, hv.1, hv.2, mo, o, z⟩
  · subst hi; exact ⟨hr, hv.1, hv.2, mo, o, z⟩
  · rcases hi with rfl | rfl
    · exact ⟨z, hv.1, hv.2, mo, z, o⟩
    · exact ⟨z, mo, w, z, z, z⟩
theorem smallThread_i64 (ls : List Int) {locs : Nat} (h0 : 0 < locs) (h3 : locs ≤ 3) (most : Nat) : ∀ (k a mem : Nat) (s : List Ins), (∀ i ∈ s, I64i i) → ∀ i ∈ (smallThread ls locs most k a mem s).2.2, I64i i
  | 0, a, mem, s, h => h
  | k + 1, a, mem, s, h => by
    simp only [smallThread]
    split
    · refine smallThread_i64 ls h0 h3 most k _ _ _ ?_
      intro i him
      rcases List.mem_append.1 him with him | him
      · exact h i him
      · exact smallIns_i64 h3 h0 i him
    · exact h
theorem smallThreads_i64 (ls : List Int) {locs : Nat} (h0 : 0 < locs) (h3 : locs ≤ 3) (most : Nat) : ∀ (n a mem : Nat) (ts : List (List Ins)), (∀ l ∈ ts, ∀ i ∈ l, I64i i) → ∀ l ∈ (smallThreads ls locs most n a mem ts).2, ∀ i ∈ l, I64i i
  | 0, a, mem, ts, h => h
  | n + 1, a, mem, ts, h => by
    simp only [smallThreads]
    refine smallThreads_i64 ls h0 h3 most n _ _ _ ?_
    intro l hl
    rw [List.mem_append] at hl
    rcases hl with hl | hl
    · exact h l hl
    · simp only [List.mem_singleton] at hl
      subst hl
      exact smallThread_i64 ls h0 h3 most _ _ _ [] (by simp)
theorem smallThreads_len (ls : List Int) (locs most : Nat) : ∀ (n a mem : Nat) (ts : List (List Ins)), (smallThreads ls locs most n a mem ts).2.length = ts.length + n
  | 0, a, mem, ts => rfl
  | n + 1, a, mem, ts => by
    simp only [smallThreads]
    rw [smallThreads_len, List.length_append, List.length_singleton]
    omega
theorem small_len (ls : List Int) (most : Nat) : (small ls most).threads.length = smallN ls := by
  simp only [small, smallTs]
  rw [smallThreads_len]
  simp
theorem smallN_le (ls : List Int) : smallN ls ≤ 3 := by unfold smallN; omega
theorem small_few (ls : List Int) (most : Nat) : FewT (small ls most) := by
  have hg := small_goodTest ls most
  refine ⟨by simp [small], Nat.le_trans hg.once (by omega), ?_, by rw [small_len]; have := smallN_le ls; omega, fun l hl => ⟨by have := (hg.threads l hl).len; omega, ?_⟩, by have := hg.rows; omega, fun l hl => ⟨by have := hg.row l hl; omega, ?_⟩⟩
  · intro x hx
    simp only [small, smallInits] at hx
    split at hx
    · simp only [List.mem_singleton] at hx
      subst hx
      have := Nat.mod_lt (nxN ls 3) (by omega : 0 < 3)
      simp only [I64]
      omega
    · simp at hx
  · simp only [small, smallTs] at hl
    exact smallThreads_i64 ls (by unfold smallLocs; omega) (by unfold smallLocs; omega) most _ _ _ [] (by simp) l hl
  · simp only [small] at hl
    generalize smallC ls most = x at hl
    unfold smallRows at hl
    have b1 := Nat.mod_lt (x / 8) (by omega : 0 < 2)
    have b2 := Nat.mod_lt (x / 16) (by omega : 0 < 2)
    have b3 := Nat.mod_lt (x / 32) (by omega : 0 < 3)
    have b4 := Nat.mod_lt (x / 128) (by omega : 0 < 2)
    intro a ha
    split at hl
    · simp only [List.mem_cons, List.not_mem_nil, or_false] at hl
      rcases hl with rfl | rfl
      · simp only [List.mem_singleton] at ha; subst ha; simp only [I64a, I64]; omega
      · simp only [List.mem_cons, List.not_mem_nil, or_false] at ha
        rcases ha with rfl | rfl
        · simp only [I64a, I64]; omega
        · simp only [I64a, I64]; omega
    · simp at hl
end Go.Proofs.YtpfbljkfbjjlkaaGreatDoor

/- A test's text: what stands where. -/
namespace Go.Proofs.YtpfbljkfbjjlkaaGreatDoor
open Go Go.Jq
end Go.Proofs.YtpfbljkfbjjlkaaGreatDoor

/- A printed test's words are read as it is. -/
namespace Go.Proofs.YtpfbljkfbjjlkaaGreatDoor
open Go Go.Jq
set_option maxRecDepth 100000
set_option linter.unusedSimpArgs false
end Go.Proofs.YtpfbljkfbjjlkaaGreatDoor

/- A text of words with blanks between them is read as its words. -/
namespace Go.Proofs.YtpfbljkfbjjlkaaGreatDoor
open Go Go.Jq
set_option maxRecDepth 100000
set_option linter.unusedSimpArgs false
end Go.Proofs.YtpfbljkfbjjlkaaGreatDoor

/- A printed test's text as words and blanks; with more blanks it is read as it was. -/
namespace Go.Proofs.YtpfbljkfbjjlkaaGreatDoor
open Go Go.Jq
set_option maxRecDepth 100000
set_option linter.unusedSimpArgs false
end Go.Proofs.YtpfbljkfbjjlkaaGreatDoor

/- A test that a text parses to may be: its words are words, its numbers numbers. -/
namespace Go.Proofs.YtpfbljkfbjjlkaaGreatDoor
open Go Go.Jq
set_option maxRecDepth 100000
set_option linter.unusedSimpArgs false
end Go.Proofs.YtpfbljkfbjjlkaaGreatDoor

/- Which parts of a test may be, told without a heap: words, locations, registers, operands. -/
namespace Go.Proofs.YtpfbljkfbjjlkaaGreatDoor
open Go Go.Jq
set_option maxRecDepth 100000
set_option linter.unusedSimpArgs false
end Go.Proofs.YtpfbljkfbjjlkaaGreatDoor

/- Which instructions may be, told without a heap. -/
namespace Go.Proofs.YtpfbljkfbjjlkaaGreatDoor
open Go Go.Jq
set_option maxRecDepth 100000
set_option linter.unusedSimpArgs false
end Go.Proofs.YtpfbljkfbjjlkaaGreatDoor

/- Which tests may be, told without a heap. -/
namespace Go.Proofs.YtpfbljkfbjjlkaaGreatDoor
open Go Go.Jq
set_option maxRecDepth 100000
set_option linter.unusedSimpArgs false
end Go.Proofs.YtpfbljkfbjjlkaaGreatDoor

/- A test's locations as the program tells them, without a heap: a bit each. -/
namespace Go.Proofs.YtpfbljkfbjjlkaaGreatDoor
open Go Go.Jq
set_option maxRecDepth 100000
set_option linter.unusedSimpArgs false
end Go.Proofs.YtpfbljkfbjjlkaaGreatDoor

/- What the test made of numbers comes to, told without a heap: the whole. -/
namespace Go.Proofs.YtpfbljkfbjjlkaaGreatDoor
open Go Go.Jq
set_option maxRecDepth 100000
set_option linter.unusedSimpArgs false
set_option maxHeartbeats 4000000 in
theorem small_calls {ls : List Int} {X : DV} (hX : IsInts ls X) {most : Nat} (hmost : most ≤ 1000) :
    ACalls Tryz.prog 8 [.d X, .d (.int .i64 most)] [] fun r m' => (∃ cs, r = .agg (cs.map .d) ∧ IsTest (small ls most) cs) ∧ m' = [] := by
  refine acalls_of Tryz.func8 ac8_ok Tryz.ntmps8 Tryz.results8 rfl ?_
  unfold ac8
  refine bwp_seq fun K hK => bwp_region rfl ?_
  simp -implicitDefEqProofs only [go_sem, ↓reduceIte]
  refine hK _ ?_; clear hK
  refine bwp_seq fun K hK => bwp_region rfl ?_
  simp -implicitDefEqProofs only [go_sem, ↓reduceIte]
  refine hK _ ?_; clear hK
  refine bwp_seq fun K hK => bwp_region rfl ?_
  simp -implicitDefEqProofs only [go_sem, ↓reduceIte]
  refine hK _ ?_; clear hK
  refine bwp_seq fun K hK => bwp_region rfl ?_
  simp -implicitDefEqProofs only [go_sem, ↓reduceIte]
  refine hK _ ?_; clear hK
  refine bwp_leads (Leads.frz (S' := ⟨[(1, .d (.int .i64 most)), (4, .ptr 0 0), (5, .ptr 1 0), (7, .fn 26 [.ptr 2 0, .dptr [X]])],
    [(0, [.d (.str []), .d .nsl, .d .nsl, .d (.int .i64 0), .d .nsl]), (1, [.d (.str [116]), .d .nsl, .d .nsl, .d (.int .i64 0), .d .nsl]), (2, [.d (.int .i64 (0 : Nat))])], 3⟩) [(1, 0), (2, 1), (3, 2)] [(0, [X])] ⟨?_, ?_, rfl, rfl, ?_⟩) ?_
  · simp [frzT, fget, AV.cv, cvL, zget, pget]
  · simp [frzM, pinv, zget, mget, cvL, AV.cv]
  · simp [zokFrom, mget, cvL, AV.cv]
  have hw2 : ∀ q : Nat, q ≤ 10 → IntKind.i64.wrap ((q : Int) + 2) = ((q + 2 : Nat) : Int) := fun q hq => by rw [wrap_i64 (by omega) (by omega)]; rfl
  have hn : smallN ls ≤ 3 := by unfold smallN; omega
  have hl : smallLocs ls ≤ 10 := by unfold smallLocs; omega
  have hl0 : 0 < smallLocs ls := by unfold smallLocs; omega
  refine bwp_seq fun K hK => bwp_region rfl ?_
  simp -implicitDefEqProofs only [go_sem, ↓reduceIte]
  refine ⟨rfl, smNext_callK (a := 0) hX (by omega) rfl ?_⟩
  simp -implicitDefEqProofs only [go_sem, ↓reduceIte, tm2, hw2 (nxN ls 0 % 2) (by omega)]
  refine hK _ ?_; clear hK
  refine bwp_seq fun K hK => bwp_region rfl ?_
  simp -implicitDefEqProofs only [go_sem, ↓reduceIte]
  refine ⟨rfl, smNext_callK (a := 1) hX (by omega) rfl ?_⟩
  simp -implicitDefEqProofs only [go_sem, ↓reduceIte, tm2, hw2 (nxN ls 1 % 2) (by omega)]
  refine hK _ ?_; clear hK
  refine bwp_seq fun K1 hK1 => ?_
  refine bwp_seq fun K hK => bwp_region rfl ?_
  simp -implicitDefEqProofs only [go_sem, ↓reduceIte]
  refine ⟨rfl, smNext_callK (a := 2) hX (by omega) rfl ?_⟩
  simp -implicitDefEqProofs only [go_sem, ↓reduceIte, tm4]
  refine hK _ ?_; clear hK
  have mid : ∀ (S : St) (Iv : DV), Leads (mbound []) 184 S ⟨[(1, .d (.int .i64 most)), (4, .ptr 0 0), (5, .ptr 1 0), (7, .fn 26 [.ptr 2 0, .dptr [X]]), (8, .d (.int .i64 (smallN ls))), (9, .d (.int .i64 (smallLocs ls)))],
      [(0, [.d (.str []), .d .nsl, .d .nsl, .d (.int .i64 0), .d .nsl]), (1, [.d (.str [116]), .d Iv, .d .nsl, .d (.int .i64 0), .d .nsl]), (2, [.d (.int .i64 (smallAt ls))])], 3⟩ → IsSl Init.cells (smallInits ls) Iv → K1 S := by
    intro S Iv hS hIv
    refine hK1 _ ?_; clear hK1
    refine bwp_leads hS ?_
    refine bwp_leads (Leads.nilCell 1 2 1 rfl rfl rfl rfl) ?_
    refine bwp_seq fun K hK => bwp_region rfl ?_
    simp -implicitDefEqProofs only [go_sem, ↓reduceIte]
    refine hK _ ?_; clear hK
    refine bwp_seq fun K1 hK1 => ?_
    refine bwp_seq fun K2 hK2 => ?_
    refine bwp_region rfl ?_
    simp -implicitDefEqProofs only [go_sem, ↓reduceIte]
    refine hK2 _ ?_; clear hK2
    refine bwp_block ?_
    refine bwp_leads (S' := smO X Iv [] (smallN ls) (smallLocs ls) most 0 (smallAt ls) 0) (Leads.ent [(0, 0), (1, 1), (2, 2), (3, 3)] ⟨?_, ?_, rfl, rfl⟩) ?_
    · simp [smO, entT, fget, AV.ren, renL, pget]
    · simp [smO, entM, pinv, mget, mset, renL, AV.ren, pget]
    refine small_threads hX hn hl0 hl hmost (by unfold smallAt; split <;> omega) ?_
    intro ds hds hdl hat mem
    simp -implicitDefEqProofs only [go_sem, ↓reduceIte]
    refine hK1 _ ?_; clear hK1
    have hts : smallThreads ls (smallLocs ls) most (smallN ls) (smallAt ls) 0 [] = smallTs ls most := rfl
    rw [hts] at hds hat ⊢
    have htk : ds.take (smallN ls) = ds := List.take_of_length_le (by omega)
    refine bwp_leads (S' := smL X Iv ds (smallN ls) (smallTs ls most).1) (Leads.frz [(0, 0), (1, 1), (2, 2)] [(3, ds)] ⟨?_, ?_, rfl, rfl, ?_⟩) ?_
    · simp [smL, smO, frzT, fget, AV.cv, cvL, zget, pget]
    · simp [smL, smO, frzM, pinv, zget, mget, cvL, AV.cv, htk]
    · simp [smO, zokFrom, mget, cvL_d]
    refine small_tail (x := smallC ls most) hX (by omega) rfl hdl ?_
    intro Av hAv
    have hc : ∀ l : List DV, (AV.agg (l.map .d)).ren (pget []) = .agg (l.map .d) := fun l => by simp [AV.ren]
    exact ⟨⟨[.str [116], Iv, .sl (smallN ls) ds, .int .i64 (smallKind (smallC ls most)), Av], rfl, Iv, .sl (smallN ls) ds, Av, rfl, hIv, ⟨ds, ⟨by omega, .inr (by simp [hdl])⟩, hds⟩, hAv⟩, rfl⟩
  by_cases hz : nxN ls 2 % 4 = 0
  · refine bwp_cond true (by simp [ev, fget, hz]) (fun _ => ?_) (fun h => nomatch h)
    refine bwp_region_draw rfl rfl ?_
    simp -implicitDefEqProofs only [go_sem, ↓reduceIte]
    refine ⟨rfl, smNext_dCallK (a := 3) hX (by omega) rfl ?_⟩
    simp -implicitDefEqProofs only [go_sem, ↓reduceIte, tm3]
    refine ⟨rfl, mid _ (.sl 1 [.int .i64 120, .int .i64 (nxN ls 3 % 3 : Nat)]) (Leads.frz [(0, 0), (1, 1), (2, 2)] [(13, [.int .i64 120, .int .i64 (nxN ls 3 % 3 : Nat)])] ⟨?_, ?_, rfl, rfl, ?_⟩) ?_⟩
    · simp [frzT, fget, AV.cv, cvL, zget, pget, smallN, smallLocs]
    · simp [frzM, pinv, zget, mget, cvL, AV.cv, smallAt, hz]
    · simp [zokFrom, mget, cvL, AV.cv]
    · simp [smallInits, hz, IsSl, Init.cells]
  · refine bwp_cond false (by simp [ev, fget]; omega) (fun h => nomatch h) (fun _ => ?_)
    refine bwp_skip ?_
    refine mid _ .nsl (Leads.ent [(0, 0), (1, 1), (2, 2)] ⟨?_, ?_, rfl, rfl⟩) ?_
    · simp [entT, fget, AV.ren, renL, pget, smallN, smallLocs]
    · simp [entM, pinv, mget, renL, AV.ren, smallAt, hz]
    · simp [smallInits, hz, IsSl]
end Go.Proofs.YtpfbljkfbjjlkaaGreatDoor

/- Which locations a test names, told without a heap. -/
namespace Go.Proofs.YtpfbljkfbjjlkaaGreatDoor
open Go Go.Jq
set_option maxRecDepth 100000
set_option linter.unusedSimpArgs false
end Go.Proofs.YtpfbljkfbjjlkaaGreatDoor

/- A test's locations as the program lists them, without a heap. -/
namespace Go.Proofs.YtpfbljkfbjjlkaaGreatDoor
open Go Go.Jq
set_option maxRecDepth 100000
set_option linter.unusedSimpArgs false
end Go.Proofs.YtpfbljkfbjjlkaaGreatDoor

/- Whether a test is too big, begins a location twice, jumps too far: without a heap. -/
namespace Go.Proofs.YtpfbljkfbjjlkaaGreatDoor
open Go Go.Jq
set_option maxRecDepth 100000
set_option linter.unusedSimpArgs false
end Go.Proofs.YtpfbljkfbjjlkaaGreatDoor

/- Whether a test begins a location twice, jumps too far, is small enough: without a heap. -/
namespace Go.Proofs.YtpfbljkfbjjlkaaGreatDoor
open Go Go.Jq
set_option maxRecDepth 100000
set_option linter.unusedSimpArgs false
end Go.Proofs.YtpfbljkfbjjlkaaGreatDoor

/- Whether a test is small enough, without a heap. -/
namespace Go.Proofs.YtpfbljkfbjjlkaaGreatDoor
open Go Go.Jq
set_option maxRecDepth 100000
set_option linter.unusedSimpArgs false
end Go.Proofs.YtpfbljkfbjjlkaaGreatDoor

/- A parser's error has a code that is not nought. -/
namespace Go.Proofs.YtpfbljkfbjjlkaaGreatDoor
open Go Go.Jq
set_option maxRecDepth 100000
set_option linter.unusedSimpArgs false
end Go.Proofs.YtpfbljkfbjjlkaaGreatDoor

/- A text's test that is small enough. -/
namespace Go.Proofs.YtpfbljkfbjjlkaaGreatDoor
open Go Go.Jq
set_option maxRecDepth 100000
set_option linter.unusedSimpArgs false
end Go.Proofs.YtpfbljkfbjjlkaaGreatDoor

/- The test made of numbers is small enough: plain Lean, no program in sight. -/
namespace Go.Proofs.YtpfbljkfbjjlkaaGreatDoor
open Go Go.Jq
end Go.Proofs.YtpfbljkfbjjlkaaGreatDoor

/- How long a test's text may be, when its rows are as long as memory lets them be. -/
namespace Go.Proofs.YtpfbljkfbjjlkaaGreatDoor
open Go Go.Jq
set_option maxRecDepth 100000
set_option linter.unusedSimpArgs false
def FewC2 (rows : List (List Atom)) : Prop := rows.length ≤ 12 ∧ ∀ l ∈ rows, l.length ≤ 5000000000000 ∧ ∀ a ∈ l, I64a a
theorem FewC.two {rows : List (List Atom)} (h : FewC rows) : FewC2 rows := ⟨h.1, fun l hl => ⟨by have := (h.2 l hl).1; omega, (h.2 l hl).2⟩⟩
structure FewT2 (t : Test) : Prop where
  name : t.name.length ≤ 61
  inits : t.inits.length ≤ 41
  values : ∀ x ∈ t.inits, I64 x.value
  threads : t.threads.length ≤ 7
  ins : ∀ l ∈ t.threads, l.length ≤ 5000000000000 ∧ ∀ x ∈ l, I64i x
  rows : FewC2 t.rows
theorem FewT.two {t : Test} (h : FewT t) : FewT2 t := ⟨h.name, h.inits, h.values, h.threads, fun l hl => ⟨by have := (h.ins l hl).1; omega, (h.ins l hl).2⟩, h.rows.two⟩
theorem rowT_len2 {l : List Atom} (h : l.length ≤ 5000000000000 ∧ ∀ a ∈ l, I64a a) : (rowT l).length ≤ 350000000000000 := by
  have := join_len [32, 38, 32] (l.map atomT) 67 (fun s hs => by
    obtain ⟨a, ha, rfl⟩ := List.mem_map.1 hs
    exact atomT_len (h.2 a ha))
  rw [List.length_map] at this
  have h2 : l.length * 70 ≤ 5000000000000 * 70 := Nat.mul_le_mul_right _ h.1
  unfold rowT
  exact Nat.le_trans this h2
theorem rowsT_len2 {rows : List (List Atom)} (h : FewC2 rows) : (Lib.join (rows.map rowT) [32, 124, 32]).length ≤ 4200000000000036 := by
  have := join_len [32, 124, 32] (rows.map rowT) 350000000000000 (fun s hs => by
    obtain ⟨a, ha, rfl⟩ := List.mem_map.1 hs
    exact rowT_len2 (h.2 a ha))
  rw [List.length_map] at this
  have h2 : rows.length * 350000000000003 ≤ 12 * 350000000000003 := Nat.mul_le_mul_right _ h.1
  exact Nat.le_trans this h2
theorem condT_len2 {kind : Int} {rows : List (List Atom)} (h : FewC2 rows) : (condT kind rows).length ≤ 4200000000000045 := by
  have := rowsT_len2 h
  unfold condT wordT
  split
  · simp
  · split <;> simp <;> omega
theorem threadL_len2 {l : List Ins} (h : l.length ≤ 5000000000000) (hv : ∀ x ∈ l, I64i x) : (threadL l).length ≤ 775000000000011 := by
  have h1 := flat_len insL 155 l (fun x hx => insL_len (hv x hx))
  have h2 : l.length * 155 ≤ 5000000000000 * 155 := Nat.mul_le_mul_right _ h
  simp only [threadL, List.length_append, List.length_cons, List.length_nil]
  omega
end Go.Proofs.YtpfbljkfbjjlkaaGreatDoor

/- The abstract layer: what a row hands a law, told as data, with bounds for its slices at every depth. -/
namespace Go.Jq
open Go
mutual
def Sh.bytes : Sh → Nat
  | .int k => k.bits / 8
  | .bool => 1
  | .str => 16
  | .sl _ => 24
def bytesL : List Sh → Nat
  | [] => 0
  | s :: ss => s.bytes + bytesL ss
end
mutual
def FitsZ : Sh → DV → Prop
  | .int k, d => ∃ n, d = .int k n ∧ (Lit.int k n).wf = true
  | .bool, d => ∃ b, d = .bool b
  | .str, d => ∃ s : List UInt8, d = .str s ∧ s.length ≤ reachBytes
  | .sl es, d => d = .nsl ∨ ∃ rows : List (List DV), d = .sl rows.length rows.flatten ∧ rows.length ≤ maxLen ∧ rows.length * bytesL es ≤ reachBytes ∧ ∀ r ∈ rows, FitsZL es r
def FitsZL : List Sh → List DV → Prop
  | [], ds => ds = []
  | s :: ss, ds => ∃ d r, ds = d :: r ∧ FitsZ s d ∧ FitsZL ss r
end
mutual
theorem FitsZ.fits : ∀ {s : Sh} {d : DV}, FitsZ s d → Fits s d
  | .int k, d, h => by simpa only [FitsZ, Fits] using h
  | .bool, d, h => by simpa only [FitsZ, Fits] using h
  | .str, d, h => by
    simp only [FitsZ] at h
    obtain ⟨s, rfl, hs⟩ := h
    simp only [Fits]
    exact ⟨s, rfl, Nat.le_trans hs (by decide)⟩
  | .sl es, d, h => by
    simp only [FitsZ] at h
    simp only [Fits]
    rcases h with h | ⟨rows, h1, h2, _, h3⟩
    · exact .inl h
    · exact .inr ⟨rows, h1, h2, fun r hr => FitsZL.fits (h3 r hr)⟩
theorem FitsZL.fits : ∀ {ss : List Sh} {ds : List DV}, FitsZL ss ds → FitsL ss ds
  | [], ds, h => by simpa only [FitsZL, FitsL] using h
  | s :: ss, ds, h => by
    simp only [FitsZL] at h
    obtain ⟨d, r, rfl, h1, h2⟩ := h
    simp only [FitsL]
    exact ⟨d, r, rfl, FitsZ.fits h1, FitsZL.fits h2⟩
end
section
variable {H : Type} {enc : TypeId × Value → H} {P : Program} {w : World} {base : Nat} {spare : Nat → Bool} {held : Bool} {I : Nat → Prop} (hI : ∀ b, b < w.heap.size → I b)
end
section
variable {H : Type} {enc : TypeId × Value → H} {P : Program} {w : World} {base : Nat} {spare : Nat → Bool} {held : Bool} {t : TypeId} {v : Value} {d : DataW H} {p : List MemPlace}
end
end Go.Jq

/- A row's test as data: its numbers within 64 bits, its lists as long as memory lets them be. -/
namespace Go.Proofs.YtpfbljkfbjjlkaaGreatDoor
open Go Go.Jq
set_option maxRecDepth 100000
set_option linter.unusedSimpArgs false
end Go.Proofs.YtpfbljkfbjjlkaaGreatDoor

/- Which parts of a test may be, by the document's answer, told without a heap. -/
namespace Go.Proofs.YtpfbljkfbjjlkaaGreatDoor
open Go Go.Jq
set_option maxRecDepth 100000
set_option linter.unusedSimpArgs false
theorem refLetter_pure (c : Int) : Pure Tryz.prog 114 [.d (.int .u8 c)] (.d (.bool (decide (97 ≤ c) && decide (c ≤ 122)))) := by
  refine acalls_of Tryz.func114 ac114_ok Tryz.ntmps114 Tryz.results114 rfl ?_
  unfold ac114
  refine bwp_seq fun K hK => bwp_region rfl ?_
  simp only [go_sem, ↓reduceIte]
  refine hK _ ?_; clear hK
  by_cases h : 97 ≤ c
  · refine bwp_seq fun K hK => bwp_region rfl ?_
    simp only [go_sem, ↓reduceIte, h]
    refine hK _ ?_; clear hK
    refine bwp_ret ?_
    simp only [go_sem]
    refine aend_ret _ rfl rfl ⟨?_, rfl⟩
    simp [fget, h]
  · refine bwp_seq fun K hK => bwp_region rfl ?_
    simp only [go_sem, ↓reduceIte, h]
    refine hK _ ?_; clear hK
    refine bwp_ret ?_
    simp only [go_sem]
    refine aend_ret _ rfl rfl ⟨?_, rfl⟩
    simp [fget, h]
theorem refDigit_pure (c : Int) : Pure Tryz.prog 115 [.d (.int .u8 c)] (.d (.bool (decide (48 ≤ c) && decide (c ≤ 57)))) := by
  refine acalls_of Tryz.func115 ac115_ok Tryz.ntmps115 Tryz.results115 rfl ?_
  unfold ac115
  refine bwp_seq fun K hK => bwp_region rfl ?_
  simp only [go_sem, ↓reduceIte]
  refine hK _ ?_; clear hK
  by_cases h : 48 ≤ c
  · refine bwp_seq fun K hK => bwp_region rfl ?_
    simp only [go_sem, ↓reduceIte, h]
    refine hK _ ?_; clear hK
    refine bwp_ret ?_
    simp only [go_sem]
    refine aend_ret _ rfl rfl ⟨?_, rfl⟩
    simp [fget, h]
  · refine bwp_seq fun K hK => bwp_region rfl ?_
    simp only [go_sem, ↓reduceIte, h]
    refine hK _ ?_; clear hK
    refine bwp_ret ?_
    simp only [go_sem]
    refine aend_ret _ rfl rfl ⟨?_, rfl⟩
    simp [fget, h]
theorem refNamed_pure (n : Int) : Pure Tryz.prog 80 [.d (.int .i64 n)] (.d (.bool (isLocB n))) := by
  refine acalls_of Tryz.func80 ac80_ok Tryz.ntmps80 Tryz.results80 rfl ?_
  unfold ac80
  refine bwp_seq fun K hK => bwp_region rfl ?_
  simp only [go_sem, ↓reduceIte]
  refine hK _ ?_; clear hK
  by_cases h : 97 ≤ n
  · refine bwp_seq fun K hK => bwp_region rfl ?_
    simp only [go_sem, ↓reduceIte, h]
    refine hK _ ?_; clear hK
    refine bwp_ret ?_
    simp only [go_sem]
    refine aend_ret _ rfl rfl ⟨?_, rfl⟩
    simp [fget, isLocB, h]
  · refine bwp_seq fun K hK => bwp_region rfl ?_
    simp only [go_sem, ↓reduceIte, h]
    refine hK _ ?_; clear hK
    refine bwp_ret ?_
    simp only [go_sem]
    refine aend_ret _ rfl rfl ⟨?_, rfl⟩
    simp [fget, isLocB, h]
theorem refOpd_pure (o : Opnd) : Pure Tryz.prog 116 [.agg (o.cells.map .d)] (.d (.bool (isOpB o))) := by
  refine acalls_of Tryz.func116 ac116_ok Tryz.ntmps116 Tryz.results116 rfl ?_
  unfold ac116
  refine bwp_seq fun K hK => bwp_region rfl ?_
  simp only [go_sem, ↓reduceIte, Opnd.cells]
  refine hK _ ?_; clear hK
  by_cases h : o.reg = -1
  · refine bwp_seq fun K hK => bwp_region rfl ?_
    simp only [go_sem, ↓reduceIte, h]
    refine hK _ ?_; clear hK
    refine bwp_ret ?_
    simp only [go_sem]
    refine aend_ret _ rfl rfl ⟨?_, rfl⟩
    simp [fget, isOpB, h]
  by_cases h2 : 0 ≤ o.reg
  case neg =>
    refine bwp_seq fun K hK => bwp_region rfl ?_
    simp only [go_sem, ↓reduceIte, h, h2]
    refine hK _ ?_; clear hK
    refine bwp_ret ?_
    simp only [go_sem]
    refine aend_ret _ rfl rfl ⟨?_, rfl⟩
    simp [fget, isOpB, isRegB, h, h2]
  by_cases h3 : o.reg ≤ 3
  case neg =>
    refine bwp_seq fun K hK => bwp_region rfl ?_
    simp only [go_sem, ↓reduceIte, h, h2, h3]
    refine hK _ ?_; clear hK
    refine bwp_ret ?_
    simp only [go_sem]
    refine aend_ret _ rfl rfl ⟨?_, rfl⟩
    have : ¬ o.reg < 4 := by omega
    simp [fget, isOpB, isRegB, h, h2, this]
  refine bwp_seq fun K hK => bwp_region rfl ?_
  simp only [go_sem, ↓reduceIte, h, h2, h3]
  refine hK _ ?_; clear hK
  refine bwp_ret ?_
  simp only [go_sem]
  refine aend_ret _ rfl rfl ⟨?_, rfl⟩
  have : o.reg < 4 := by omega
  simp [fget, isOpB, isRegB, h, h2, this]
theorem wordAt_eq (i : Nat) (c : UInt8) : (!(decide (97 ≤ (c.toNat : Int)) && decide ((c.toNat : Int) ≤ 122)) && !(decide (0 < i) && (decide (48 ≤ (c.toNat : Int)) && decide ((c.toNat : Int) ≤ 57)))) = !wordAt i c := by
  unfold wordAt
  have e1 : decide (97 ≤ (c.toNat : Int)) = decide (97 ≤ c.toNat) := by rw [decide_eq_decide]; omega
  have e2 : decide ((c.toNat : Int) ≤ 122) = decide (c.toNat ≤ 122) := by rw [decide_eq_decide]; omega
  have e3 : decide (48 ≤ (c.toNat : Int)) = decide (48 ≤ c.toNat) := by rw [decide_eq_decide]; omega
  have e4 : decide ((c.toNat : Int) ≤ 57) = decide (c.toNat ≤ 57) := by rw [decide_eq_decide]; omega
  have e5 : decide (0 < i) = decide (i ≠ 0) := by rw [decide_eq_decide]; omega
  rw [e1, e2, e3, e4, e5]
  cases decide (97 ≤ c.toNat) <;> cases decide (c.toNat ≤ 122) <;> cases decide (48 ≤ c.toNat) <;> cases decide (c.toNat ≤ 57) <;> cases decide (i ≠ 0) <;> rfl
def rwS (s : List UInt8) (i : Nat) : St := ⟨[(3, .d (.int .i64 i)), (0, .d (.str s)), (2, .d (.bool false))], [], 0⟩
theorem refWord_pure (s : List UInt8) (hs : s.length ≤ 9223372036854775807) : Pure Tryz.prog 78 [.d (.str s)] (.d (.bool (isWordB s))) := by
  refine acalls_of Tryz.func78 ac78_ok Tryz.ntmps78 Tryz.results78 rfl ?_
  unfold ac78
  refine bwp_seq fun K hK => bwp_region rfl ?_
  simp only [go_sem, ↓reduceIte]
  refine hK _ ?_; clear hK
  refine bwp_seq fun K1 hK1 => ?_
  refine bwp_seq fun K2 hK2 => ?_
  refine bwp_region rfl ?_
  simp only [go_sem, ↓reduceIte]
  refine hK2 _ ?_; clear hK2
  refine bwp_block ?_
  refine bwp_leads (S' := rwS s 0) (Leads.ent [] ⟨by simp [entT, fget, AV.ren, renL, pget, rwS], by simp [entM, pinv, mget, mset, renL, AV.ren, pget, renL_append, -List.map_map, rwS], rfl, rfl⟩) ?_
  refine bwp_countI (fun i => rwS s i) (fun i => ∀ j, j < i → wordAt j (s.getD j 0) = true) s.length (fun j h => by omega) ?_
  intro i hi hp
  unfold ac78L0 rwS
  refine bwp_seq fun K2 hK2 => ?_
  by_cases hlt : i < s.length
  · have hlt' : (i : Int) < s.length := by omega
    refine bwp_seq fun K hK => bwp_region rfl ?_
    simp only [go_sem, ↓reduceIte, hlt']
    refine hK _ ?_; clear hK
    refine bwp_cond true (by simp [ev, fget]) (fun _ => ?_) (fun h => nomatch h)
    refine bwp_skip ?_
    refine hK2 _ ?_; clear hK2
    refine bwp_seq fun K2 hK2 => ?_
    refine bwp_block ?_
    have hwe := wordAt_eq i (s.getD i 0)
    generalize hcd : s.getD i 0 = c at hwe
    refine bwp_seq fun K hK => bwp_region rfl ?_
    have fin : ∀ (t : Fr) (b : Bool), fget t 25 = .d (.bool b) → b = !wordAt i c → fget t 0 = .d (.str s) → fget t 2 = .d (.bool false) → fget t 3 = .d (.int .i64 i) → K ⟨t, [], 0⟩ := by
      intro t b h25 hb h0 h2 h3
      refine hK _ ?_; clear hK
      cases b
      · have hw : wordAt i c = true := by
          cases h : wordAt i c
          · rw [h] at hb; cases hb
          · rfl
        refine bwp_cond false (by simp [ev, fget, h25]) (fun h => nomatch h) (fun _ => ?_)
        refine bwp_skip ?_
        simp only [go_sem, ↓reduceIte]
        refine hK2 _ ?_; clear hK2
        have hwi : IntKind.i64.wrap ((i : Int) + 1) = ((i + 1 : Nat) : Int) := by rw [wrap_i64 (by omega) (by omega)]; rfl
        refine bwp_region rfl ?_
        simp only [go_sem, ↓reduceIte, h3, hwi]
        refine ⟨hlt, fun j hj => ?_, Leads.ent [] ⟨by simp [rwS, entT, fget, AV.ren, pget, h0, h2], by simp [rwS, entM], rfl, rfl⟩⟩
        by_cases hji : j = i
        · subst hji; rw [hcd]; exact hw
        · exact hp j (by omega)
      · have hw : wordAt i c = false := by
          cases h : wordAt i c
          · rfl
          · rw [h] at hb; cases hb
        refine bwp_cond true (by simp [ev, fget, h25]) (fun _ => ?_) (fun h => nomatch h)
        refine bwp_seq fun K hK => bwp_region rfl ?_
        simp only [go_sem, ↓reduceIte]
        refine hK _ ?_; clear hK
        refine bwp_ret ?_
        simp only [go_sem]
        refine aend_ret _ rfl rfl ⟨?_, rfl⟩
        simp [fget, isWord_at s hlt (by rw [hcd]; exact hw)]
    clear hK
    simp only [go_sem, ↓reduceIte, Int.natCast_nonneg, hlt', Int.toNat_natCast, hcd]
    refine callK_pure (refLetter_pure (c.toNat : Int)) rfl rfl ?_
    simp only [go_sem, ↓reduceIte]
    cases h1 : decide (97 ≤ (c.toNat : Int)) && decide ((c.toNat : Int) ≤ 122)
    · by_cases h2 : 0 < i
      · have h2' : (0 : Int) < (i : Int) := by omega
        simp only [go_sem, ↓reduceIte, h2', Int.natCast_nonneg, hlt', Int.toNat_natCast, hcd]
        refine callK_pure (refDigit_pure (c.toNat : Int)) rfl rfl ?_
        simp only [go_sem, ↓reduceIte]
        exact fin _ _ rfl (by rw [← hwe, h1]; simp [h2]) rfl rfl rfl
      · have h2' : ¬ (0 : Int) < (i : Int) := by omega
        simp only [go_sem, ↓reduceIte, h2']
        exact fin _ true rfl (by rw [← hwe, h1]; simp [h2]) rfl rfl rfl
    · simp only [go_sem, ↓reduceIte]
      exact fin _ false rfl (by rw [← hwe, h1]; simp) rfl rfl rfl
  · have hlt' : ¬ (i : Int) < s.length := by omega
    refine bwp_seq fun K hK => bwp_region rfl ?_
    simp only [go_sem, ↓reduceIte, hlt']
    refine hK _ ?_; clear hK
    refine bwp_cond false (by simp [ev, fget]) (fun h => nomatch h) (fun _ => ?_)
    refine bwp_exit ?_
    simp only [go_sem, ↓reduceIte]
    refine hK1 _ ?_; clear hK1
    have hall := isWord_all s fun j hj => hp j (by omega)
    refine bwp_seq fun K hK => bwp_region rfl ?_
    simp only [go_sem, ↓reduceIte]
    refine hK _ ?_; clear hK
    refine bwp_ret ?_
    simp only [go_sem]
    refine aend_ret _ rfl rfl ⟨?_, rfl⟩
    simp [fget, hall]
def refInsB (x : Ins) : Bool :=
  if x.kind = 1 then decide (x.reg = 0) && isLocB x.loc && isOpB x.a && decide (x.op = 0) && (decide (x.b.reg = 0) && (decide (x.b.value = 0) && true)) && decide (x.n = 0)
  else if x.kind = 2 then decide (0 ≤ x.reg) && decide (x.reg ≤ 3) && isLocB x.loc && (decide (x.a.reg = 0) && (decide (x.a.value = 0) && true)) && decide (x.op = 0) && (decide (x.b.reg = 0) && (decide (x.b.value = 0) && true)) && decide (x.n = 0)
  else if x.kind = 3 then eqIns x ⟨3, 0, 0, ⟨0, 0⟩, 0, ⟨0, 0⟩, 0⟩
  else if x.kind = 4 then decide (0 ≤ x.reg) && decide (x.reg ≤ 3) && isLocB x.loc && isOpB x.a && decide (x.op = 0) && isOpB x.b && decide (x.n = 0)
  else if x.kind = 5 then !(decide (x.op = 0) && !(decide (x.b.reg = -1) && (decide (x.b.value = 0) && true))) && (decide (0 ≤ x.reg) && decide (x.reg ≤ 3) && decide (x.loc = 0) && isOpB x.a && decide (0 ≤ x.op) && decide (x.op ≤ 11) && isOpB x.b && decide (x.n = 0))
  else if x.kind = 6 then decide (x.reg = 0) && decide (x.loc = 0) && isOpB x.a && decide (x.op = 0) && isOpB x.b && decide (0 ≤ x.n)
  else false
set_option maxHeartbeats 4000000 in
theorem refIns_pure (x : Ins) : Pure Tryz.prog 81 [.agg (x.cells.map .d)] (.d (.bool (refInsB x))) := by
  refine acalls_of Tryz.func81 ac81_ok Tryz.ntmps81 Tryz.results81 rfl ?_
  unfold ac81
  refine bwp_seq fun K hK => bwp_region rfl ?_
  simp only [go_sem, ↓reduceIte, Ins.cells]
  refine hK _ ?_; clear hK
  refine bwp_seq fun K hK => bwp_region rfl ?_
  simp only [go_sem, ↓reduceIte]
  refine hK _ ?_; clear hK
  refine bwp_seq fun K1 hK1 => ?_
  refine bwp_seq fun K hK => bwp_region rfl ?_
  simp only [go_sem, ↓reduceIte]
  refine hK _ ?_; clear hK
  refine bwp_block ?_
  refine bwp_seq fun K hK => bwp_region rfl ?_
  simp only [go_sem, ↓reduceIte]
  refine hK _ ?_; clear hK
  by_cases k1 : x.kind = 1
  case pos =>
    refine bwp_cond true (by simp [ev, fget, k1]) (fun _ => ?_) (fun h => nomatch h)
    refine bwp_seq fun K hK => bwp_region rfl ?_
    have fin : ∀ (t : Fr) (m : Mem) (n : Nat) (b : Bool), fget t 2 = .d (.bool b) → b = refInsB x → K ⟨t, m, n⟩ := by
      intro t m n b h2 hb
      refine hK _ ?_; clear hK
      refine bwp_ret ?_
      simp only [go_sem]
      exact aend_ret (.d (.bool b)) (by simp [resA, resVs, resV, h2]) rfl ⟨by rw [hb], rfl⟩
    clear hK
    simp only [go_sem, ↓reduceIte]
    repeat' (first
      | (refine gateK_split (fun hb => ?_) (fun hb => ?_) <;> simp only [go_sem, ↓reduceIte, hb])
      | (refine dGateK_split (fun hb => ?_) (fun hb => ?_) <;> simp only [go_sem, ↓reduceIte, hb])
      | (refine callK_pure (refNamed_pure x.loc) rfl rfl ?_; simp only [go_sem, ↓reduceIte])
      | (refine dCallK_pure (refNamed_pure x.loc) rfl rfl ?_; simp only [go_sem, ↓reduceIte])
      | (refine callK_pure (refOpd_pure x.a) rfl rfl ?_; simp only [go_sem, ↓reduceIte])
      | (refine dCallK_pure (refOpd_pure x.a) rfl rfl ?_; simp only [go_sem, ↓reduceIte])
      | (refine callK_pure (refOpd_pure x.b) rfl rfl ?_; simp only [go_sem, ↓reduceIte])
      | (refine dCallK_pure (refOpd_pure x.b) rfl rfl ?_; simp only [go_sem, ↓reduceIte])
      | (rw [if_pos (by (try simp only [List.length_append, List.length_cons, List.length_nil, List.length_map]); omega)]; simp only [go_sem, ↓reduceIte]))
    all_goals exact fin _ _ _ _ rfl (by clear fin hK1; simp_all [refInsB, eqIns] <;> (intros; omega))
  refine bwp_cond false (by simp [ev, fget, k1]) (fun h => nomatch h) (fun _ => ?_)
  refine bwp_seq fun K hK => bwp_region rfl ?_
  simp only [go_sem, ↓reduceIte]
  refine hK _ ?_; clear hK
  by_cases k2 : x.kind = 2
  case pos =>
    refine bwp_cond true (by simp [ev, fget, k2]) (fun _ => ?_) (fun h => nomatch h)
    refine bwp_seq fun K hK => bwp_region rfl ?_
    have fin : ∀ (t : Fr) (m : Mem) (n : Nat) (b : Bool), fget t 2 = .d (.bool b) → b = refInsB x → K ⟨t, m, n⟩ := by
      intro t m n b h2 hb
      refine hK _ ?_; clear hK
      refine bwp_ret ?_
      simp only [go_sem]
      exact aend_ret (.d (.bool b)) (by simp [resA, resVs, resV, h2]) rfl ⟨by rw [hb], rfl⟩
    clear hK
    simp only [go_sem, ↓reduceIte]
    repeat' (first
      | (refine gateK_split (fun hb => ?_) (fun hb => ?_) <;> simp only [go_sem, ↓reduceIte, hb])
      | (refine dGateK_split (fun hb => ?_) (fun hb => ?_) <;> simp only [go_sem, ↓reduceIte, hb])
      | (refine callK_pure (refNamed_pure x.loc) rfl rfl ?_; simp only [go_sem, ↓reduceIte])
      | (refine dCallK_pure (refNamed_pure x.loc) rfl rfl ?_; simp only [go_sem, ↓reduceIte])
      | (refine callK_pure (refOpd_pure x.a) rfl rfl ?_; simp only [go_sem, ↓reduceIte])
      | (refine dCallK_pure (refOpd_pure x.a) rfl rfl ?_; simp only [go_sem, ↓reduceIte])
      | (refine callK_pure (refOpd_pure x.b) rfl rfl ?_; simp only [go_sem, ↓reduceIte])
      | (refine dCallK_pure (refOpd_pure x.b) rfl rfl ?_; simp only [go_sem, ↓reduceIte])
      | (rw [if_pos (by (try simp only [List.length_append, List.length_cons, List.length_nil, List.length_map]); omega)]; simp only [go_sem, ↓reduceIte]))
    all_goals exact fin _ _ _ _ rfl (by clear fin hK1; simp_all [refInsB, eqIns] <;> (intros; omega))
  refine bwp_cond false (by simp [ev, fget, k2]) (fun h => nomatch h) (fun _ => ?_)
  refine bwp_seq fun K hK => bwp_region rfl ?_
  simp only [go_sem, ↓reduceIte]
  refine hK _ ?_; clear hK
  by_cases k3 : x.kind = 3
  case pos =>
    refine bwp_cond true (by simp [ev, fget, k3]) (fun _ => ?_) (fun h => nomatch h)
    refine bwp_seq fun K hK => bwp_region rfl ?_
    have fin : ∀ (t : Fr) (m : Mem) (n : Nat) (b : Bool), fget t 2 = .d (.bool b) → b = refInsB x → K ⟨t, m, n⟩ := by
      intro t m n b h2 hb
      refine hK _ ?_; clear hK
      refine bwp_ret ?_
      simp only [go_sem]
      exact aend_ret (.d (.bool b)) (by simp [resA, resVs, resV, h2]) rfl ⟨by rw [hb], rfl⟩
    clear hK
    simp only [go_sem, ↓reduceIte]
    repeat' (first
      | (refine gateK_split (fun hb => ?_) (fun hb => ?_) <;> simp only [go_sem, ↓reduceIte, hb])
      | (refine dGateK_split (fun hb => ?_) (fun hb => ?_) <;> simp only [go_sem, ↓reduceIte, hb])
      | (refine callK_pure (refNamed_pure x.loc) rfl rfl ?_; simp only [go_sem, ↓reduceIte])
      | (refine dCallK_pure (refNamed_pure x.loc) rfl rfl ?_; simp only [go_sem, ↓reduceIte])
      | (refine callK_pure (refOpd_pure x.a) rfl rfl ?_; simp only [go_sem, ↓reduceIte])
      | (refine dCallK_pure (refOpd_pure x.a) rfl rfl ?_; simp only [go_sem, ↓reduceIte])
      | (refine callK_pure (refOpd_pure x.b) rfl rfl ?_; simp only [go_sem, ↓reduceIte])
      | (refine dCallK_pure (refOpd_pure x.b) rfl rfl ?_; simp only [go_sem, ↓reduceIte])
      | (rw [if_pos (by (try simp only [List.length_append, List.length_cons, List.length_nil, List.length_map]); omega)]; simp only [go_sem, ↓reduceIte]))
    all_goals exact fin _ _ _ _ rfl (by clear fin hK1; simp_all [refInsB, eqIns] <;> (intros; omega))
  refine bwp_cond false (by simp [ev, fget, k3]) (fun h => nomatch h) (fun _ => ?_)
  refine bwp_seq fun K hK => bwp_region rfl ?_
  simp only [go_sem, ↓reduceIte]
  refine hK _ ?_; clear hK
  by_cases k4 : x.kind = 4
  case pos =>
    refine bwp_cond true (by simp [ev, fget, k4]) (fun _ => ?_) (fun h => nomatch h)
    refine bwp_seq fun K hK => bwp_region rfl ?_
    have fin : ∀ (t : Fr) (m : Mem) (n : Nat) (b : Bool), fget t 2 = .d (.bool b) → b = refInsB x → K ⟨t, m, n⟩ := by
      intro t m n b h2 hb
      refine hK _ ?_; clear hK
      refine bwp_ret ?_
      simp only [go_sem]
      exact aend_ret (.d (.bool b)) (by simp [resA, resVs, resV, h2]) rfl ⟨by rw [hb], rfl⟩
    clear hK
    simp only [go_sem, ↓reduceIte]
    repeat' (first
      | (refine gateK_split (fun hb => ?_) (fun hb => ?_) <;> simp only [go_sem, ↓reduceIte, hb])
      | (refine dGateK_split (fun hb => ?_) (fun hb => ?_) <;> simp only [go_sem, ↓reduceIte, hb])
      | (refine callK_pure (refNamed_pure x.loc) rfl rfl ?_; simp only [go_sem, ↓reduceIte])
      | (refine dCallK_pure (refNamed_pure x.loc) rfl rfl ?_; simp only [go_sem, ↓reduceIte])
      | (refine callK_pure (refOpd_pure x.a) rfl rfl ?_; simp only [go_sem, ↓reduceIte])
      | (refine dCallK_pure (refOpd_pure x.a) rfl rfl ?_; simp only [go_sem, ↓reduceIte])
      | (refine callK_pure (refOpd_pure x.b) rfl rfl ?_; simp only [go_sem, ↓reduceIte])
      | (refine dCallK_pure (refOpd_pure x.b) rfl rfl ?_; simp only [go_sem, ↓reduceIte])
      | (rw [if_pos (by (try simp only [List.length_append, List.length_cons, List.length_nil, List.length_map]); omega)]; simp only [go_sem, ↓reduceIte]))
    all_goals exact fin _ _ _ _ rfl (by clear fin hK1; simp_all [refInsB, eqIns] <;> (intros; omega))
  refine bwp_cond false (by simp [ev, fget, k4]) (fun h => nomatch h) (fun _ => ?_)
  refine bwp_seq fun K hK => bwp_region rfl ?_
  simp only [go_sem, ↓reduceIte]
  refine hK _ ?_; clear hK
  by_cases k5 : x.kind = 5
  case pos =>
    refine bwp_cond true (by simp [ev, fget, k5]) (fun _ => ?_) (fun h => nomatch h)
    refine bwp_seq fun K2 hK2 => ?_
    refine bwp_seq fun K hK => bwp_region rfl ?_
    have rest : ∀ (t : Fr) (b : Bool), fget t 125 = .d (.bool b) → b = (decide (x.op = 0) && !(decide (x.b.reg = -1) && (decide (x.b.value = 0) && true))) → fget t 1 = .ptr 0 0 → K ⟨t, [(0, (Ins.cells x).map .d), (1, [.d (.int .i64 0), .d (.int .i64 0)])], 2⟩ := by
      intro t b h125 hb h1
      refine hK _ ?_; clear hK
      cases b
      · refine bwp_cond false (by simp [ev, fget, h125]) (fun h => nomatch h) (fun _ => ?_)
        refine bwp_skip ?_
        simp only [go_sem, ↓reduceIte]
        refine hK2 _ ?_; clear hK2
        refine bwp_seq fun K hK => bwp_region rfl ?_
        have fin : ∀ (t : Fr) (m : Mem) (n : Nat) (b : Bool), fget t 2 = .d (.bool b) → b = refInsB x → K ⟨t, m, n⟩ := by
          intro t m n b h2 hb
          refine hK _ ?_; clear hK
          refine bwp_ret ?_
          simp only [go_sem]
          exact aend_ret (.d (.bool b)) (by simp [resA, resVs, resV, h2]) rfl ⟨by rw [hb], rfl⟩
        clear hK
        have hb0 := hb.symm
        simp only [go_sem, ↓reduceIte, h1, Ins.cells]
        repeat' (first
          | (refine gateK_split (fun hb => ?_) (fun hb => ?_) <;> simp only [go_sem, ↓reduceIte, hb, h1])
          | (refine dGateK_split (fun hb => ?_) (fun hb => ?_) <;> simp only [go_sem, ↓reduceIte, hb, h1])
          | (refine callK_pure (refOpd_pure x.a) rfl rfl ?_; simp only [go_sem, ↓reduceIte, h1])
          | (refine dCallK_pure (refOpd_pure x.a) rfl rfl ?_; simp only [go_sem, ↓reduceIte, h1])
          | (refine callK_pure (refOpd_pure x.b) rfl rfl ?_; simp only [go_sem, ↓reduceIte, h1])
          | (refine dCallK_pure (refOpd_pure x.b) rfl rfl ?_; simp only [go_sem, ↓reduceIte, h1])
          | (rw [if_pos (by (try simp only [List.length_append, List.length_cons, List.length_nil, List.length_map]); omega)]; simp only [go_sem, ↓reduceIte, h1]))
        all_goals exact fin _ _ _ _ rfl (by clear fin hK1; simp only [refInsB, k5, hb0]; simp_all <;> (intros; omega))
      · refine bwp_cond true (by simp [ev, fget, h125]) (fun _ => ?_) (fun h => nomatch h)
        refine bwp_seq fun K hK => bwp_region rfl ?_
        simp only [go_sem, ↓reduceIte]
        refine hK _ ?_; clear hK
        refine bwp_ret ?_
        simp only [go_sem]
        exact aend_ret (.d (.bool false)) rfl rfl ⟨by simp only [refInsB, k5, ← hb]; simp, rfl⟩
    clear hK
    simp only [go_sem, ↓reduceIte]
    repeat' (first
      | (refine gateK_split (fun hb => ?_) (fun hb => ?_) <;> simp only [go_sem, ↓reduceIte, hb])
      | (refine dGateK_split (fun hb => ?_) (fun hb => ?_) <;> simp only [go_sem, ↓reduceIte, hb])
      | (rw [if_pos (by (try simp only [List.length_append, List.length_cons, List.length_nil, List.length_map]); omega)]; simp only [go_sem, ↓reduceIte]))
    all_goals exact rest _ _ rfl (by clear rest hK1 hK2; simp_all) rfl
  refine bwp_cond false (by simp [ev, fget, k5]) (fun h => nomatch h) (fun _ => ?_)
  refine bwp_seq fun K hK => bwp_region rfl ?_
  simp only [go_sem, ↓reduceIte]
  refine hK _ ?_; clear hK
  by_cases k6 : x.kind = 6
  case pos =>
    refine bwp_cond true (by simp [ev, fget, k6]) (fun _ => ?_) (fun h => nomatch h)
    refine bwp_seq fun K hK => bwp_region rfl ?_
    have fin : ∀ (t : Fr) (m : Mem) (n : Nat) (b : Bool), fget t 2 = .d (.bool b) → b = refInsB x → K ⟨t, m, n⟩ := by
      intro t m n b h2 hb
      refine hK _ ?_; clear hK
      refine bwp_ret ?_
      simp only [go_sem]
      exact aend_ret (.d (.bool b)) (by simp [resA, resVs, resV, h2]) rfl ⟨by rw [hb], rfl⟩
    clear hK
    simp only [go_sem, ↓reduceIte]
    repeat' (first
      | (refine gateK_split (fun hb => ?_) (fun hb => ?_) <;> simp only [go_sem, ↓reduceIte, hb])
      | (refine dGateK_split (fun hb => ?_) (fun hb => ?_) <;> simp only [go_sem, ↓reduceIte, hb])
      | (refine callK_pure (refNamed_pure x.loc) rfl rfl ?_; simp only [go_sem, ↓reduceIte])
      | (refine dCallK_pure (refNamed_pure x.loc) rfl rfl ?_; simp only [go_sem, ↓reduceIte])
      | (refine callK_pure (refOpd_pure x.a) rfl rfl ?_; simp only [go_sem, ↓reduceIte])
      | (refine dCallK_pure (refOpd_pure x.a) rfl rfl ?_; simp only [go_sem, ↓reduceIte])
      | (refine callK_pure (refOpd_pure x.b) rfl rfl ?_; simp only [go_sem, ↓reduceIte])
      | (refine dCallK_pure (refOpd_pure x.b) rfl rfl ?_; simp only [go_sem, ↓reduceIte])
      | (rw [if_pos (by (try simp only [List.length_append, List.length_cons, List.length_nil, List.length_map]); omega)]; simp only [go_sem, ↓reduceIte]))
    all_goals exact fin _ _ _ _ rfl (by clear fin hK1; simp_all [refInsB, eqIns] <;> (intros; omega))
  refine bwp_cond false (by simp [ev, fget, k6]) (fun h => nomatch h) (fun _ => ?_)
  refine bwp_skip ?_
  simp only [go_sem, ↓reduceIte]
  refine hK1 _ ?_; clear hK1
  refine bwp_seq fun K hK => bwp_region rfl ?_
  simp only [go_sem, ↓reduceIte]
  refine hK _ ?_; clear hK
  refine bwp_ret ?_
  simp only [go_sem]
  refine aend_ret _ rfl rfl ⟨?_, rfl⟩
  simp [fget, refInsB, k1, k2, k3, k4, k5, k6]
end Go.Proofs.YtpfbljkfbjjlkaaGreatDoor

/- Which conditions and tests may be, by the document's answer, told without a heap. -/
namespace Go.Proofs.YtpfbljkfbjjlkaaGreatDoor
open Go Go.Jq
set_option maxRecDepth 100000
set_option linter.unusedSimpArgs false
def refAtomMem (a : Atom) : Bool := decide (a.thread = -1) && decide (a.reg = 0) && isLocB a.loc
def refAtomOwn (a : Atom) : Bool := decide (0 ≤ a.thread) && decide (a.thread ≤ 9) && decide (0 ≤ a.reg) && decide (a.reg ≤ 3) && decide (a.loc = 0)
theorem refAtom_eq (a : Atom) : (!refAtomMem a && !refAtomOwn a) = !okAtomB a := by
  unfold refAtomMem refAtomOwn okAtomB isRegB
  by_cases h : a.thread = -1
  · have h1 : ¬ 0 ≤ a.thread := by omega
    simp [h]
  · have e : decide (a.reg ≤ 3) = decide (a.reg < 4) := by rw [decide_eq_decide]; omega
    simp only [h, decide_false, Bool.false_and, Bool.not_false, Bool.true_and, if_false, e]
    cases decide (0 ≤ a.thread) <;> cases decide (a.thread ≤ 9) <;> cases decide (0 ≤ a.reg) <;> cases decide (a.reg < 4) <;> cases decide (a.loc = 0) <;> rfl
def rcS (cs : List DV) (ex : Fr) : St := ⟨ex ++ [(1, .dptr cs), (2, .d (.bool false))], [], 0⟩
theorem refRow {rows : List (List Atom)} {A : DV} (hA : IsSl2 Atom.cells rows A) {kind : Int} {j : Nat} (hj : j < rows.length) {Q : Exit → St → Prop}
    (hbad : (rows[j].any fun a => !okAtomB a) = true → ∀ S, fget S.t 2 = .d (.bool false) → Q .ret S) (hgood : (rows[j].any fun a => !okAtomB a) = false → Q (.exit 2) (rcS [.int .i64 kind, A] [(3, .d (.int .i64 j))])) :
    BWP Tryz.prog (mbound []) 103 (.loop ac79L0) (rcS [.int .i64 kind, A] [(4, .d (.int .i64 (0 : Nat))), (3, .d (.int .i64 j))]) Q := by
  obtain ⟨cs2, d, rest2, hTe, hd, hjc, hD⟩ := hA.at j hj
  have hjl : (j : Int) < rows.length := by omega
  generalize rows[j] = l at hD hbad hgood
  have hbig := hD.1
  have hlen' := hD.len
  refine bwp_countI (fun k => rcS [.int .i64 kind, A] [(4, .d (.int .i64 (k : Nat))), (3, .d (.int .i64 j))]) (fun k => ∀ a ∈ l.take k, okAtomB a = true) l.length (by simp) ?_
  intro k hk hp
  unfold ac79L0 rcS
  refine bwp_seq fun K1 hK1 => ?_
  by_cases hlt : k < l.length
  · have hlt' : (k : Int) < l.length := by omega
    obtain ⟨cs, rest, hIe, hdrop, hcs⟩ := hD.at atom_len (by omega) k hlt
    have hw : IntKind.i64.wrap ((k : Int) + 1) = ((k + 1 : Nat) : Int) := by rw [wrap_i64 (by omega) (by omega)]; rfl
    have hl4 : ∀ (n : Nat), (4 ≤ (n + 1 + 1 + 1 + 1)) = True := fun n => by simp
    have hmem : l[k] ∈ l := List.getElem_mem hlt
    have htk := take_snoc l k hlt
    generalize l[k] = a at *
    have hae := refAtom_eq a
    refine bwp_seq fun K hK => bwp_region rfl ?_
    simp only [go_sem, ↓reduceIte, hTe, hjl, Int.natCast_nonneg, Int.toNat_natCast, Nat.mul_one, hjc, hd, hlen', hlt']
    refine hK _ ?_; clear hK
    refine bwp_cond true (by simp [ev, fget]) (fun _ => ?_) (fun h => nomatch h)
    refine bwp_skip ?_
    refine hK1 _ ?_; clear hK1
    refine bwp_seq fun K1 hK1 => ?_
    refine bwp_block ?_
    refine bwp_seq fun K hK => bwp_region rfl ?_
    simp only [go_sem, ↓reduceIte, hTe, hjl, Nat.mul_one, hjc, hd, hIe, hlt', Int.natCast_nonneg, Int.toNat_natCast, hcs, hdrop, Atom.cells, hl4]
    refine hK _ ?_; clear hK
    refine bwp_seq fun K hK => bwp_region rfl ?_
    have fin : ∀ t : Fr, fget t 6 = .d (.bool (refAtomMem a)) → fget t 5 = .ptr 0 0 → fget t 1 = .dptr [.int .i64 kind, A] → fget t 2 = .d (.bool false) → fget t 3 = .d (.int .i64 j) → fget t 4 = .d (.int .i64 k) → K ⟨t, [(0, [.d (.int .i64 a.thread), .d (.int .i64 a.reg), .d (.int .i64 a.loc), .d (.int .i64 a.value)])], 1⟩ := by
      intro t h6 h5 h1 h2 h3 h4
      refine hK _ ?_; clear hK
      refine bwp_seq fun K hK => bwp_region rfl ?_
      have fin2 : ∀ t : Fr, fget t 6 = .d (.bool (refAtomMem a)) → fget t 7 = .d (.bool (refAtomOwn a)) → fget t 1 = .dptr [.int .i64 kind, A] → fget t 2 = .d (.bool false) → fget t 3 = .d (.int .i64 j) → fget t 4 = .d (.int .i64 k) → K ⟨t, [(0, [.d (.int .i64 a.thread), .d (.int .i64 a.reg), .d (.int .i64 a.loc), .d (.int .i64 a.value)])], 1⟩ := by
        intro t h6 h7 h1 h2 h3 h4
        refine hK _ ?_; clear hK
        refine bwp_seq fun K hK => bwp_region rfl ?_
        have fin3 : ∀ (t : Fr) (b : Bool), fget t 102 = .d (.bool b) → b = !okAtomB a → fget t 1 = .dptr [.int .i64 kind, A] → fget t 2 = .d (.bool false) → fget t 3 = .d (.int .i64 j) → fget t 4 = .d (.int .i64 k) → K ⟨t, [(0, [.d (.int .i64 a.thread), .d (.int .i64 a.reg), .d (.int .i64 a.loc), .d (.int .i64 a.value)])], 1⟩ := by
          intro t b h102 hb h1 h2 h3 h4
          refine hK _ ?_; clear hK
          cases hok : okAtomB a
          · rw [hok] at hb
            subst hb
            refine bwp_cond true (by simp [ev, fget, h102]) (fun _ => ?_) (fun h => nomatch h)
            refine bwp_seq fun K hK => bwp_region rfl ?_
            simp only [go_sem, ↓reduceIte]
            refine hK _ ?_; clear hK
            refine bwp_ret ?_
            simp only [go_sem, ↓reduceIte]
            exact hbad (List.any_eq_true.2 ⟨a, hmem, by simp [hok]⟩) _ rfl
          · rw [hok] at hb
            subst hb
            refine bwp_cond false (by simp [ev, fget, h102]) (fun h => nomatch h) (fun _ => ?_)
            refine bwp_skip ?_
            simp only [go_sem, ↓reduceIte]
            refine hK1 _ ?_; clear hK1
            refine bwp_region rfl ?_
            simp only [go_sem, ↓reduceIte, h4, hw]
            refine ⟨hlt, ?_, Leads.ent [] ⟨by simp [entT, fget, AV.ren, pget, h1, h2, h3], by simp [entM], rfl, rfl⟩⟩
            intro b hb
            rw [htk, List.mem_append] at hb
            rcases hb with hb | hb
            · exact hp b hb
            · simp only [List.mem_singleton] at hb; rw [hb]; exact hok
        clear hK
        cases g1 : refAtomMem a
        · rw [g1] at h6 hae
          cases g2 : refAtomOwn a
          · rw [g2] at h7 hae
            simp only [go_sem, ↓reduceIte, h6, h7]
            exact fin3 _ true rfl (by rw [← hae]; rfl) h1 h2 h3 h4
          · rw [g2] at h7 hae
            simp only [go_sem, ↓reduceIte, h6, h7]
            exact fin3 _ false rfl (by rw [← hae]; rfl) h1 h2 h3 h4
        · rw [g1] at h6 hae
          simp only [go_sem, ↓reduceIte, h6]
          exact fin3 _ false rfl (by rw [← hae]; simp) h1 h2 h3 h4
      clear hK
      simp only [go_sem, ↓reduceIte, h5]
      repeat' (first
        | (refine gateK_split (fun hb => ?_) (fun hb => ?_) <;> simp only [go_sem, ↓reduceIte, hb, h5])
        | (refine dGateK_split (fun hb => ?_) (fun hb => ?_) <;> simp only [go_sem, ↓reduceIte, hb, h5])
        | (rw [if_pos (by (try simp only [List.length_append, List.length_cons, List.length_nil, List.length_map]); omega)]; simp only [go_sem, ↓reduceIte, h5]))
      all_goals exact fin2 _ (by simp [fget, h6]) (by simp [fget, refAtomOwn, *]) (by simp [fget, h1]) (by simp [fget, h2]) (by simp [fget, h3]) (by simp [fget, h4])
    clear hK
    simp only [go_sem, ↓reduceIte]
    repeat' (first
      | (refine gateK_split (fun hb => ?_) (fun hb => ?_) <;> simp only [go_sem, ↓reduceIte, hb])
      | (refine dGateK_split (fun hb => ?_) (fun hb => ?_) <;> simp only [go_sem, ↓reduceIte, hb])
      | (refine callK_pure (refNamed_pure a.loc) rfl rfl ?_; simp only [go_sem, ↓reduceIte])
      | (refine dCallK_pure (refNamed_pure a.loc) rfl rfl ?_; simp only [go_sem, ↓reduceIte])
      | (rw [if_pos (by (try simp only [List.length_append, List.length_cons, List.length_nil, List.length_map]); omega)]; simp only [go_sem, ↓reduceIte]))
    all_goals exact fin _ (by simp [fget, refAtomMem, *]) rfl (by simp [fget, hTe]) rfl rfl rfl
  · have hlt' : ¬ (k : Int) < l.length := by omega
    have hin : k = l.length := by omega
    subst hin
    rw [List.take_of_length_le (Nat.le_refl _)] at hp
    refine bwp_seq fun K hK => bwp_region rfl ?_
    simp only [go_sem, ↓reduceIte, hTe, hjl, Int.natCast_nonneg, Int.toNat_natCast, Nat.mul_one, hjc, hd, hlen', hlt']
    refine hK _ ?_; clear hK
    refine bwp_cond false (by simp [ev, fget]) (fun h => nomatch h) (fun _ => ?_)
    refine bwp_leads (S' := rcS [.int .i64 kind, A] [(3, .d (.int .i64 j))]) (Leads.ent [] ⟨by simp [entT, fget, AV.ren, renL, pget, rcS, hTe], by simp [entM, pinv, mget, mset, renL, AV.ren, pget, renL_append, -List.map_map, rcS, hTe], rfl, rfl⟩) ?_
    refine bwp_exit (hgood ?_)
    rw [List.any_eq_false]
    intro a ha
    rw [hp a ha]; decide
end Go.Proofs.YtpfbljkfbjjlkaaGreatDoor

/- Which conditions and tests may be, by the document's answer: the wholes. -/
namespace Go.Proofs.YtpfbljkfbjjlkaaGreatDoor
open Go Go.Jq
set_option maxRecDepth 100000
set_option linter.unusedSimpArgs false
theorem refIns_eq (x : Ins) : refInsB x = okInsB x := by
  rw [Bool.eq_iff_iff]
  unfold refInsB okInsB eqIns isRegB
  by_cases k1 : x.kind = 1
  · simp [k1]; constructor <;> intro h <;> simp_all
  by_cases k2 : x.kind = 2
  · simp [k2]; constructor <;> intro h <;> (simp_all; try omega)
  by_cases k3 : x.kind = 3
  · simp [k3]
  by_cases k4 : x.kind = 4
  · simp [k4]; constructor <;> intro h <;> (simp_all; try omega)
  by_cases k5 : x.kind = 5
  · simp [k5]; constructor <;> intro h <;> (simp_all; try omega)
  by_cases k6 : x.kind = 6
  · simp [k6]; constructor <;> intro h <;> simp_all
  simp [k1, k2, k3, k4, k5, k6]
theorem refRows {rows : List (List Atom)} {A : DV} (hA : IsSl2 Atom.cells rows A) {kind : Int} {Q : Exit → St → Prop}
    (hbad : rows.any badRowB = true → ∀ S, fget S.t 2 = .d (.bool false) → Q .ret S) (hgood : rows.any badRowB = false → ∀ S, Q (.exit 0) S) :
    BWP Tryz.prog (mbound []) 103 (.loop ac79L1) (rcS [.int .i64 kind, A] [(3, .d (.int .i64 (0 : Nat)))]) Q := by
  have hbig := hA.big
  have hlen' := hA.len
  refine bwp_countI (fun j => rcS [.int .i64 kind, A] [(3, .d (.int .i64 (j : Nat)))]) (fun j => ∀ l ∈ rows.take j, badRowB l = false) rows.length (by simp) ?_
  intro j hj hp
  unfold ac79L1
  refine bwp_seq fun K1 hK1 => ?_
  by_cases hlt : j < rows.length
  · have hlt' : (j : Int) < rows.length := by omega
    obtain ⟨cs2, d, rest2, hTe, hd, hjc, hD⟩ := hA.at j hlt
    have hdl := hD.len
    have hw : IntKind.i64.wrap ((j : Int) + 1) = ((j + 1 : Nat) : Int) := by rw [wrap_i64 (by omega) (by omega)]; rfl
    have hmem : rows[j] ∈ rows := List.getElem_mem hlt
    have htk := take_snoc rows j hlt
    have hrow := @refRow rows A hA kind j hlt
    unfold rcS
    refine bwp_seq fun K hK => bwp_region rfl ?_
    simp only [go_sem, ↓reduceIte, hlen', hlt']
    refine hK _ ?_; clear hK
    refine bwp_cond true (by simp [ev, fget]) (fun _ => ?_) (fun h => nomatch h)
    refine bwp_skip ?_
    refine hK1 _ ?_; clear hK1
    refine bwp_seq fun K1 hK1 => ?_
    refine bwp_block ?_
    refine bwp_seq fun K2 hK2 => ?_
    refine bwp_seq fun K hK => bwp_region rfl ?_
    simp only [go_sem, ↓reduceIte, hTe, hlt', Int.natCast_nonneg, Int.toNat_natCast, Nat.mul_one, hjc, hd, hdl]
    refine hK _ ?_; clear hK
    by_cases h0 : rows[j].length = 0
    · have h0' : (rows[j].length : Int) = 0 := by omega
      refine bwp_cond true (by simp [ev, fget, h0]) (fun _ => ?_) (fun h => nomatch h)
      refine bwp_seq fun K hK => bwp_region rfl ?_
      simp only [go_sem, ↓reduceIte]
      refine hK _ ?_; clear hK
      refine bwp_ret ?_
      simp only [go_sem, ↓reduceIte]
      exact hbad (List.any_eq_true.2 ⟨_, hmem, by simp [badRowB, h0]⟩) _ rfl
    · have h0' : ¬ (rows[j].length : Int) = 0 := by omega
      have hne : ¬ rows[j] = [] := fun h => h0 (by rw [h]; rfl)
      refine bwp_cond false (by simp [ev, fget, hne]) (fun h => nomatch h) (fun _ => ?_)
      refine bwp_skip ?_
      simp only [go_sem, ↓reduceIte]
      refine hK2 _ ?_; clear hK2
      refine bwp_seq fun K hK => bwp_region rfl ?_
      simp only [go_sem, ↓reduceIte]
      refine hK _ ?_; clear hK
      refine bwp_block ?_
      refine bwp_leads (S' := rcS [.int .i64 kind, A] [(4, .d (.int .i64 (0 : Nat))), (3, .d (.int .i64 j))]) (Leads.ent [] ⟨by simp [entT, fget, AV.ren, renL, pget, rcS, hTe], by simp [entM, pinv, mget, mset, renL, AV.ren, pget, renL_append, -List.map_map, rcS, hTe], rfl, rfl⟩) ?_
      refine hrow ?_ ?_
      · intro hb S hS
        simp only [go_sem, ↓reduceIte]
        exact hbad (List.any_eq_true.2 ⟨_, hmem, by simp [badRowB, hb]⟩) _ hS
      · intro hb
        unfold rcS
        simp only [go_sem, ↓reduceIte]
        refine hK1 _ ?_; clear hK1
        refine bwp_region rfl ?_
        simp only [go_sem, ↓reduceIte, hw]
        refine ⟨hlt, ?_, Leads.ent [] ⟨by simp [rcS, entT, fget, AV.ren, pget], by simp [rcS, entM], rfl, rfl⟩⟩
        intro l hl
        rw [htk, List.mem_append] at hl
        rcases hl with hl | hl
        · exact hp l hl
        · simp only [List.mem_singleton] at hl
          subst hl
          simp [badRowB, hb, h0]
  · have hlt' : ¬ (j : Int) < rows.length := by omega
    have hin : j = rows.length := by omega
    subst hin
    rw [List.take_of_length_le (Nat.le_refl _)] at hp
    unfold rcS
    refine bwp_seq fun K hK => bwp_region rfl ?_
    simp only [go_sem, ↓reduceIte, hlen', hlt']
    refine hK _ ?_; clear hK
    refine bwp_cond false (by simp [ev, fget]) (fun h => nomatch h) (fun _ => ?_)
    refine bwp_exit (hgood ?_ _)
    rw [List.any_eq_false]
    intro l hl
    rw [hp l hl]; decide
theorem refCond_pure {rows : List (List Atom)} {A : DV} (hA : IsSl2 Atom.cells rows A) (kind : Int) : Pure Tryz.prog 79 [.agg [.d (.int .i64 kind), .d A]] (.d (.bool (okCondB kind rows))) := by
  have hAl := hA.len
  refine acalls_of Tryz.func79 ac79_ok Tryz.ntmps79 Tryz.results79 rfl ?_
  unfold ac79
  refine bwp_seq fun K hK => bwp_region rfl ?_
  simp only [go_sem, ↓reduceIte]
  refine hK _ ?_; clear hK
  refine bwp_leads (S' := ⟨[(1, .dptr [.int .i64 kind, A]), (2, .d (.bool false))], [], 0⟩) (Leads.frz [] [(0, [.int .i64 kind, A])] ⟨?_, ?_, rfl, rfl, ?_⟩) ?_
  · simp [frzT, fget, AV.cv, cvL, zget, pget]
  · simp [frzM, pinv, zget, mget, cvL, AV.cv]
  · simp [zokFrom, mget, cvL, AV.cv]
  refine bwp_seq fun K1 hK1 => ?_
  refine bwp_seq fun K hK => bwp_region rfl ?_
  simp only [go_sem, ↓reduceIte]
  refine hK _ ?_; clear hK
  by_cases k0 : kind = 0
  · refine bwp_cond true (by simp [ev, fget, k0]) (fun _ => ?_) (fun h => nomatch h)
    refine bwp_seq fun K hK => bwp_region rfl ?_
    simp only [go_sem, ↓reduceIte, hAl]
    refine hK _ ?_; clear hK
    refine bwp_ret ?_
    simp only [go_sem]
    refine aend_ret _ rfl rfl ⟨?_, rfl⟩
    have : ((rows.length : Int) = 0) = (rows.length = 0) := by apply propext; omega
    simp [fget, okCondB, k0]
  refine bwp_cond false (by simp [ev, fget, k0]) (fun h => nomatch h) (fun _ => ?_)
  refine bwp_skip ?_
  refine hK1 _ ?_; clear hK1
  refine bwp_seq fun K1 hK1 => ?_
  refine bwp_seq fun K hK => bwp_region rfl ?_
  have hle : decide ((rows.length : Int) = 0) = decide (rows.length = 0) := by rw [decide_eq_decide]; omega
  have rest : ∀ (t : Fr) (b : Bool), fget t 28 = .d (.bool b) → fget t 1 = .dptr [.int .i64 kind, A] → fget t 2 = .d (.bool false) → b = (decide (kind < 0) || decide (2 < kind) || decide (rows.length = 0)) → K ⟨t, [], 0⟩ := by
    intro t b h28 h1 h2 hb
    refine hK _ ?_; clear hK
    cases b
    · refine bwp_cond false (by simp [ev, fget, h28]) (fun h => nomatch h) (fun _ => ?_)
      refine bwp_skip ?_
      simp only [go_sem, ↓reduceIte]
      refine hK1 _ ?_; clear hK1
      refine bwp_seq fun K2 hK2 => ?_
      refine bwp_seq fun K3 hK3 => ?_
      refine bwp_region rfl ?_
      simp only [go_sem, ↓reduceIte]
      refine hK3 _ ?_; clear hK3
      refine bwp_block ?_
      have hsplit := hb.symm
      simp only [Bool.or_eq_false_iff, decide_eq_false_iff_not] at hsplit
      obtain ⟨⟨n1, n2⟩, n3⟩ := hsplit
      have hkk : (decide (kind = 1) || decide (kind = 2)) = true := by
        simp only [Bool.or_eq_true, decide_eq_true_eq]; omega
      have hpos : 0 < rows.length := by omega
      have hcond : okCondB kind rows = !rows.any badRowB := by
        unfold okCondB
        rw [if_neg k0, hkk]
        simp only [hpos, decide_true, Bool.true_and]
      refine bwp_leads (S' := rcS [.int .i64 kind, A] [(3, .d (.int .i64 (0 : Nat)))]) (Leads.ent [] ⟨by simp [entT, fget, AV.ren, renL, pget, rcS, h1, h2], by simp [entM, pinv, mget, mset, renL, AV.ren, pget, renL_append, -List.map_map, rcS, h1, h2], rfl, rfl⟩) ?_
      refine refRows hA ?_ ?_
      · intro hbad S hS
        simp only [go_sem, ↓reduceIte]
        exact aend_ret (.d (.bool false)) (by simp [resA, resVs, resV, hS]) rfl ⟨by rw [hcond, hbad]; rfl, rfl⟩
      · rintro hgood ⟨t', m', n'⟩
        simp only [go_sem, ↓reduceIte]
        refine hK2 _ ?_; clear hK2
        refine bwp_seq fun K hK => bwp_region (by simp [mbound]) ?_
        simp only [go_sem, ↓reduceIte]
        refine hK _ ?_; clear hK
        refine bwp_ret ?_
        simp only [go_sem]
        refine aend_ret _ rfl rfl ⟨?_, rfl⟩
        simp [fget, hcond, hgood]
    · refine bwp_cond true (by simp [ev, fget, h28]) (fun _ => ?_) (fun h => nomatch h)
      refine bwp_seq fun K hK => bwp_region rfl ?_
      simp only [go_sem, ↓reduceIte]
      refine hK _ ?_; clear hK
      refine bwp_ret ?_
      simp only [go_sem]
      refine aend_ret _ rfl rfl ⟨?_, rfl⟩
      have hk : okCondB kind rows = false := by
        unfold okCondB
        rw [if_neg k0]
        have h := hb.symm
        simp only [Bool.or_eq_true, decide_eq_true_eq] at h
        rcases h with (h | h) | h
        · have h1 : ¬ kind = 1 := by omega
          have h2 : ¬ kind = 2 := by omega
          simp [h1, h2]
        · have h1 : ¬ kind = 1 := by omega
          have h2 : ¬ kind = 2 := by omega
          simp [h1, h2]
        · simp [h]
      simp [fget, hk]
  clear hK
  simp only [go_sem, ↓reduceIte]
  repeat' (first
    | (refine gateK_split (fun hb => ?_) (fun hb => ?_) <;> simp only [go_sem, ↓reduceIte, hb, hAl, hle])
    | (refine dGateK_split (fun hb => ?_) (fun hb => ?_) <;> simp only [go_sem, ↓reduceIte, hb, hAl, hle])
    | (rw [if_pos (by (try simp only [List.length_append, List.length_cons, List.length_nil, List.length_map]); omega)]; simp only [go_sem, ↓reduceIte, hAl, hle]))
  all_goals exact rest _ _ rfl rfl rfl (by clear rest hK1; simp_all <;> (intros; omega))
end Go.Proofs.YtpfbljkfbjjlkaaGreatDoor

/- The document's texts of parts. -/
namespace Go.Proofs.YtpfbljkfbjjlkaaGreatDoor
open Go Go.Jq
set_option maxRecDepth 100000
set_option linter.unusedSimpArgs false
theorem refLoc_pure {n : Int} (h : isLocB n = true) : Pure Tryz.prog 22 [.d (.int .i64 n)] (.d (.str (locT n))) := by
  have hb := (isLocB_iff n).1 h
  have hw : IntKind.u8.wrap n = n := wrap_u8 (by omega) (by omega)
  refine acalls_of Tryz.func22 ac22_ok Tryz.ntmps22 Tryz.results22 rfl ?_
  unfold ac22
  refine bwp_seq fun K hK => bwp_region rfl ?_
  simp -implicitDefEqProofs only [go_sem, ↓reduceIte]
  refine hK _ ?_; clear hK
  refine bwp_seq fun K hK => bwp_region rfl ?_
  simp -implicitDefEqProofs only [go_sem, ↓reduceIte, hw]
  refine hK _ ?_; clear hK
  refine bwp_ret ?_
  simp only [go_sem]
  refine aend_ret _ rfl rfl ⟨?_, rfl⟩
  simp [fget, locT_ok h]
theorem refReg_pure {n : Int} (h : I64 n) : Pure Tryz.prog 83 [.d (.int .i64 n)] (.d (.str (regT n))) := by
  refine acalls_of Tryz.func83 ac83_ok Tryz.ntmps83 Tryz.results83 rfl ?_
  unfold ac83
  refine bwp_seq fun K hK => bwp_region rfl ?_
  simp -implicitDefEqProofs only [go_sem, ↓reduceIte]
  refine hK _ ?_; clear hK
  refine bwp_seq fun K hK => bwp_region rfl ?_
  simp -implicitDefEqProofs only [go_sem, ↓reduceIte]
  refine callK_pure (refText_pure h) rfl rfl ?_
  have hl := itoa_len h
  have hl2 : 1 + (Lib.itoa n).length ≤ 9223372036854775807 := by omega
  simp -implicitDefEqProofs only [go_sem, ↓reduceIte, hl2]
  refine hK _ ?_; clear hK
  refine bwp_ret ?_
  simp only [go_sem]
  refine aend_ret _ rfl rfl ⟨?_, rfl⟩
  simp [fget, regT]
theorem refOperand_pure {o : Opnd} (h : I64 o.value) (h' : I64 o.reg) (hok : isOpB o = true) : Pure Tryz.prog 82 [.agg [.d (.int .i64 o.reg), .d (.int .i64 o.value)]] (.d (.str (opT o))) := by
  have hreg : o.reg = -1 ∨ 0 ≤ o.reg := by
    simp only [isOpB, isRegB, Bool.or_eq_true, Bool.and_eq_true, decide_eq_true_eq] at hok
    omega
  refine acalls_of Tryz.func82 ac82_ok Tryz.ntmps82 Tryz.results82 rfl ?_
  unfold ac82
  refine bwp_seq fun K hK => bwp_region rfl ?_
  simp -implicitDefEqProofs only [go_sem, ↓reduceIte]
  refine hK _ ?_; clear hK
  refine bwp_seq fun K1 hK1 => ?_
  by_cases h1 : o.reg = -1
  · have h2 : o.reg < 0 := by omega
    refine bwp_seq fun K hK => bwp_region rfl ?_
    simp -implicitDefEqProofs only [go_sem, ↓reduceIte, h2]
    refine hK _ ?_; clear hK
    refine bwp_cond true (by simp [ev, fget, h2]) (fun _ => ?_) (fun h => nomatch h)
    refine bwp_seq fun K hK => bwp_region rfl ?_
    simp -implicitDefEqProofs only [go_sem, ↓reduceIte]
    refine callK_pure (refText_pure h) rfl rfl ?_
    simp -implicitDefEqProofs only [go_sem, ↓reduceIte]
    refine hK _ ?_; clear hK
    refine bwp_ret ?_
    simp only [go_sem]
    refine aend_ret _ rfl rfl ⟨?_, rfl⟩
    simp [fget, opT, h1]
  · have h2 : ¬ o.reg < 0 := by omega
    refine bwp_seq fun K hK => bwp_region rfl ?_
    simp -implicitDefEqProofs only [go_sem, ↓reduceIte, h2]
    refine hK _ ?_; clear hK
    refine bwp_cond false (by simp [ev, fget, h2]) (fun h => nomatch h) (fun _ => ?_)
    refine bwp_skip ?_
    refine hK1 _ ?_; clear hK1
    refine bwp_seq fun K hK => bwp_region rfl ?_
    simp -implicitDefEqProofs only [go_sem, ↓reduceIte]
    refine callK_pure (refReg_pure h') rfl rfl ?_
    simp -implicitDefEqProofs only [go_sem, ↓reduceIte]
    refine hK _ ?_; clear hK
    refine bwp_ret ?_
    simp only [go_sem]
    refine aend_ret _ rfl rfl ⟨?_, rfl⟩
    simp [fget, opT, h1]
theorem insT_eq (x : Ins) (h : okInsB x = true) : insT x =
    if x.kind = 1 then [115, 116, 111, 114, 101, 32] ++ locT x.loc ++ [32] ++ opT x.a ++ [32, 59]
    else if x.kind = 2 then regT x.reg ++ [32, 61, 32, 108, 111, 97, 100, 32] ++ locT x.loc ++ [32, 59]
    else if x.kind = 3 then [102, 101, 110, 99, 101, 32, 59]
    else if x.kind = 4 then regT x.reg ++ [32, 61, 32, 99, 97, 115, 32] ++ locT x.loc ++ [32] ++ opT x.a ++ [32] ++ opT x.b ++ [32, 59]
    else if x.kind = 5 then (if 0 < x.op then regT x.reg ++ [32, 61, 32] ++ opT x.a ++ [32] ++ signT x.op ++ [32] ++ opT x.b else regT x.reg ++ [32, 61, 32] ++ opT x.a) ++ [32, 59]
    else [115, 107, 105, 112, 32] ++ Lib.itoa x.n ++ [32, 105, 102, 32] ++ opT x.a ++ [32, 61, 61, 32] ++ opT x.b ++ [32, 59] := by
  unfold insT partsI
  rw [if_pos h]
  by_cases k1 : x.kind = 1
  · simp [k1, Lib.join, List.intercalate]
  by_cases k2 : x.kind = 2
  · simp [k2, Lib.join, List.intercalate]
  by_cases k3 : x.kind = 3
  · simp [k3, Lib.join, List.intercalate]
  by_cases k4 : x.kind = 4
  · simp [k4, Lib.join, List.intercalate]
  by_cases k5 : x.kind = 5
  · by_cases ho : 0 < x.op
    · simp [k5, ho, Lib.join, List.intercalate]
    · simp [k5, ho, Lib.join, List.intercalate]
  · simp [k1, k2, k3, k4, k5, Lib.join, List.intercalate]
set_option maxHeartbeats 4000000 in
theorem refInsT_pure {x : Ins} (h : I64i x) : Pure Tryz.prog 24 [.agg (x.cells.map .d)] (.d (.str (insT x))) := by
  obtain ⟨i1, i2, i3, i4, i5, i6⟩ := h
  have hok := refIns_pure x
  rw [refIns_eq] at hok
  unfold Ins.cells at hok ⊢
  simp only [List.map_cons, List.map_nil] at hok ⊢
  refine acalls_of Tryz.func24 ac24_ok Tryz.ntmps24 Tryz.results24 rfl ?_
  unfold ac24
  refine bwp_seq fun K hK => bwp_region rfl ?_
  simp -implicitDefEqProofs only [go_sem, ↓reduceIte]
  refine hK _ ?_; clear hK
  refine bwp_seq fun K1 hK1 => ?_
  refine bwp_seq fun K hK => bwp_region rfl ?_
  simp -implicitDefEqProofs only [go_sem, ↓reduceIte]
  refine callK_pure hok rfl rfl ?_
  cases hb : okInsB x with
  | false =>
    simp -implicitDefEqProofs only [go_sem, ↓reduceIte]
    refine hK _ ?_; clear hK
    refine bwp_cond true (by simp [ev, fget]) (fun _ => ?_) (fun h => nomatch h)
    refine bwp_seq fun K hK => bwp_region rfl ?_
    simp -implicitDefEqProofs only [go_sem, ↓reduceIte]
    refine hK _ ?_; clear hK
    refine bwp_ret ?_
    simp only [go_sem]
    refine aend_ret _ rfl rfl ⟨?_, rfl⟩
    simp [fget, insT, hb]
  | true =>
    simp -implicitDefEqProofs only [go_sem, ↓reduceIte]
    refine hK _ ?_; clear hK
    refine bwp_cond false (by simp [ev, fget]) (fun h => nomatch h) (fun _ => ?_)
    refine bwp_skip ?_
    refine hK1 _ ?_; clear hK1
    rw [insT_eq x hb]
    have l1 := regT_len i1
    have l2 := opT_len i3 i2
    have l3 := opT_len i5 i4
    have l4 : (locT x.loc).length ≤ 4 := utf8_len _
    have l5 := itoa_len i6
    have l6 := signT_len x.op
    have h0 := hb
    unfold okInsB at h0
    refine bwp_seq fun K1 hK1 => ?_
    refine bwp_seq fun K hK => bwp_region rfl ?_
    simp -implicitDefEqProofs only [go_sem, ↓reduceIte]
    refine hK _ ?_; clear hK
    refine bwp_block ?_
    by_cases k1 : x.kind = 1
    · rw [if_pos k1] at h0
      simp only [Bool.and_eq_true] at h0
      have c1 := refLoc_pure h0.1.1
      have c2 := refOperand_pure i3 i2 h0.1.2
      refine bwp_seq fun K hK => bwp_region rfl ?_
      simp -implicitDefEqProofs only [go_sem, ↓reduceIte, k1]
      refine hK _ ?_; clear hK
      refine bwp_cond true (by simp [ev, fget]) (fun _ => ?_) (fun h => nomatch h)
      refine bwp_seq fun K hK => bwp_region_draw rfl rfl ?_
      simp -implicitDefEqProofs only [go_sem, ↓reduceIte]
      repeat' (first
        | (refine gateK_split (fun hb => ?_) (fun hb => ?_) <;> simp -implicitDefEqProofs only [go_sem, ↓reduceIte, hb])
        | (refine dGateK_split (fun hb => ?_) (fun hb => ?_) <;> simp -implicitDefEqProofs only [go_sem, ↓reduceIte, hb])
        | (refine callK_pure (c1) rfl rfl ?_; simp -implicitDefEqProofs only [go_sem, ↓reduceIte])
        | (refine dCallK_pure (c1) rfl rfl ?_; simp -implicitDefEqProofs only [go_sem, ↓reduceIte])
        | (refine callK_pure (c2) rfl rfl ?_; simp -implicitDefEqProofs only [go_sem, ↓reduceIte])
        | (refine dCallK_pure (c2) rfl rfl ?_; simp -implicitDefEqProofs only [go_sem, ↓reduceIte])
        | (rw [if_pos (by (try simp only [List.length_append, List.length_cons, List.length_nil, List.length_map]); omega)]; simp -implicitDefEqProofs only [go_sem, ↓reduceIte]))
      refine ⟨rfl, hK _ ?_⟩; clear hK
      refine bwp_ret ?_
      simp -implicitDefEqProofs only [go_sem, ↓reduceIte]
      refine aend_ret _ rfl rfl ⟨?_, rfl⟩
      simp [fget, k1]
    rw [if_neg k1] at h0
    refine bwp_seq fun K hK => bwp_region rfl ?_
    simp -implicitDefEqProofs only [go_sem, ↓reduceIte, k1]
    refine hK _ ?_; clear hK
    refine bwp_cond false (by simp [ev, fget, k1]) (fun h => nomatch h) (fun _ => ?_)
    by_cases k2 : x.kind = 2
    · rw [if_pos k2] at h0
      simp only [Bool.and_eq_true] at h0
      have c1 := refLoc_pure h0.1.1
      have c2 := refReg_pure i1
      refine bwp_seq fun K hK => bwp_region rfl ?_
      simp -implicitDefEqProofs only [go_sem, ↓reduceIte, k2]
      refine hK _ ?_; clear hK
      refine bwp_cond true (by simp [ev, fget]) (fun _ => ?_) (fun h => nomatch h)
      refine bwp_seq fun K hK => bwp_region_draw rfl rfl ?_
      simp -implicitDefEqProofs only [go_sem, ↓reduceIte]
      repeat' (first
        | (refine gateK_split (fun hb => ?_) (fun hb => ?_) <;> simp -implicitDefEqProofs only [go_sem, ↓reduceIte, hb])
        | (refine dGateK_split (fun hb => ?_) (fun hb => ?_) <;> simp -implicitDefEqProofs only [go_sem, ↓reduceIte, hb])
        | (refine callK_pure (c1) rfl rfl ?_; simp -implicitDefEqProofs only [go_sem, ↓reduceIte])
        | (refine dCallK_pure (c1) rfl rfl ?_; simp -implicitDefEqProofs only [go_sem, ↓reduceIte])
        | (refine callK_pure (c2) rfl rfl ?_; simp -implicitDefEqProofs only [go_sem, ↓reduceIte])
        | (refine dCallK_pure (c2) rfl rfl ?_; simp -implicitDefEqProofs only [go_sem, ↓reduceIte])
        | (rw [if_pos (by (try simp only [List.length_append, List.length_cons, List.length_nil, List.length_map]); omega)]; simp -implicitDefEqProofs only [go_sem, ↓reduceIte]))
      refine ⟨rfl, hK _ ?_⟩; clear hK
      refine bwp_ret ?_
      simp -implicitDefEqProofs only [go_sem, ↓reduceIte]
      refine aend_ret _ rfl rfl ⟨?_, rfl⟩
      simp [fget, k2]
    rw [if_neg k2] at h0
    refine bwp_seq fun K hK => bwp_region rfl ?_
    simp -implicitDefEqProofs only [go_sem, ↓reduceIte, k2]
    refine hK _ ?_; clear hK
    refine bwp_cond false (by simp [ev, fget, k2]) (fun h => nomatch h) (fun _ => ?_)
    by_cases k3 : x.kind = 3
    · refine bwp_seq fun K hK => bwp_region rfl ?_
      simp -implicitDefEqProofs only [go_sem, ↓reduceIte, k3]
      refine hK _ ?_; clear hK
      refine bwp_cond true (by simp [ev, fget]) (fun _ => ?_) (fun h => nomatch h)
      refine bwp_seq fun K hK => bwp_region rfl ?_
      simp -implicitDefEqProofs only [go_sem, ↓reduceIte]
      refine hK _ ?_; clear hK
      refine bwp_ret ?_
      simp -implicitDefEqProofs only [go_sem, ↓reduceIte]
      refine aend_ret _ rfl rfl ⟨?_, rfl⟩
      simp [fget, k3]
    rw [if_neg k3] at h0
    refine bwp_seq fun K hK => bwp_region rfl ?_
    simp -implicitDefEqProofs only [go_sem, ↓reduceIte, k3]
    refine hK _ ?_; clear hK
    refine bwp_cond false (by simp [ev, fget, k3]) (fun h => nomatch h) (fun _ => ?_)
    by_cases k4 : x.kind = 4
    · rw [if_pos k4] at h0
      simp only [Bool.and_eq_true] at h0
      have c1 := refLoc_pure h0.1.1.1.1
      have c2 := refReg_pure i1
      have c3 := refOperand_pure i3 i2 h0.1.1.2
      have c4 := refOperand_pure i5 i4 h0.1.2
      refine bwp_seq fun K hK => bwp_region rfl ?_
      simp -implicitDefEqProofs only [go_sem, ↓reduceIte, k4]
      refine hK _ ?_; clear hK
      refine bwp_cond true (by simp [ev, fget]) (fun _ => ?_) (fun h => nomatch h)
      refine bwp_seq fun K hK => bwp_region_draw rfl rfl ?_
      simp -implicitDefEqProofs only [go_sem, ↓reduceIte]
      repeat' (first
        | (refine gateK_split (fun hb => ?_) (fun hb => ?_) <;> simp -implicitDefEqProofs only [go_sem, ↓reduceIte, hb])
        | (refine dGateK_split (fun hb => ?_) (fun hb => ?_) <;> simp -implicitDefEqProofs only [go_sem, ↓reduceIte, hb])
        | (refine callK_pure (c1) rfl rfl ?_; simp -implicitDefEqProofs only [go_sem, ↓reduceIte])
        | (refine dCallK_pure (c1) rfl rfl ?_; simp -implicitDefEqProofs only [go_sem, ↓reduceIte])
        | (refine callK_pure (c2) rfl rfl ?_; simp -implicitDefEqProofs only [go_sem, ↓reduceIte])
        | (refine dCallK_pure (c2) rfl rfl ?_; simp -implicitDefEqProofs only [go_sem, ↓reduceIte])
        | (refine callK_pure (c3) rfl rfl ?_; simp -implicitDefEqProofs only [go_sem, ↓reduceIte])
        | (refine dCallK_pure (c3) rfl rfl ?_; simp -implicitDefEqProofs only [go_sem, ↓reduceIte])
        | (refine callK_pure (c4) rfl rfl ?_; simp -implicitDefEqProofs only [go_sem, ↓reduceIte])
        | (refine dCallK_pure (c4) rfl rfl ?_; simp -implicitDefEqProofs only [go_sem, ↓reduceIte])
        | (rw [if_pos (by (try simp only [List.length_append, List.length_cons, List.length_nil, List.length_map]); omega)]; simp -implicitDefEqProofs only [go_sem, ↓reduceIte]))
      refine ⟨rfl, hK _ ?_⟩; clear hK
      refine bwp_ret ?_
      simp -implicitDefEqProofs only [go_sem, ↓reduceIte]
      refine aend_ret _ rfl rfl ⟨?_, rfl⟩
      simp [fget, k4]
    rw [if_neg k4] at h0
    refine bwp_seq fun K hK => bwp_region rfl ?_
    simp -implicitDefEqProofs only [go_sem, ↓reduceIte, k4]
    refine hK _ ?_; clear hK
    refine bwp_cond false (by simp [ev, fget, k4]) (fun h => nomatch h) (fun _ => ?_)
    by_cases k5 : x.kind = 5
    · rw [if_pos k5] at h0
      simp only [Bool.and_eq_true, decide_eq_true_eq] at h0
      have c2 := refReg_pure i1
      have c3 := refOperand_pure i3 i2 h0.1.1.1.1.1.2
      have c4 := refOperand_pure i5 i4 h0.1.1.1.1.2
      refine bwp_seq fun K hK => bwp_region rfl ?_
      simp -implicitDefEqProofs only [go_sem, ↓reduceIte, k5]
      refine hK _ ?_; clear hK
      refine bwp_cond true (by simp [ev, fget]) (fun _ => ?_) (fun h => nomatch h)
      refine bwp_seq fun K hK => bwp_region_draw rfl rfl ?_
      simp -implicitDefEqProofs only [go_sem, ↓reduceIte]
      repeat' (first
        | (refine gateK_split (fun hb => ?_) (fun hb => ?_) <;> simp -implicitDefEqProofs only [go_sem, ↓reduceIte, hb])
        | (refine dGateK_split (fun hb => ?_) (fun hb => ?_) <;> simp -implicitDefEqProofs only [go_sem, ↓reduceIte, hb])
        | (refine callK_pure (c2) rfl rfl ?_; simp -implicitDefEqProofs only [go_sem, ↓reduceIte])
        | (refine dCallK_pure (c2) rfl rfl ?_; simp -implicitDefEqProofs only [go_sem, ↓reduceIte])
        | (refine callK_pure (c3) rfl rfl ?_; simp -implicitDefEqProofs only [go_sem, ↓reduceIte])
        | (refine dCallK_pure (c3) rfl rfl ?_; simp -implicitDefEqProofs only [go_sem, ↓reduceIte])
        | (rw [if_pos (by (try simp only [List.length_append, List.length_cons, List.length_nil, List.length_map]); omega)]; simp -implicitDefEqProofs only [go_sem, ↓reduceIte]))
      refine ⟨rfl, hK _ ?_⟩; clear hK
      refine bwp_seq fun K3 hK3 => ?_
      by_cases ho : 0 < x.op
      · have c5 := refSign_pure x.op
        refine bwp_seq fun K hK => bwp_region rfl ?_
        simp -implicitDefEqProofs only [go_sem, ↓reduceIte, ho]
        refine hK _ ?_; clear hK
        refine bwp_cond true (by simp [ev, fget, ho]) (fun _ => ?_) (fun h => nomatch h)
        refine bwp_region_draw rfl rfl ?_
        simp -implicitDefEqProofs only [go_sem, ↓reduceIte]
        repeat' (first
          | (refine gateK_split (fun hb => ?_) (fun hb => ?_) <;> simp -implicitDefEqProofs only [go_sem, ↓reduceIte, hb])
          | (refine dGateK_split (fun hb => ?_) (fun hb => ?_) <;> simp -implicitDefEqProofs only [go_sem, ↓reduceIte, hb])
          | (refine callK_pure (c4) rfl rfl ?_; simp -implicitDefEqProofs only [go_sem, ↓reduceIte])
          | (refine dCallK_pure (c4) rfl rfl ?_; simp -implicitDefEqProofs only [go_sem, ↓reduceIte])
          | (refine callK_pure (c5) rfl rfl ?_; simp -implicitDefEqProofs only [go_sem, ↓reduceIte])
          | (refine dCallK_pure (c5) rfl rfl ?_; simp -implicitDefEqProofs only [go_sem, ↓reduceIte])
          | (rw [if_pos (by (try simp only [List.length_append, List.length_cons, List.length_nil, List.length_map]); omega)]; simp -implicitDefEqProofs only [go_sem, ↓reduceIte]))
        refine ⟨rfl, hK3 _ ?_⟩; clear hK3
        refine bwp_seq fun K hK => bwp_region rfl ?_
        simp -implicitDefEqProofs only [go_sem, ↓reduceIte]
        repeat' (first
          | (refine gateK_split (fun hb => ?_) (fun hb => ?_) <;> simp -implicitDefEqProofs only [go_sem, ↓reduceIte, hb])
          | (refine dGateK_split (fun hb => ?_) (fun hb => ?_) <;> simp -implicitDefEqProofs only [go_sem, ↓reduceIte, hb])
          | (rw [if_pos (by (try simp only [List.length_append, List.length_cons, List.length_nil, List.length_map]); omega)]; simp -implicitDefEqProofs only [go_sem, ↓reduceIte]))
        refine hK _ ?_; clear hK
        refine bwp_ret ?_
        simp -implicitDefEqProofs only [go_sem, ↓reduceIte]
        refine aend_ret _ rfl rfl ⟨?_, rfl⟩
        simp [fget, k5, ho]
      · refine bwp_seq fun K hK => bwp_region rfl ?_
        simp -implicitDefEqProofs only [go_sem, ↓reduceIte, ho]
        refine hK _ ?_; clear hK
        refine bwp_cond false (by simp [ev, fget, ho]) (fun h => nomatch h) (fun _ => ?_)
        refine bwp_skip ?_
        refine hK3 _ ?_; clear hK3
        refine bwp_seq fun K hK => bwp_region rfl ?_
        simp -implicitDefEqProofs only [go_sem, ↓reduceIte]
        repeat' (first
          | (refine gateK_split (fun hb => ?_) (fun hb => ?_) <;> simp -implicitDefEqProofs only [go_sem, ↓reduceIte, hb])
          | (refine dGateK_split (fun hb => ?_) (fun hb => ?_) <;> simp -implicitDefEqProofs only [go_sem, ↓reduceIte, hb])
          | (rw [if_pos (by (try simp only [List.length_append, List.length_cons, List.length_nil, List.length_map]); omega)]; simp -implicitDefEqProofs only [go_sem, ↓reduceIte]))
        refine hK _ ?_; clear hK
        refine bwp_ret ?_
        simp -implicitDefEqProofs only [go_sem, ↓reduceIte]
        refine aend_ret _ rfl rfl ⟨?_, rfl⟩
        simp [fget, k5, ho]
    rw [if_neg k5] at h0
    refine bwp_seq fun K hK => bwp_region rfl ?_
    simp -implicitDefEqProofs only [go_sem, ↓reduceIte, k5]
    refine hK _ ?_; clear hK
    refine bwp_cond false (by simp [ev, fget, k5]) (fun h => nomatch h) (fun _ => ?_)
    refine bwp_skip ?_
    simp -implicitDefEqProofs only [go_sem, ↓reduceIte]
    refine hK1 _ ?_; clear hK1
    by_cases k6 : x.kind = 6
    · rw [if_pos k6] at h0
      simp only [Bool.and_eq_true] at h0
      have c1 := refText_pure i6
      have c3 := refOperand_pure i3 i2 h0.1.1.2
      have c4 := refOperand_pure i5 i4 h0.1.2
      refine bwp_seq fun K hK => bwp_region_draw rfl rfl ?_
      simp -implicitDefEqProofs only [go_sem, ↓reduceIte]
      repeat' (first
        | (refine gateK_split (fun hb => ?_) (fun hb => ?_) <;> simp -implicitDefEqProofs only [go_sem, ↓reduceIte, hb])
        | (refine dGateK_split (fun hb => ?_) (fun hb => ?_) <;> simp -implicitDefEqProofs only [go_sem, ↓reduceIte, hb])
        | (refine callK_pure (c1) rfl rfl ?_; simp -implicitDefEqProofs only [go_sem, ↓reduceIte])
        | (refine dCallK_pure (c1) rfl rfl ?_; simp -implicitDefEqProofs only [go_sem, ↓reduceIte])
        | (refine callK_pure (c3) rfl rfl ?_; simp -implicitDefEqProofs only [go_sem, ↓reduceIte])
        | (refine dCallK_pure (c3) rfl rfl ?_; simp -implicitDefEqProofs only [go_sem, ↓reduceIte])
        | (refine callK_pure (c4) rfl rfl ?_; simp -implicitDefEqProofs only [go_sem, ↓reduceIte])
        | (refine dCallK_pure (c4) rfl rfl ?_; simp -implicitDefEqProofs only [go_sem, ↓reduceIte])
        | (rw [if_pos (by (try simp only [List.length_append, List.length_cons, List.length_nil, List.length_map]); omega)]; simp -implicitDefEqProofs only [go_sem, ↓reduceIte]))
      refine ⟨rfl, hK _ ?_⟩; clear hK
      refine bwp_ret ?_
      simp -implicitDefEqProofs only [go_sem, ↓reduceIte]
      refine aend_ret _ rfl rfl ⟨?_, rfl⟩
      simp [fget, k6]
    · rw [if_neg k6] at h0
      cases h0
end Go.Proofs.YtpfbljkfbjjlkaaGreatDoor

/- The document's text of a condition. -/
namespace Go.Proofs.YtpfbljkfbjjlkaaGreatDoor
open Go Go.Jq
set_option maxRecDepth 100000
set_option linter.unusedSimpArgs false
def rowP (first : Bool) (l : List Atom) : List UInt8 := if l = [] then [] else (if first then [32] else [32, 124, 32]) ++ rowT l
def rowsP (rows : List (List Atom)) : List UInt8 := if rows = [] then [] else [32] ++ Lib.join (rows.map rowT) [32, 124, 32]
theorem join_snoc (s x : List UInt8) {l : List (List UInt8)} (h : l ≠ []) : Lib.join (l ++ [x]) s = Lib.join l s ++ s ++ x := by
  rw [join_app s l [x] h (by simp), Lib.join_one]
theorem rowP_snoc (first : Bool) (l : List Atom) (a : Atom) : rowP first (l ++ [a]) = rowP first l ++ (if l = [] then (if first then [32] else [32, 124, 32]) else [32, 38, 32]) ++ atomT a := by
  unfold rowP rowT
  rw [if_neg (by simp), List.map_append]
  by_cases h : l = []
  · subst h; simp [Lib.join_one]
  · rw [if_neg h, if_neg h, List.map_singleton, join_snoc _ _ (by simpa using h)]
    simp
theorem rowsP_snoc (rows : List (List Atom)) (l : List Atom) (hl : l ≠ []) : rowsP (rows ++ [l]) = rowsP rows ++ rowP (decide (rows = [])) l := by
  unfold rowsP rowP
  rw [if_neg (by simp), if_neg hl, List.map_append]
  by_cases h : rows = []
  · subst h; simp [Lib.join_one]
  · rw [if_neg h, List.map_singleton, join_snoc _ _ (by simpa using h)]
    simp [h]
theorem rowP_len {first : Bool} {l : List Atom} (h : l.length ≤ 5000000000000 ∧ ∀ a ∈ l, I64a a) : (rowP first l).length ≤ 350000000000003 := by
  have := rowT_len2 h
  unfold rowP
  split
  · simp
  · split <;> simp <;> omega
theorem rowsP_len {rows : List (List Atom)} (h : FewC2 rows) : (rowsP rows).length ≤ 4200000000000037 := by
  have := rowsT_len2 h
  unfold rowsP
  split
  · simp
  · simp; omega
def rdS (kd : Int) (A : DV) (s : List UInt8) (ex : Fr) : St := ⟨ex ++ [(1, .ptr 0 0), (3, .d (.str s))], [(0, [.d (.int .i64 kd), .d A])], 1⟩
set_option maxHeartbeats 4000000 in
theorem rd_row {kd : Int} {A : DV} {rows : List (List Atom)} (hA : IsSl2 Atom.cells rows A) {i : Nat} (hi : i < rows.length) (h12 : rows[i].length ≤ 5000000000000) (ha : ∀ a ∈ rows[i], I64a a) (hok : ∀ a ∈ rows[i], okAtomB a = true) {s : List UInt8} (hs : s.length ≤ 5000000000000000) {Q : Exit → St → Prop}
    (hQ : Q (.exit 2) (rdS kd A (s ++ rowP (decide (i = 0)) rows[i]) [(4, .d (.int .i64 i))])) :
    BWP Tryz.prog (mbound []) 83 (.loop ac25L0) (rdS kd A s [(5, .d (.int .i64 (0 : Nat))), (4, .d (.int .i64 i))]) Q := by
  have hbig := hA.big
  obtain ⟨ts, d, rest0, hAe, hd1, hjc, hD⟩ := hA.at i hi
  have hi' : (i : Int) < rows.length := by omega
  generalize rows[i] = l at *
  have e0 : s = s ++ rowP (decide (i = 0)) (l.take 0) := by simp [rowP]
  rw [e0]
  refine bwp_count (fun k => rdS kd A (s ++ rowP (decide (i = 0)) (l.take k)) [(5, .d (.int .i64 k)), (4, .d (.int .i64 i))]) l.length ?_
  intro k hk
  have hbl : (rowP (decide (i = 0)) (l.take k)).length ≤ 350000000000003 := rowP_len ⟨by simp; omega, fun a h => ha a (List.mem_of_mem_take h)⟩
  have hemp : (l.take k = []) ↔ k = 0 ∨ l = [] := by rw [List.take_eq_nil_iff]
  generalize hX : s ++ rowP (decide (i = 0)) (l.take k) = X
  have hXl : X.length ≤ 5400000000000000 := by rw [← hX, List.length_append]; omega
  unfold ac25L0 rdS
  simp only [List.cons_append, List.nil_append]
  refine bwp_seq fun K1 hK1 => ?_
  by_cases hlt : k < l.length
  · have hlt' : (k : Int) < l.length := by omega
    obtain ⟨cs, rest, hDe, hdrop, hcs⟩ := hD.at atom_len (by omega) k hlt
    obtain ⟨a1, a2, a3⟩ := ha l[k] (List.getElem_mem hlt)
    have hoka := hok l[k] (List.getElem_mem hlt)
    have hln : l ≠ [] := fun h => by rw [h] at hlt; simp at hlt
    have hnx : s ++ rowP (decide (i = 0)) (l.take (k + 1)) = X ++ (if k = 0 then (if i = 0 then [32] else [32, 124, 32]) else [32, 38, 32]) ++ atomT l[k] := by
      rw [List.take_succ_eq_append_getElem hlt, rowP_snoc, ← hX]
      have : (l.take k = []) = (k = 0) := by rw [propext hemp]; simp [hln]
      simp only [this, decide_eq_true_eq, List.append_assoc]
    generalize l[k] = a at hdrop a1 a2 a3 hoka hnx
    have hw : IntKind.i64.wrap ((k : Int) + 1) = ((k + 1 : Nat) : Int) := by rw [wrap_i64 (by omega) (by omega)]; rfl
    have l1 := itoa_len a1
    have l2 := regT_len a2
    have l3 := itoa_len a3
    have l4 : (locT a.loc).length ≤ 4 := utf8_len _
    refine bwp_seq fun K hK => bwp_region rfl ?_
    simp only [go_sem, ↓reduceIte, hAe, hi', Int.natCast_nonneg, Int.toNat_natCast, hd1, hjc, hD.len, hlt']
    refine hK _ ?_; clear hK
    refine bwp_cond true (by simp [ev, fget, hlt']) (fun _ => ?_) (fun h => nomatch h)
    refine bwp_skip ?_
    refine hK1 _ ?_; clear hK1
    refine bwp_seq fun K1 hK1 => ?_
    refine bwp_block ?_
    refine bwp_seq fun K hK => bwp_region rfl ?_
    simp only [go_sem, ↓reduceIte, hAe, hi', hlt', Int.natCast_nonneg, Int.toNat_natCast, hd1, hjc, hDe, hcs, hdrop, Atom.cells]
    refine hK _ ?_; clear hK
    refine bwp_seq fun K2 hK2 => ?_
    have fin2 : ∀ (S : St) (Y : List UInt8), Y.length ≤ 5500000000000000 → (k = 0 → i = 0 → Y = X) → (k = 0 → i ≠ 0 → Y = X ++ [32, 124]) → (k ≠ 0 → Y = X ++ [32, 38]) →
        Leads (mbound []) 83 S ⟨[(6, .ptr 1 0), (3, .d (.str Y)), (5, .d (.int .i64 k)), (4, .d (.int .i64 i)), (1, .ptr 0 0)], [(0, [.d (.int .i64 kd), .d A]), (1, (Atom.cells a).map .d)], 2⟩ → K2 S := by
      intro S Y hYl y1 y2 y3 hS
      have hY : s ++ rowP (decide (i = 0)) (l.take (k + 1)) = Y ++ [32] ++ atomT a := by
        rw [hnx]
        by_cases hk0 : k = 0
        · by_cases hi0 : i = 0
          · rw [y1 hk0 hi0]; simp [hk0, hi0]
          · rw [y2 hk0 hi0]; simp [hk0, hi0]
        · rw [y3 hk0]; simp [hk0]
      refine hK2 _ ?_; clear hK2
      refine bwp_leads hS ?_
      have hw : IntKind.i64.wrap ((k : Int) + 1) = ((k + 1 : Nat) : Int) := by rw [wrap_i64 (by omega) (by omega)]; rfl
      have hoka' := hoka
      unfold okAtomB at hoka'
      by_cases ht : a.thread = -1
      · rw [if_pos ht] at hoka'
        simp only [Bool.and_eq_true] at hoka'
        have c1 := refLoc_pure hoka'.2
        have c2 := refText_pure a3
        have hge : ¬ (0 : Int) ≤ a.thread := by omega
        refine bwp_seq fun K hK => bwp_region rfl ?_
        simp only [go_sem, ↓reduceIte, Atom.cells, List.map_cons, List.map_nil, hge]
        refine hK _ ?_; clear hK
        refine bwp_cond false (by simp [ev, fget, hge]) (fun h => nomatch h) (fun _ => ?_)
        refine bwp_region_draw rfl rfl ?_
        simp only [go_sem, ↓reduceIte]
        repeat' (first
          | (refine gateK_split (fun hb => ?_) (fun hb => ?_) <;> simp only [go_sem, ↓reduceIte, hb])
          | (refine dGateK_split (fun hb => ?_) (fun hb => ?_) <;> simp only [go_sem, ↓reduceIte, hb])
          | (refine callK_pure (c1) rfl rfl ?_; simp only [go_sem, ↓reduceIte])
          | (refine dCallK_pure (c1) rfl rfl ?_; simp only [go_sem, ↓reduceIte])
          | (refine callK_pure (c2) rfl rfl ?_; simp only [go_sem, ↓reduceIte])
          | (refine dCallK_pure (c2) rfl rfl ?_; simp only [go_sem, ↓reduceIte])
          | (rw [if_pos (by (try simp only [List.length_append, List.length_cons, List.length_nil, List.length_map]); omega)]; simp only [go_sem, ↓reduceIte]))
        refine ⟨rfl, hK1 _ ?_⟩; clear hK1
        refine bwp_region rfl ?_
        simp only [go_sem, ↓reduceIte, hw]
        rw [hY]
        exact ⟨hlt, (Leads.ent [(0, 0)] ⟨by simp [entT, fget, AV.ren, renL, pget, atomT, ht, List.append_assoc], by simp [entM, pinv, mget, mset, renL, AV.ren, pget, renL_append, -List.map_map, atomT, ht, List.append_assoc], rfl, rfl⟩)⟩
      · rw [if_neg ht] at hoka'
        simp only [Bool.and_eq_true, decide_eq_true_eq] at hoka'
        have c1 := refText_pure a1
        have c2 := refText_pure a3
        have c3 := refReg_pure a2
        have hge : (0 : Int) ≤ a.thread := by omega
        refine bwp_seq fun K hK => bwp_region rfl ?_
        simp only [go_sem, ↓reduceIte, Atom.cells, List.map_cons, List.map_nil, hge]
        refine hK _ ?_; clear hK
        refine bwp_cond true (by simp [ev, fget, hge]) (fun _ => ?_) (fun h => nomatch h)
        refine bwp_region_draw rfl rfl ?_
        simp only [go_sem, ↓reduceIte]
        repeat' (first
          | (refine gateK_split (fun hb => ?_) (fun hb => ?_) <;> simp only [go_sem, ↓reduceIte, hb])
          | (refine dGateK_split (fun hb => ?_) (fun hb => ?_) <;> simp only [go_sem, ↓reduceIte, hb])
          | (refine callK_pure (c1) rfl rfl ?_; simp only [go_sem, ↓reduceIte])
          | (refine dCallK_pure (c1) rfl rfl ?_; simp only [go_sem, ↓reduceIte])
          | (refine callK_pure (c2) rfl rfl ?_; simp only [go_sem, ↓reduceIte])
          | (refine dCallK_pure (c2) rfl rfl ?_; simp only [go_sem, ↓reduceIte])
          | (refine callK_pure (c3) rfl rfl ?_; simp only [go_sem, ↓reduceIte])
          | (refine dCallK_pure (c3) rfl rfl ?_; simp only [go_sem, ↓reduceIte])
          | (rw [if_pos (by (try simp only [List.length_append, List.length_cons, List.length_nil, List.length_map]); omega)]; simp only [go_sem, ↓reduceIte]))
        refine ⟨rfl, hK1 _ ?_⟩; clear hK1
        refine bwp_region rfl ?_
        simp only [go_sem, ↓reduceIte, hw]
        rw [hY]
        exact ⟨hlt, (Leads.ent [(0, 0)] ⟨by simp [entT, fget, AV.ren, renL, pget, atomT, ht, List.append_assoc], by simp [entM, pinv, mget, mset, renL, AV.ren, pget, renL_append, -List.map_map, atomT, ht, List.append_assoc], rfl, rfl⟩)⟩
    by_cases hk0 : k = 0
    · have g1 : ¬ (0 : Int) < (k : Int) := by omega
      refine bwp_seq fun K hK => bwp_region rfl ?_
      simp only [go_sem, ↓reduceIte, g1]
      refine hK _ ?_; clear hK
      refine bwp_cond false (by simp [ev, fget, g1]) (fun h => nomatch h) (fun _ => ?_)
      by_cases hi0 : i = 0
      · have g2 : ¬ (0 : Int) < (i : Int) := by omega
        refine bwp_seq fun K hK => bwp_region rfl ?_
        simp only [go_sem, ↓reduceIte, g2]
        refine hK _ ?_; clear hK
        refine bwp_cond false (by simp [ev, fget, g2]) (fun h => nomatch h) (fun _ => ?_)
        refine bwp_skip ?_
        refine fin2 _ X (by omega) (fun _ _ => rfl) (fun _ h => absurd hi0 h) (fun h => absurd hk0 h) ?_
        exact Leads.ent [(0, 0), (1, 1)] ⟨by simp [entT, fget, AV.ren, renL, pget], by simp [entM, pinv, mget, mset, renL, AV.ren, pget, Atom.cells, hAe], rfl, rfl⟩
      · have g2 : (0 : Int) < (i : Int) := by omega
        refine bwp_seq fun K hK => bwp_region rfl ?_
        simp only [go_sem, ↓reduceIte, g2]
        refine hK _ ?_; clear hK
        refine bwp_cond true (by simp [ev, fget, g2]) (fun _ => ?_) (fun h => nomatch h)
        refine bwp_region rfl ?_
        simp only [go_sem, ↓reduceIte]
        repeat' (first
          | (refine gateK_split (fun hb => ?_) (fun hb => ?_) <;> simp only [go_sem, ↓reduceIte, hb])
          | (refine dGateK_split (fun hb => ?_) (fun hb => ?_) <;> simp only [go_sem, ↓reduceIte, hb])
          | (rw [if_pos (by (try simp only [List.length_append, List.length_cons, List.length_nil, List.length_map]); omega)]; simp only [go_sem, ↓reduceIte]))
        refine fin2 _ (X ++ [32, 124]) (by simp; omega) (fun _ h => absurd h hi0) (fun _ _ => rfl) (fun h => absurd hk0 h) ?_
        exact Leads.ent [(0, 0), (1, 1)] ⟨by simp [entT, fget, AV.ren, renL, pget], by simp [entM, pinv, mget, mset, renL, AV.ren, pget, Atom.cells, hAe], rfl, rfl⟩
    · have g1 : (0 : Int) < (k : Int) := by omega
      refine bwp_seq fun K hK => bwp_region rfl ?_
      simp only [go_sem, ↓reduceIte, g1]
      refine hK _ ?_; clear hK
      refine bwp_cond true (by simp [ev, fget, g1]) (fun _ => ?_) (fun h => nomatch h)
      refine bwp_region rfl ?_
      simp only [go_sem, ↓reduceIte]
      repeat' (first
        | (refine gateK_split (fun hb => ?_) (fun hb => ?_) <;> simp only [go_sem, ↓reduceIte, hb])
        | (refine dGateK_split (fun hb => ?_) (fun hb => ?_) <;> simp only [go_sem, ↓reduceIte, hb])
        | (rw [if_pos (by (try simp only [List.length_append, List.length_cons, List.length_nil, List.length_map]); omega)]; simp only [go_sem, ↓reduceIte]))
      refine fin2 _ (X ++ [32, 38]) (by simp; omega) (fun h => absurd h hk0) (fun h => absurd h hk0) (fun _ => rfl) ?_
      exact Leads.ent [(0, 0), (1, 1)] ⟨by simp [entT, fget, AV.ren, renL, pget], by simp [entM, pinv, mget, mset, renL, AV.ren, pget, Atom.cells, hAe], rfl, rfl⟩
  · have hlt' : ¬ (k : Int) < l.length := by omega
    have hin : k = l.length := by omega
    subst hin
    refine bwp_seq fun K hK => bwp_region rfl ?_
    simp only [go_sem, ↓reduceIte, hAe, hi', Int.natCast_nonneg, Int.toNat_natCast, hd1, hjc, hD.len, hlt']
    refine hK _ ?_; clear hK
    refine bwp_cond false (by simp [ev, fget, hlt']) (fun h => nomatch h) (fun _ => ?_)
    rw [List.take_length] at hX
    refine bwp_leads (S' := rdS kd A (s ++ rowP (decide (i = 0)) l) [(4, .d (.int .i64 i))]) (Leads.ent [(0, 0)] ⟨by simp [entT, fget, AV.ren, renL, pget, rdS, hX, hAe], by simp [entM, pinv, mget, mset, renL, AV.ren, pget, renL_append, -List.map_map, rdS, hX, hAe], rfl, rfl⟩) ?_
    exact bwp_exit hQ
set_option maxHeartbeats 4000000 in
theorem rd_rows {kd : Int} {A : DV} {rows : List (List Atom)} (hA : IsSl2 Atom.cells rows A) (hf : FewC2 rows) (hok : ∀ l ∈ rows, l ≠ [] ∧ ∀ a ∈ l, okAtomB a = true) {s : List UInt8} (hs : s.length ≤ 1000) {Q : Exit → St → Prop}
    (hQ : Q (.exit 0) (rdS kd A (s ++ rowsP rows) [])) :
    BWP Tryz.prog (mbound []) 83 (.loop ac25L1) (rdS kd A s [(4, .d (.int .i64 (0 : Nat)))]) Q := by
  have hbig := hA.big
  have e0 : s = s ++ rowsP (rows.take 0) := by simp [rowsP]
  rw [e0]
  refine bwp_count (fun i => rdS kd A (s ++ rowsP (rows.take i)) [(4, .d (.int .i64 i))]) rows.length ?_
  intro i hi
  have hbl : (rowsP (rows.take i)).length ≤ 4200000000000037 := rowsP_len ⟨by have := hf.1; simp; omega, fun l h => hf.2 l (List.mem_of_mem_take h)⟩
  generalize hX : s ++ rowsP (rows.take i) = X
  have hXl : X.length ≤ 5000000000000000 := by rw [← hX, List.length_append]; omega
  unfold ac25L1 rdS
  simp only [List.cons_append, List.nil_append]
  refine bwp_seq fun K1 hK1 => ?_
  by_cases hlt : i < rows.length
  · have hlt' : (i : Int) < rows.length := by omega
    have hm := List.getElem_mem hlt
    have hw : IntKind.i64.wrap ((i : Int) + 1) = ((i + 1 : Nat) : Int) := by rw [wrap_i64 (by omega) (by omega)]; rfl
    have hnx : s ++ rowsP (rows.take (i + 1)) = X ++ rowP (decide (i = 0)) rows[i] := by
      rw [List.take_succ_eq_append_getElem hlt, rowsP_snoc _ _ (hok _ hm).1, ← hX, List.append_assoc]
      have hr : rows ≠ [] := fun h => by rw [h] at hlt; simp at hlt
      have : (rows.take i = []) = (i = 0) := by apply propext; rw [List.take_eq_nil_iff]; simp [hr]
      simp only [this]
    refine bwp_seq fun K hK => bwp_region rfl ?_
    simp only [go_sem, ↓reduceIte, hA.len, hlt']
    refine hK _ ?_; clear hK
    refine bwp_cond true (by simp [ev, fget, hlt']) (fun _ => ?_) (fun h => nomatch h)
    refine bwp_skip ?_
    refine hK1 _ ?_; clear hK1
    refine bwp_seq fun K1 hK1 => ?_
    refine bwp_block ?_
    refine bwp_seq fun K hK => bwp_region rfl ?_
    simp only [go_sem, ↓reduceIte]
    refine hK _ ?_; clear hK
    refine bwp_block ?_
    refine bwp_leads (S' := rdS kd A X [(5, .d (.int .i64 (0 : Nat))), (4, .d (.int .i64 i))]) (Leads.ent [(0, 0)] ⟨by simp [entT, fget, AV.ren, renL, pget, rdS], by simp [entM, pinv, mget, mset, renL, AV.ren, pget, renL_append, -List.map_map, rdS], rfl, rfl⟩) ?_
    refine rd_row hA hlt (hf.2 _ hm).1 (hf.2 _ hm).2 (hok _ hm).2 hXl ?_
    unfold rdS
    simp only [List.cons_append, List.nil_append]
    simp only [go_sem, ↓reduceIte]
    refine hK1 _ ?_; clear hK1
    refine bwp_region rfl ?_
    simp only [go_sem, ↓reduceIte, hw]
    rw [hnx]
    exact ⟨hlt, (Leads.ent [(0, 0)] ⟨by simp [entT, fget, AV.ren, renL, pget], by simp [entM, pinv, mget, mset, renL, AV.ren, pget, renL_append, -List.map_map], rfl, rfl⟩)⟩
  · have hlt' : ¬ (i : Int) < rows.length := by omega
    have hin : i = rows.length := by omega
    subst hin
    refine bwp_seq fun K hK => bwp_region rfl ?_
    simp only [go_sem, ↓reduceIte, hA.len, hlt']
    refine hK _ ?_; clear hK
    refine bwp_cond false (by simp [ev, fget, hlt']) (fun h => nomatch h) (fun _ => ?_)
    rw [List.take_length] at hX
    refine bwp_leads (S' := rdS kd A (s ++ rowsP rows) []) (Leads.ent [(0, 0)] ⟨by simp [entT, fget, AV.ren, renL, pget, rdS, hX], by simp [entM, pinv, mget, mset, renL, AV.ren, pget, renL_append, -List.map_map, rdS, hX], rfl, rfl⟩) ?_
    exact bwp_exit hQ
set_option maxHeartbeats 4000000 in
theorem refCondT_pure {kd : Int} {A : DV} {rows : List (List Atom)} (hA : IsSl2 Atom.cells rows A) (hf : FewC2 rows) : Pure Tryz.prog 25 [.agg [.d (.int .i64 kd), .d A]] (.d (.str (condT kd rows))) := by
  have hok := refCond_pure hA kd
  refine acalls_of Tryz.func25 ac25_ok Tryz.ntmps25 Tryz.results25 rfl ?_
  unfold ac25
  refine bwp_seq fun K hK => bwp_region rfl ?_
  simp only [go_sem, ↓reduceIte]
  refine hK _ ?_; clear hK
  refine bwp_seq fun K1 hK1 => ?_
  refine bwp_seq fun K hK => bwp_region rfl ?_
  simp only [go_sem, ↓reduceIte]
  refine callK_pure hok rfl rfl ?_
  cases hb : okCondB kd rows with
  | false =>
    simp only [go_sem, ↓reduceIte]
    refine hK _ ?_; clear hK
    refine bwp_cond true (by simp [ev, fget]) (fun _ => ?_) (fun h => nomatch h)
    refine bwp_seq fun K hK => bwp_region rfl ?_
    simp only [go_sem, ↓reduceIte]
    refine hK _ ?_; clear hK
    refine bwp_ret ?_
    simp only [go_sem]
    refine aend_ret _ rfl rfl ⟨?_, rfl⟩
    simp [fget, condT, hb]
  | true =>
    by_cases h0 : kd = 0
    · simp only [go_sem, ↓reduceIte, h0]
      refine hK _ ?_; clear hK
      refine bwp_cond true (by simp [ev, fget]) (fun _ => ?_) (fun h => nomatch h)
      refine bwp_seq fun K hK => bwp_region rfl ?_
      simp only [go_sem, ↓reduceIte]
      refine hK _ ?_; clear hK
      refine bwp_ret ?_
      simp only [go_sem]
      refine aend_ret _ rfl rfl ⟨?_, rfl⟩
      simp [fget, condT, h0]
    · obtain ⟨hk, hne, hall⟩ := rows_ok h0 hb
      simp only [go_sem, ↓reduceIte, h0]
      refine hK _ ?_; clear hK
      refine bwp_cond false (by simp [ev, fget, h0]) (fun h => nomatch h) (fun _ => ?_)
      refine bwp_skip ?_
      refine hK1 _ ?_; clear hK1
      refine bwp_seq fun K hK => bwp_region rfl ?_
      simp only [go_sem, ↓reduceIte]
      refine hK _ ?_; clear hK
      refine bwp_seq fun K2 hK2 => ?_
      have hct : condT kd rows = askW kd ++ rowsP rows ++ [32, 59] := by
        unfold condT rowsP
        rw [if_neg (by simp [h0, hb]), wordT_eq, if_neg hne]
        simp
      have hrl := rowsP_len hf
      have hkl : (askW kd).length ≤ 6 := by unfold askW; split <;> simp
      have fin : ∀ S : St, Leads (mbound []) 83 S (rdS kd A (askW kd) []) → K2 S := by
        intro S hS
        refine hK2 _ ?_; clear hK2
        refine bwp_leads hS ?_
        unfold rdS
        simp only [List.nil_append]
        refine bwp_seq fun K3 hK3 => ?_
        refine bwp_seq fun K hK => bwp_region rfl ?_
        simp only [go_sem, ↓reduceIte]
        refine hK _ ?_; clear hK
        refine bwp_block ?_
        refine bwp_leads (S' := rdS kd A (askW kd) [(4, .d (.int .i64 (0 : Nat)))]) (Leads.ent [(0, 0)] ⟨by simp [entT, fget, AV.ren, renL, pget, rdS], by simp [entM, pinv, mget, mset, renL, AV.ren, pget, renL_append, -List.map_map, rdS], rfl, rfl⟩) ?_
        refine rd_rows hA hf hall (by omega) ?_
        unfold rdS
        simp only [List.nil_append]
        simp only [go_sem, ↓reduceIte]
        refine hK3 _ ?_; clear hK3
        refine bwp_seq fun K hK => bwp_region rfl ?_
        simp only [go_sem, ↓reduceIte]
        repeat' (first
          | (refine gateK_split (fun hb => ?_) (fun hb => ?_) <;> simp only [go_sem, ↓reduceIte, hb])
          | (refine dGateK_split (fun hb => ?_) (fun hb => ?_) <;> simp only [go_sem, ↓reduceIte, hb])
          | (rw [if_pos (by (try simp only [List.length_append, List.length_cons, List.length_nil, List.length_map]); omega)]; simp only [go_sem, ↓reduceIte]))
        refine hK _ ?_; clear hK
        refine bwp_ret ?_
        simp only [go_sem]
        refine aend_ret _ rfl rfl ⟨?_, rfl⟩
        simp [fget, hct]
      by_cases h2 : kd = 2
      · refine bwp_seq fun K hK => bwp_region rfl ?_
        simp only [go_sem, ↓reduceIte, h2]
        refine hK _ ?_; clear hK
        refine bwp_cond true (by simp [ev, fget, h2]) (fun _ => ?_) (fun h => nomatch h)
        refine bwp_region rfl ?_
        simp only [go_sem, ↓reduceIte]
        exact fin _ (Leads.ent [(0, 0)] ⟨by simp [entT, fget, AV.ren, renL, pget, rdS, askW, h2], by simp [entM, pinv, mget, mset, mdel, renL, AV.ren, pget, renL_append, -List.map_map, rdS, askW, h2], rfl, rfl⟩)
      · refine bwp_seq fun K hK => bwp_region rfl ?_
        simp only [go_sem, ↓reduceIte, h2]
        refine hK _ ?_; clear hK
        refine bwp_cond false (by simp [ev, fget, h2]) (fun h => nomatch h) (fun _ => ?_)
        refine bwp_skip ?_
        exact fin _ (Leads.ent [(0, 0)] ⟨by simp [entT, fget, AV.ren, renL, pget, rdS, askW, h2], by simp [entM, pinv, mget, mset, mdel, renL, AV.ren, pget, renL_append, -List.map_map, rdS, askW, h2], rfl, rfl⟩)
end Go.Proofs.YtpfbljkfbjjlkaaGreatDoor

/- Which tests may be, by the document's answer, told without a heap. -/
namespace Go.Proofs.YtpfbljkfbjjlkaaGreatDoor
open Go Go.Jq
set_option maxRecDepth 100000
set_option linter.unusedSimpArgs false
theorem refInits {l : List Init} {nm : List UInt8} {I T A : DV} {kd : Int} (hI : IsSl Init.cells l I) {Q : Exit → St → Prop}
    (hbad : badInitB l = true → ∀ S, fget S.t 2 = .d (.bool false) → Q .ret S) (hgood : badInitB l = false → Q (.exit 0) (rcS [.str nm, I, T, .int .i64 kd, A] [])) :
    BWP Tryz.prog (mbound []) 58 (.loop ac21L0) (rcS [.str nm, I, T, .int .i64 kd, A] [(3, .d (.int .i64 (0 : Nat)))]) Q := by
  have hbig := hI.1
  have hlen' := hI.len
  refine bwp_countI (fun k => rcS [.str nm, I, T, .int .i64 kd, A] [(3, .d (.int .i64 (k : Nat)))]) (fun k => ∀ a ∈ l.take k, isLocB a.loc = true) l.length (by simp) ?_
  intro k hk hp
  unfold ac21L0 rcS
  refine bwp_seq fun K1 hK1 => ?_
  by_cases hlt : k < l.length
  · have hlt' : (k : Int) < l.length := by omega
    obtain ⟨cs, rest, hIe, hdrop, hcs⟩ := hI.at init_len (by omega) k hlt
    have hw : IntKind.i64.wrap ((k : Int) + 1) = ((k + 1 : Nat) : Int) := by rw [wrap_i64 (by omega) (by omega)]; rfl
    have hmem : l[k] ∈ l := List.getElem_mem hlt
    have htk := take_snoc l k hlt
    generalize l[k] = a at *
    refine bwp_seq fun K hK => bwp_region rfl ?_
    simp only [go_sem, ↓reduceIte, hlen', hlt']
    refine hK _ ?_; clear hK
    refine bwp_cond true (by simp [ev, fget]) (fun _ => ?_) (fun h => nomatch h)
    refine bwp_skip ?_
    refine hK1 _ ?_; clear hK1
    refine bwp_seq fun K1 hK1 => ?_
    refine bwp_block ?_
    refine bwp_seq fun K hK => bwp_region rfl ?_
    simp only [go_sem, ↓reduceIte, hIe, hlt', Int.natCast_nonneg, Int.toNat_natCast, hcs, hdrop, Init.cells]
    refine callK_pure (refNamed_pure a.loc) rfl rfl ?_
    simp only [go_sem, ↓reduceIte]
    refine hK _ ?_; clear hK
    cases hok : isLocB a.loc
    · refine bwp_cond true (by simp [ev, fget]) (fun _ => ?_) (fun h => nomatch h)
      refine bwp_seq fun K hK => bwp_region rfl ?_
      simp only [go_sem, ↓reduceIte]
      refine hK _ ?_; clear hK
      refine bwp_ret ?_
      simp only [go_sem, ↓reduceIte]
      exact hbad (List.any_eq_true.2 ⟨a, hmem, by simp [hok]⟩) _ rfl
    · refine bwp_cond false (by simp [ev, fget]) (fun h => nomatch h) (fun _ => ?_)
      refine bwp_skip ?_
      simp only [go_sem, ↓reduceIte]
      refine hK1 _ ?_; clear hK1
      refine bwp_region rfl ?_
      simp only [go_sem, ↓reduceIte, hw]
      refine ⟨hlt, ?_, Leads.ent [] ⟨by simp [entT, fget, AV.ren, pget, hIe], by simp [entM], rfl, rfl⟩⟩
      intro b hb
      rw [htk, List.mem_append] at hb
      rcases hb with hb | hb
      · exact hp b hb
      · simp only [List.mem_singleton] at hb; rw [hb]; exact hok
  · have hlt' : ¬ (k : Int) < l.length := by omega
    have hin : k = l.length := by omega
    subst hin
    rw [List.take_of_length_le (Nat.le_refl _)] at hp
    refine bwp_seq fun K hK => bwp_region rfl ?_
    simp only [go_sem, ↓reduceIte, hlen', hlt']
    refine hK _ ?_; clear hK
    refine bwp_cond false (by simp [ev, fget]) (fun h => nomatch h) (fun _ => ?_)
    refine bwp_leads (S' := rcS [.str nm, I, T, .int .i64 kd, A] []) (Leads.ent [] ⟨by simp [entT, fget, AV.ren, renL, pget, rcS], by simp [entM, pinv, mget, mset, renL, AV.ren, pget, renL_append, -List.map_map, rcS], rfl, rfl⟩) ?_
    refine bwp_exit (hgood ?_)
    unfold badInitB
    rw [List.any_eq_false]
    intro a ha
    rw [hp a ha]; decide
theorem refThread {rows : List (List Ins)} {nm : List UInt8} {I T A : DV} {kd : Int} (hT : IsSl2 Ins.cells rows T) {j : Nat} (hj : j < rows.length) {Q : Exit → St → Prop}
    (hbad : badThreadB rows[j] = true → ∀ S, fget S.t 2 = .d (.bool false) → Q .ret S) (hgood : badThreadB rows[j] = false → Q (.exit 4) (rcS [.str nm, I, T, .int .i64 kd, A] [(4, .d (.int .i64 j))])) :
    BWP Tryz.prog (mbound []) 58 (.loop ac21L1) (rcS [.str nm, I, T, .int .i64 kd, A] [(5, .d (.int .i64 (0 : Nat))), (4, .d (.int .i64 j))]) Q := by
  obtain ⟨cs2, d, rest2, hTe, hd, hjc, hD⟩ := hT.at j hj
  have hjl : (j : Int) < rows.length := by omega
  generalize rows[j] = l at hD hbad hgood
  have hbig := hD.1
  have hlen' := hD.len
  refine bwp_countI (fun k => rcS [.str nm, I, T, .int .i64 kd, A] [(5, .d (.int .i64 (k : Nat))), (4, .d (.int .i64 j))]) (fun k => ∀ a ∈ l.take k, okInsB a = true) l.length (by simp) ?_
  intro k hk hp
  unfold ac21L1 rcS
  refine bwp_seq fun K1 hK1 => ?_
  by_cases hlt : k < l.length
  · have hlt' : (k : Int) < l.length := by omega
    obtain ⟨cs, rest, hIe, hdrop, hcs⟩ := hD.at ins_len (by omega) k hlt
    have hw : IntKind.i64.wrap ((k : Int) + 1) = ((k + 1 : Nat) : Int) := by rw [wrap_i64 (by omega) (by omega)]; rfl
    have hl9 : ∀ (n : Nat), (9 ≤ (n + 1 + 1 + 1 + 1 + 1 + 1 + 1 + 1 + 1)) = True := fun n => by simp
    have hmem : l[k] ∈ l := List.getElem_mem hlt
    have htk := take_snoc l k hlt
    generalize l[k] = a at *
    refine bwp_seq fun K hK => bwp_region rfl ?_
    simp only [go_sem, ↓reduceIte, hTe, hjl, Int.natCast_nonneg, Int.toNat_natCast, Nat.mul_one, hjc, hd, hlen', hlt']
    refine hK _ ?_; clear hK
    refine bwp_cond true (by simp [ev, fget]) (fun _ => ?_) (fun h => nomatch h)
    refine bwp_skip ?_
    refine hK1 _ ?_; clear hK1
    refine bwp_seq fun K1 hK1 => ?_
    refine bwp_block ?_
    refine bwp_seq fun K hK => bwp_region rfl ?_
    simp only [go_sem, ↓reduceIte, hTe, hjl, Nat.mul_one, hjc, hd, hIe, hlt', Int.natCast_nonneg, Int.toNat_natCast, hcs, hdrop, Ins.cells, hl9]
    refine callK_pure (refIns_pure a) rfl rfl ?_
    rw [refIns_eq]
    simp only [go_sem, ↓reduceIte]
    refine hK _ ?_; clear hK
    cases hok : okInsB a
    · refine bwp_cond true (by simp [ev, fget]) (fun _ => ?_) (fun h => nomatch h)
      refine bwp_seq fun K hK => bwp_region rfl ?_
      simp only [go_sem, ↓reduceIte]
      refine hK _ ?_; clear hK
      refine bwp_ret ?_
      simp only [go_sem, ↓reduceIte]
      exact hbad (List.any_eq_true.2 ⟨a, hmem, by simp [hok]⟩) _ rfl
    · refine bwp_cond false (by simp [ev, fget]) (fun h => nomatch h) (fun _ => ?_)
      refine bwp_skip ?_
      simp only [go_sem, ↓reduceIte]
      refine hK1 _ ?_; clear hK1
      refine bwp_region rfl ?_
      simp only [go_sem, ↓reduceIte, hw]
      refine ⟨hlt, ?_, Leads.ent [] ⟨by simp [entT, fget, AV.ren, pget, hTe], by simp [entM], rfl, rfl⟩⟩
      intro b hb
      rw [htk, List.mem_append] at hb
      rcases hb with hb | hb
      · exact hp b hb
      · simp only [List.mem_singleton] at hb; rw [hb]; exact hok
  · have hlt' : ¬ (k : Int) < l.length := by omega
    have hin : k = l.length := by omega
    subst hin
    rw [List.take_of_length_le (Nat.le_refl _)] at hp
    refine bwp_seq fun K hK => bwp_region rfl ?_
    simp only [go_sem, ↓reduceIte, hTe, hjl, Int.natCast_nonneg, Int.toNat_natCast, Nat.mul_one, hjc, hd, hlen', hlt']
    refine hK _ ?_; clear hK
    refine bwp_cond false (by simp [ev, fget]) (fun h => nomatch h) (fun _ => ?_)
    refine bwp_leads (S' := rcS [.str nm, I, T, .int .i64 kd, A] [(4, .d (.int .i64 j))]) (Leads.ent [] ⟨by simp [entT, fget, AV.ren, renL, pget, rcS, hTe], by simp [entM, pinv, mget, mset, renL, AV.ren, pget, renL_append, -List.map_map, rcS, hTe], rfl, rfl⟩) ?_
    refine bwp_exit (hgood ?_)
    unfold badThreadB
    rw [List.any_eq_false]
    intro a ha
    rw [hp a ha]; decide
theorem refThreads {rows : List (List Ins)} {nm : List UInt8} {I T A : DV} {kd : Int} (hT : IsSl2 Ins.cells rows T) {Q : Exit → St → Prop}
    (hbad : rows.any badThreadB = true → ∀ S, fget S.t 2 = .d (.bool false) → Q .ret S) (hgood : rows.any badThreadB = false → ∀ S, Q (.exit 2) S) :
    BWP Tryz.prog (mbound []) 58 (.loop ac21L2) (rcS [.str nm, I, T, .int .i64 kd, A] [(4, .d (.int .i64 (0 : Nat)))]) Q := by
  have hbig := hT.big
  have hlen' := hT.len
  refine bwp_countI (fun j => rcS [.str nm, I, T, .int .i64 kd, A] [(4, .d (.int .i64 (j : Nat)))]) (fun j => ∀ l ∈ rows.take j, badThreadB l = false) rows.length (by simp) ?_
  intro j hj hp
  unfold ac21L2
  refine bwp_seq fun K1 hK1 => ?_
  by_cases hlt : j < rows.length
  · have hlt' : (j : Int) < rows.length := by omega
    have hw : IntKind.i64.wrap ((j : Int) + 1) = ((j + 1 : Nat) : Int) := by rw [wrap_i64 (by omega) (by omega)]; rfl
    have hmem : rows[j] ∈ rows := List.getElem_mem hlt
    have htk := take_snoc rows j hlt
    have hrow := @refThread rows nm I T A kd hT j hlt
    unfold rcS
    refine bwp_seq fun K hK => bwp_region rfl ?_
    simp only [go_sem, ↓reduceIte, hlen', hlt']
    refine hK _ ?_; clear hK
    refine bwp_cond true (by simp [ev, fget]) (fun _ => ?_) (fun h => nomatch h)
    refine bwp_skip ?_
    refine hK1 _ ?_; clear hK1
    refine bwp_seq fun K1 hK1 => ?_
    refine bwp_block ?_
    refine bwp_seq fun K hK => bwp_region rfl ?_
    simp only [go_sem, ↓reduceIte]
    refine hK _ ?_; clear hK
    refine bwp_block ?_
    refine bwp_leads (S' := rcS [.str nm, I, T, .int .i64 kd, A] [(5, .d (.int .i64 (0 : Nat))), (4, .d (.int .i64 j))]) (Leads.ent [] ⟨by simp [entT, fget, AV.ren, renL, pget, rcS], by simp [entM, pinv, mget, mset, renL, AV.ren, pget, renL_append, -List.map_map, rcS], rfl, rfl⟩) ?_
    refine hrow ?_ ?_
    · intro hb S hS
      simp only [go_sem, ↓reduceIte]
      exact hbad (List.any_eq_true.2 ⟨_, hmem, hb⟩) _ hS
    · intro hb
      unfold rcS
      simp only [go_sem, ↓reduceIte]
      refine hK1 _ ?_; clear hK1
      refine bwp_region rfl ?_
      simp only [go_sem, ↓reduceIte, hw]
      refine ⟨hlt, ?_, Leads.ent [] ⟨by simp [rcS, entT, fget, AV.ren, pget], by simp [rcS, entM], rfl, rfl⟩⟩
      intro l hl
      rw [htk, List.mem_append] at hl
      rcases hl with hl | hl
      · exact hp l hl
      · simp only [List.mem_singleton] at hl
        subst hl
        exact hb
  · have hlt' : ¬ (j : Int) < rows.length := by omega
    have hin : j = rows.length := by omega
    subst hin
    rw [List.take_of_length_le (Nat.le_refl _)] at hp
    unfold rcS
    refine bwp_seq fun K hK => bwp_region rfl ?_
    simp only [go_sem, ↓reduceIte, hlen', hlt']
    refine hK _ ?_; clear hK
    refine bwp_cond false (by simp [ev, fget]) (fun h => nomatch h) (fun _ => ?_)
    refine bwp_exit (hgood ?_ _)
    rw [List.any_eq_false]
    intro l hl
    rw [hp l hl]; decide
theorem refTest_pure {t : Test} {cs : List DV} (hT : IsTest t cs) (hn : t.name.length ≤ 9223372036854775807) : Pure Tryz.prog 21 [.agg (cs.map .d)] (.d (.bool (okB t))) := by
  obtain ⟨I, T, A, rfl, hI, hTh, hA⟩ := hT
  refine acalls_of Tryz.func21 ac21_ok Tryz.ntmps21 Tryz.results21 rfl ?_
  unfold ac21
  refine bwp_seq fun K hK => bwp_region rfl ?_
  simp only [go_sem, ↓reduceIte]
  refine hK _ ?_; clear hK
  refine bwp_leads (S' := rcS [.str t.name, I, T, .int .i64 t.kind, A] []) (Leads.frz [] [(0, [.str t.name, I, T, .int .i64 t.kind, A])] ⟨?_, ?_, rfl, rfl, ?_⟩) ?_
  · simp [rcS, frzT, fget, AV.cv, cvL, zget, pget]
  · simp [rcS, frzM, pinv, zget, mget, cvL, AV.cv]
  · simp [zokFrom, mget, cvL, AV.cv]
  unfold rcS
  refine bwp_seq fun K1 hK1 => ?_
  refine bwp_seq fun K hK => bwp_region rfl ?_
  have rest : ∀ (t' : Fr) (b : Bool), fget t' 15 = .d (.bool b) → fget t' 1 = .dptr [.str t.name, I, T, .int .i64 t.kind, A] → fget t' 2 = .d (.bool false) → b = !(isWordB t.name && okCondB t.kind t.rows) → K ⟨t', [], 0⟩ := by
    intro t' b h15 h1 h2 hb
    refine hK _ ?_; clear hK
    cases b
    · have hwc : isWordB t.name = true ∧ okCondB t.kind t.rows = true := by
        have := hb.symm
        simpa using this
      refine bwp_cond false (by simp [ev, fget, h15]) (fun h => nomatch h) (fun _ => ?_)
      refine bwp_skip ?_
      simp only [go_sem, ↓reduceIte]
      refine hK1 _ ?_; clear hK1
      refine bwp_seq fun K2 hK2 => ?_
      refine bwp_seq fun K3 hK3 => ?_
      refine bwp_region rfl ?_
      simp only [go_sem, ↓reduceIte]
      refine hK3 _ ?_; clear hK3
      refine bwp_block ?_
      refine bwp_leads (S' := rcS [.str t.name, I, T, .int .i64 t.kind, A] [(3, .d (.int .i64 (0 : Nat)))]) (Leads.ent [] ⟨by simp [entT, fget, AV.ren, renL, pget, rcS, h1, h2], by simp [entM, pinv, mget, mset, renL, AV.ren, pget, renL_append, -List.map_map, rcS, h1, h2], rfl, rfl⟩) ?_
      refine refInits hI ?_ ?_
      · intro hbad S hS
        simp only [go_sem, ↓reduceIte]
        exact aend_ret (.d (.bool false)) (by simp [resA, resVs, resV, hS]) rfl ⟨by simp [okB, hbad], rfl⟩
      · intro hi
        simp only [go_sem, ↓reduceIte]
        refine hK2 _ ?_; clear hK2
        unfold rcS
        refine bwp_seq fun K2 hK2 => ?_
        refine bwp_seq fun K3 hK3 => ?_
        refine bwp_region rfl ?_
        simp only [go_sem, ↓reduceIte]
        refine hK3 _ ?_; clear hK3
        refine bwp_block ?_
        refine bwp_leads (S' := rcS [.str t.name, I, T, .int .i64 t.kind, A] [(4, .d (.int .i64 (0 : Nat)))]) (Leads.ent [] ⟨by simp [entT, fget, AV.ren, renL, pget, rcS], by simp [entM, pinv, mget, mset, renL, AV.ren, pget, renL_append, -List.map_map, rcS], rfl, rfl⟩) ?_
        refine refThreads hTh ?_ ?_
        · intro hbad S hS
          simp only [go_sem, ↓reduceIte]
          exact aend_ret (.d (.bool false)) (by simp [resA, resVs, resV, hS]) rfl ⟨by simp [okB, hbad], rfl⟩
        · rintro hth ⟨t2, m2, n2⟩
          simp only [go_sem, ↓reduceIte]
          refine hK2 _ ?_; clear hK2
          refine bwp_seq fun K hK => bwp_region (by simp [mbound]) ?_
          simp only [go_sem, ↓reduceIte]
          refine hK _ ?_; clear hK
          refine bwp_ret ?_
          simp only [go_sem]
          refine aend_ret _ rfl rfl ⟨?_, rfl⟩
          simp [fget, okB, hwc.1, hwc.2, hi, hth]
    · refine bwp_cond true (by simp [ev, fget, h15]) (fun _ => ?_) (fun h => nomatch h)
      refine bwp_seq fun K hK => bwp_region rfl ?_
      simp only [go_sem, ↓reduceIte]
      refine hK _ ?_; clear hK
      refine bwp_ret ?_
      simp only [go_sem]
      refine aend_ret _ rfl rfl ⟨?_, rfl⟩
      have : okB t = false := by
        have h := hb.symm
        simp only [Bool.not_eq_true', Bool.and_eq_false_iff] at h
        rcases h with h | h <;> simp [okB, h]
      simp [fget, this]
  clear hK
  simp only [go_sem, ↓reduceIte]
  refine callK_pure (refWord_pure t.name hn) rfl rfl ?_
  simp only [go_sem, ↓reduceIte]
  repeat' (first
    | (refine gateK_split (fun hb => ?_) (fun hb => ?_) <;> simp only [go_sem, ↓reduceIte, hb])
    | (refine dGateK_split (fun hb => ?_) (fun hb => ?_) <;> simp only [go_sem, ↓reduceIte, hb])
    | (refine callK_pure (refCond_pure hA t.kind) rfl rfl ?_; simp only [go_sem, ↓reduceIte])
    | (refine dCallK_pure (refCond_pure hA t.kind) rfl rfl ?_; simp only [go_sem, ↓reduceIte])
    | (rw [if_pos (by (try simp only [List.length_append, List.length_cons, List.length_nil, List.length_map]); omega)]; simp only [go_sem, ↓reduceIte]))
  all_goals exact rest _ _ rfl rfl rfl (by clear rest hK1; simp_all)
end Go.Proofs.YtpfbljkfbjjlkaaGreatDoor

/- The document's text of a test. -/
namespace Go.Proofs.YtpfbljkfbjjlkaaGreatDoor
open Go Go.Jq
set_option maxRecDepth 100000
set_option linter.unusedSimpArgs false
theorem initsL_len' {l : List Init} (h : l.length ≤ 41) (hv : ∀ x ∈ l, I64 x.value) : (l.flatMap initL).length ≤ 1230 := by
  have h1 := flat_len initL 30 l (fun x hx => initL_len (hv x hx))
  have h2 : l.length * 30 ≤ 41 * 30 := Nat.mul_le_mul_right _ h
  omega
def rprS (cs : List DV) (s : List UInt8) (ex : Fr) : St := ⟨ex ++ [(1, .ptr 0 0), (3, .d (.str s))], [(0, cs.map .d)], 1⟩
set_option maxHeartbeats 2000000 in
theorem rp_inits {nm : List UInt8} {I T A : DV} {kd : Int} {l : List Init} (hI : IsSl Init.cells l I) (hv : ∀ x ∈ l, I64 x.value) (hok : ∀ x ∈ l, isLocB x.loc = true) (h41 : l.length ≤ 41) {s : List UInt8} (hs : s.length ≤ 6000000000000000) {Q : Exit → St → Prop}
    (hQ : Q (.exit 0) (rprS [.str nm, I, T, .int .i64 kd, A] (s ++ l.flatMap initL) [])) :
    BWP Tryz.prog (mbound []) 93 (.loop ac7L0) (rprS [.str nm, I, T, .int .i64 kd, A] s [(4, .d (.int .i64 (0 : Nat)))]) Q := by
  have e0 : s = s ++ (l.take 0).flatMap initL := by simp
  rw [e0]
  refine bwp_count (fun i => rprS [.str nm, I, T, .int .i64 kd, A] (s ++ (l.take i).flatMap initL) [(4, .d (.int .i64 i))]) l.length ?_
  intro i hi
  have hbl : ((l.take i).flatMap initL).length ≤ 1230 := initsL_len' (by simp; omega) (fun x hx => hv x (List.mem_of_mem_take hx))
  generalize hX : s ++ (l.take i).flatMap initL = X
  have hXl : X.length ≤ 6100000000000000 := by rw [← hX]; simp only [List.length_append]; omega
  unfold ac7L0 rprS
  simp only [List.cons_append, List.nil_append, List.map_cons, List.map_nil]
  refine bwp_seq fun K1 hK1 => ?_
  by_cases hlt : i < l.length
  · have hlt' : (i : Int) < l.length := by omega
    obtain ⟨cs', rest, hIe, hdrop, hcs⟩ := hI.at init_len (by omega) i hlt
    have hva := hv l[i] (List.getElem_mem hlt)
    have hlo := hok l[i] (List.getElem_mem hlt)
    have hnx : s ++ (l.take (i + 1)).flatMap initL = X ++ initL l[i] := by rw [flat_take initL hlt, ← hX, List.append_assoc]
    generalize l[i] = x at hdrop hva hlo hnx
    have l1 := itoa_len hva
    have l4 : (locT x.loc).length ≤ 4 := utf8_len _
    have c1 := refLoc_pure hlo
    have c2 := refText_pure hva
    refine bwp_seq fun K hK => bwp_region rfl ?_
    simp only [go_sem, ↓reduceIte, hI.len, hlt']
    refine hK _ ?_; clear hK
    refine bwp_cond true (by simp [ev, fget, hlt']) (fun _ => ?_) (fun h => nomatch h)
    refine bwp_skip ?_
    refine hK1 _ ?_; clear hK1
    refine bwp_seq fun K1 hK1 => ?_
    refine bwp_block ?_
    refine bwp_region_draw rfl rfl ?_
    simp only [go_sem, ↓reduceIte, hIe, hlt', Int.natCast_nonneg, Int.toNat_natCast, hcs, hdrop, Init.cells]
    repeat' (first
      | (refine gateK_split (fun hb => ?_) (fun hb => ?_) <;> simp only [go_sem, ↓reduceIte, hb, hIe, hlt', Int.natCast_nonneg, Int.toNat_natCast, hcs, hdrop, Init.cells])
      | (refine dGateK_split (fun hb => ?_) (fun hb => ?_) <;> simp only [go_sem, ↓reduceIte, hb, hIe, hlt', Int.natCast_nonneg, Int.toNat_natCast, hcs, hdrop, Init.cells])
      | (refine callK_pure (c1) rfl rfl ?_; simp only [go_sem, ↓reduceIte, hIe, hlt', Int.natCast_nonneg, Int.toNat_natCast, hcs, hdrop, Init.cells])
      | (refine dCallK_pure (c1) rfl rfl ?_; simp only [go_sem, ↓reduceIte, hIe, hlt', Int.natCast_nonneg, Int.toNat_natCast, hcs, hdrop, Init.cells])
      | (refine callK_pure (c2) rfl rfl ?_; simp only [go_sem, ↓reduceIte, hIe, hlt', Int.natCast_nonneg, Int.toNat_natCast, hcs, hdrop, Init.cells])
      | (refine dCallK_pure (c2) rfl rfl ?_; simp only [go_sem, ↓reduceIte, hIe, hlt', Int.natCast_nonneg, Int.toNat_natCast, hcs, hdrop, Init.cells])
      | (rw [if_pos (by (try simp only [List.length_append, List.length_cons, List.length_nil, List.length_map]); omega)]; simp only [go_sem, ↓reduceIte, hIe, hlt', Int.natCast_nonneg, Int.toNat_natCast, hcs, hdrop, Init.cells]))
    refine ⟨rfl, hK1 _ ?_⟩; clear hK1
    have hw : IntKind.i64.wrap ((i : Int) + 1) = ((i + 1 : Nat) : Int) := by rw [wrap_i64 (by omega) (by omega)]; rfl
    refine bwp_region rfl ?_
    simp only [go_sem, ↓reduceIte, hw]
    rw [hnx]
    exact ⟨hlt, (Leads.ent [(0, 0)] ⟨by simp [entT, fget, AV.ren, renL, pget, initL, List.append_assoc, hIe], by simp [entM, pinv, mget, mset, renL, AV.ren, pget, renL_append, -List.map_map, initL, List.append_assoc, hIe], rfl, rfl⟩)⟩
  · have hlt' : ¬ (i : Int) < l.length := by omega
    have hin : i = l.length := by omega
    subst hin
    refine bwp_seq fun K hK => bwp_region rfl ?_
    simp only [go_sem, ↓reduceIte, hI.len, hlt']
    refine hK _ ?_; clear hK
    refine bwp_cond false (by simp [ev, fget, hlt']) (fun h => nomatch h) (fun _ => ?_)
    rw [List.take_length] at hX
    refine bwp_leads (S' := rprS [.str nm, I, T, .int .i64 kd, A] (s ++ l.flatMap initL) []) (Leads.ent [(0, 0)] ⟨by simp [entT, fget, AV.ren, renL, pget, rprS, hX], by simp [entM, pinv, mget, mset, renL, AV.ren, pget, renL_append, -List.map_map, rprS, hX], rfl, rfl⟩) ?_
    exact bwp_exit hQ
set_option maxHeartbeats 2000000 in
theorem rp_thread {nm : List UInt8} {I T A : DV} {kd : Int} {ls : List (List Ins)} (hT : IsSl2 Ins.cells ls T) {i : Nat} (hi : i < ls.length) (hv : ∀ x ∈ ls[i], I64i x) (h30 : ls[i].length ≤ 5000000000000) {s : List UInt8} (hs : s.length ≤ 6100000000000000) {Q : Exit → St → Prop}
    (hQ : Q (.exit 4) (rprS [.str nm, I, T, .int .i64 kd, A] (s ++ ls[i].flatMap insL) [(6, .d (.int .i64 ls[i].length)), (5, .d (.int .i64 i))])) :
    BWP Tryz.prog (mbound []) 93 (.loop ac7L1) (rprS [.str nm, I, T, .int .i64 kd, A] s [(6, .d (.int .i64 (0 : Nat))), (5, .d (.int .i64 i))]) Q := by
  have hTl := hT.big
  obtain ⟨cs1, d, rest1, hTe, hd1, hjc, hD⟩ := hT.at i hi
  have hi' : (i : Int) < ls.length := by omega
  generalize hl : ls[i] = l at *
  have e0 : s = s ++ (l.take 0).flatMap insL := by simp
  rw [e0]
  refine bwp_count (fun k => rprS [.str nm, I, T, .int .i64 kd, A] (s ++ (l.take k).flatMap insL) [(6, .d (.int .i64 k)), (5, .d (.int .i64 i))]) l.length ?_
  intro k hk
  have hbl : ((l.take k).flatMap insL).length ≤ 5000000000000 * 155 := by
    have := flat_len insL 155 (l.take k) (fun x hx => insL_len (hv x (List.mem_of_mem_take hx)))
    have h2 : (l.take k).length * 155 ≤ 5000000000000 * 155 := Nat.mul_le_mul_right _ (by simp; omega)
    omega
  generalize hX : s ++ (l.take k).flatMap insL = X
  have hXl : X.length ≤ 7000000000000000 := by rw [← hX]; simp only [List.length_append]; omega
  unfold ac7L1 rprS
  simp only [List.cons_append, List.nil_append, List.map_cons, List.map_nil]
  refine bwp_seq fun K1 hK1 => ?_
  by_cases hlt : k < l.length
  · have hlt' : (k : Int) < l.length := by omega
    obtain ⟨cs', rest, hXe, hdrop, hcs⟩ := hD.at ins_len (by omega) k hlt
    have hva := hv l[k] (List.getElem_mem hlt)
    have hnx : s ++ (l.take (k + 1)).flatMap insL = X ++ insL l[k] := by rw [flat_take insL hlt, ← hX, List.append_assoc]
    generalize l[k] = x at hcs hdrop hva hnx
    have hil := insT_len hva
    have hip := refInsT_pure hva
    unfold Ins.cells at hip
    simp only [List.map_cons, List.map_nil] at hip
    refine bwp_seq fun K hK => bwp_region rfl ?_
    simp only [go_sem, ↓reduceIte, hTe, hi', Int.natCast_nonneg, Int.toNat_natCast, hd1, hjc, hD.len, hlt']
    refine hK _ ?_; clear hK
    refine bwp_cond true (by simp [ev, fget, hlt']) (fun _ => ?_) (fun h => nomatch h)
    refine bwp_skip ?_
    refine hK1 _ ?_; clear hK1
    refine bwp_seq fun K1 hK1 => ?_
    refine bwp_block ?_
    refine bwp_region rfl ?_
    simp only [go_sem, ↓reduceIte, hTe, hi', hlt', Int.natCast_nonneg, Int.toNat_natCast, hd1, hjc, hXe, hcs, hdrop, Ins.cells]
    refine callK_pure hip rfl rfl ?_
    simp only [go_sem, ↓reduceIte]
    repeat' (first
      | (refine gateK_split (fun hb => ?_) (fun hb => ?_) <;> simp only [go_sem, ↓reduceIte, hb])
      | (refine dGateK_split (fun hb => ?_) (fun hb => ?_) <;> simp only [go_sem, ↓reduceIte, hb])
      | (rw [if_pos (by (try simp only [List.length_append, List.length_cons, List.length_nil, List.length_map]); omega)]; simp only [go_sem, ↓reduceIte]))
    refine hK1 _ ?_; clear hK1
    have hw : IntKind.i64.wrap ((k : Int) + 1) = ((k + 1 : Nat) : Int) := by rw [wrap_i64 (by omega) (by omega)]; rfl
    refine bwp_region rfl ?_
    simp only [go_sem, ↓reduceIte, hw]
    rw [hnx]
    exact ⟨hlt, (Leads.ent [(0, 0)] ⟨by simp [entT, fget, AV.ren, renL, pget, insL, List.append_assoc, hTe], by simp [entM, pinv, mget, mset, renL, AV.ren, pget, renL_append, -List.map_map, insL, List.append_assoc, hTe], rfl, rfl⟩)⟩
  · have hlt' : ¬ (k : Int) < l.length := by omega
    have hin : k = l.length := by omega
    subst hin
    refine bwp_seq fun K hK => bwp_region rfl ?_
    simp only [go_sem, ↓reduceIte, hTe, hi', Int.natCast_nonneg, Int.toNat_natCast, hd1, hjc, hD.len, hlt']
    refine hK _ ?_; clear hK
    refine bwp_cond false (by simp [ev, fget, hlt']) (fun h => nomatch h) (fun _ => ?_)
    rw [List.take_length] at hX
    refine bwp_leads (S' := rprS [.str nm, I, T, .int .i64 kd, A] (s ++ l.flatMap insL) [(6, .d (.int .i64 l.length)), (5, .d (.int .i64 i))]) (Leads.ent [(0, 0)] ⟨by simp [entT, fget, AV.ren, renL, pget, rprS, hX, hTe], by simp [entM, pinv, mget, mset, renL, AV.ren, pget, renL_append, -List.map_map, rprS, hX, hTe], rfl, rfl⟩) ?_
    exact bwp_exit hQ
set_option maxHeartbeats 2000000 in
theorem rp_threads {nm : List UInt8} {I T A : DV} {kd : Int} {ls : List (List Ins)} (hT : IsSl2 Ins.cells ls T) (hv : ∀ l ∈ ls, l.length ≤ 5000000000000 ∧ ∀ x ∈ l, I64i x) (h7 : ls.length ≤ 7) {s : List UInt8} (hs : s.length ≤ 900000) {Q : Exit → St → Prop}
    (hQ : Q (.exit 2) (rprS [.str nm, I, T, .int .i64 kd, A] (s ++ ls.flatMap threadL) [(5, .d (.int .i64 ls.length))])) :
    BWP Tryz.prog (mbound []) 93 (.loop ac7L2) (rprS [.str nm, I, T, .int .i64 kd, A] s [(5, .d (.int .i64 (0 : Nat)))]) Q := by
  have e0 : s = s ++ (ls.take 0).flatMap threadL := by simp
  rw [e0]
  refine bwp_count (fun k => rprS [.str nm, I, T, .int .i64 kd, A] (s ++ (ls.take k).flatMap threadL) [(5, .d (.int .i64 k))]) ls.length ?_
  intro k hk
  have hbl : ((ls.take k).flatMap threadL).length ≤ 5425000000000077 := by
    have := flat_len threadL 775000000000011 (ls.take k) (fun l hl => threadL_len2 (hv l (List.mem_of_mem_take hl)).1 (hv l (List.mem_of_mem_take hl)).2)
    have h2 : (ls.take k).length ≤ 7 := by simp; omega
    omega
  generalize hX : s ++ (ls.take k).flatMap threadL = X
  have hXl : X.length ≤ 6000000000000000 := by rw [← hX]; simp only [List.length_append]; omega
  unfold ac7L2 rprS
  simp only [List.cons_append, List.nil_append, List.map_cons, List.map_nil]
  refine bwp_seq fun K1 hK1 => ?_
  by_cases hlt : k < ls.length
  · have hlt' : (k : Int) < ls.length := by omega
    have hva := hv ls[k] (List.getElem_mem hlt)
    have hnx : s ++ (ls.take (k + 1)).flatMap threadL = X ++ threadL ls[k] := by rw [flat_take threadL hlt, ← hX, List.append_assoc]
    have b1 : X.length + 9 ≤ 9223372036854775807 := by omega
    refine bwp_seq fun K hK => bwp_region rfl ?_
    simp only [go_sem, ↓reduceIte, hT.len, hlt']
    refine hK _ ?_; clear hK
    refine bwp_cond true (by simp [ev, fget, hlt']) (fun _ => ?_) (fun h => nomatch h)
    refine bwp_skip ?_
    refine hK1 _ ?_; clear hK1
    refine bwp_seq fun K1 hK1 => ?_
    refine bwp_block ?_
    refine bwp_seq fun K hK => bwp_region rfl ?_
    simp only [go_sem, ↓reduceIte, List.length_cons, List.length_nil, Nat.zero_add, b1]
    refine hK _ ?_; clear hK
    refine bwp_seq fun K2 hK2 => ?_
    refine bwp_seq fun K hK => bwp_region rfl ?_
    simp only [go_sem, ↓reduceIte]
    refine hK _ ?_; clear hK
    refine bwp_block ?_
    have hX2 : (X ++ [116, 104, 114, 101, 97, 100, 32, 123, 10]).length ≤ 6100000000000000 := by simp only [List.length_append, List.length_cons, List.length_nil]; omega
    refine bwp_leads (S' := rprS [.str nm, I, T, .int .i64 kd, A] (X ++ [116, 104, 114, 101, 97, 100, 32, 123, 10]) [(6, .d (.int .i64 (0 : Nat))), (5, .d (.int .i64 k))]) (Leads.ent [(0, 0)] ⟨by simp [entT, fget, AV.ren, renL, pget, rprS], by simp [entM, pinv, mget, mset, renL, AV.ren, pget, renL_append, -List.map_map, rprS], rfl, rfl⟩) ?_
    refine rp_thread hT hlt hva.2 hva.1 hX2 ?_
    have h1 := flat_len insL 155 ls[k] (fun x hx => insL_len (hva.2 x hx))
    have h2 : ls[k].length * 155 ≤ 5000000000000 * 155 := Nat.mul_le_mul_right _ hva.1
    generalize hY : (X ++ [116, 104, 114, 101, 97, 100, 32, 123, 10]) ++ ls[k].flatMap insL = Y
    have hYl : Y.length ≤ 7000000000000000 := by rw [← hY, List.length_append]; omega
    unfold rprS
    simp only [List.cons_append, List.nil_append, List.map_cons, List.map_nil]
    simp only [go_sem, ↓reduceIte]
    refine hK2 _ ?_; clear hK2
    have b2 : Y.length + 2 ≤ 9223372036854775807 := by omega
    refine bwp_region rfl ?_
    simp only [go_sem, ↓reduceIte, List.length_cons, List.length_nil, Nat.zero_add, b2]
    refine hK1 _ ?_; clear hK1
    have hw : IntKind.i64.wrap ((k : Int) + 1) = ((k + 1 : Nat) : Int) := by rw [wrap_i64 (by omega) (by omega)]; rfl
    refine bwp_region rfl ?_
    simp only [go_sem, ↓reduceIte, hw]
    have hnx2 : s ++ (ls.take (k + 1)).flatMap threadL = Y ++ [125, 10] := by rw [hnx, ← hY]; simp [threadL]
    rw [hnx2]
    exact ⟨hlt, (Leads.ent [(0, 0)] ⟨by simp [entT, fget, AV.ren, renL, pget, List.append_assoc], by simp [entM, pinv, mget, mset, renL, AV.ren, pget, renL_append, -List.map_map, List.append_assoc], rfl, rfl⟩)⟩
  · have hlt' : ¬ (k : Int) < ls.length := by omega
    have hin : k = ls.length := by omega
    subst hin
    refine bwp_seq fun K hK => bwp_region rfl ?_
    simp only [go_sem, ↓reduceIte, hT.len, hlt']
    refine hK _ ?_; clear hK
    refine bwp_cond false (by simp [ev, fget, hlt']) (fun h => nomatch h) (fun _ => ?_)
    rw [List.take_length] at hX
    refine bwp_leads (S' := rprS [.str nm, I, T, .int .i64 kd, A] (s ++ ls.flatMap threadL) [(5, .d (.int .i64 ls.length))]) (Leads.ent [(0, 0)] ⟨by simp [entT, fget, AV.ren, renL, pget, rprS, hX], by simp [entM, pinv, mget, mset, renL, AV.ren, pget, renL_append, -List.map_map, rprS, hX], rfl, rfl⟩) ?_
    exact bwp_exit hQ
set_option maxHeartbeats 4000000 in
theorem refPrint_pure {t : Test} {cs : List DV} (hT : IsTest t cs) (hf : FewT2 t) : Pure Tryz.prog 7 [.agg (cs.map .d)] (.d (.str (testT t))) := by
  have hn := hf.name
  have hok := refTest_pure hT (by omega)
  obtain ⟨I, T, A, rfl, hI, hTh, hA⟩ := hT
  simp only [List.map_cons, List.map_nil] at hok ⊢
  refine acalls_of Tryz.func7 ac7_ok Tryz.ntmps7 Tryz.results7 rfl ?_
  unfold ac7
  refine bwp_seq fun K hK => bwp_region rfl ?_
  simp only [go_sem, ↓reduceIte]
  refine hK _ ?_; clear hK
  refine bwp_seq fun K1 hK1 => ?_
  refine bwp_seq fun K hK => bwp_region rfl ?_
  simp only [go_sem, ↓reduceIte]
  refine callK_pure hok rfl rfl ?_
  cases hokb : okB t with
  | false =>
    simp only [go_sem, ↓reduceIte]
    refine hK _ ?_; clear hK
    refine bwp_cond true (by simp [ev, fget]) (fun _ => ?_) (fun h => nomatch h)
    refine bwp_seq fun K hK => bwp_region rfl ?_
    simp only [go_sem, ↓reduceIte]
    refine hK _ ?_; clear hK
    refine bwp_ret ?_
    simp only [go_sem]
    refine aend_ret _ rfl rfl ⟨?_, rfl⟩
    simp [fget, testT, hokb]
  | true =>
    have hob := hokb
    simp only [okB, Bool.and_eq_true] at hob
    have hin : ∀ x ∈ t.inits, isLocB x.loc = true := fun x hx => by
      have := hob.1.1.2
      simp only [badInitB, Bool.not_eq_true', List.any_eq_false, Bool.not_eq_false] at this
      exact this x hx
    simp only [go_sem, ↓reduceIte]
    refine hK _ ?_; clear hK
    refine bwp_cond false (by simp [ev, fget]) (fun h => nomatch h) (fun _ => ?_)
    refine bwp_skip ?_
    refine hK1 _ ?_; clear hK1
    refine bwp_seq fun K hK => bwp_region rfl ?_
    simp only [go_sem, ↓reduceIte]
    repeat' (first
      | (refine gateK_split (fun hb => ?_) (fun hb => ?_) <;> simp only [go_sem, ↓reduceIte, hb])
      | (refine dGateK_split (fun hb => ?_) (fun hb => ?_) <;> simp only [go_sem, ↓reduceIte, hb])
      | (rw [if_pos (by (try simp only [List.length_append, List.length_cons, List.length_nil, List.length_map]); omega)]; simp only [go_sem, ↓reduceIte]))
    refine hK _ ?_; clear hK
    have hh : (headL t).length ≤ 1000 := by simp only [headL, List.length_append, List.length_cons, List.length_nil]; omega
    refine bwp_leads (S' := rprS [.str t.name, I, T, .int .i64 t.kind, A] (headL t) []) (Leads.ent [(0, 0)] ⟨by simp [entT, fget, AV.ren, renL, pget, rprS, headL], by simp [entM, pinv, mget, mset, renL, AV.ren, pget, renL_append, -List.map_map, rprS, headL], rfl, rfl⟩) ?_
    have hil := initsL_len' hf.inits hf.values
    refine bwp_seq fun K2 hK2 => ?_
    have fin2 : ∀ S : St, Leads (mbound []) 93 S (rprS [.str t.name, I, T, .int .i64 t.kind, A] (headL t ++ initsL t.inits) []) → K2 S := by
      intro S hS
      refine hK2 _ ?_; clear hK2
      refine bwp_leads hS ?_
      generalize hX : headL t ++ initsL t.inits = X
      have hXl : X.length ≤ 900000 := by
        rw [← hX, List.length_append]
        unfold initsL
        split
        · simp; omega
        · simp only [List.length_append, List.length_cons, List.length_nil]; omega
      unfold rprS
      simp only [List.nil_append, List.map_cons, List.map_nil]
      refine bwp_seq fun K3 hK3 => ?_
      refine bwp_seq fun K hK => bwp_region rfl ?_
      simp only [go_sem, ↓reduceIte]
      refine hK _ ?_; clear hK
      refine bwp_block ?_
      refine bwp_leads (S' := rprS [.str t.name, I, T, .int .i64 t.kind, A] X [(5, .d (.int .i64 (0 : Nat)))]) (Leads.ent [(0, 0)] ⟨by simp [entT, fget, AV.ren, renL, pget, rprS], by simp [entM, pinv, mget, mset, renL, AV.ren, pget, renL_append, -List.map_map, rprS], rfl, rfl⟩) ?_
      refine rp_threads hTh hf.ins hf.threads hXl ?_
      have h1 := flat_len threadL 775000000000011 t.threads (fun l hl => threadL_len2 (hf.ins l hl).1 (hf.ins l hl).2)
      have h2 := hf.threads
      generalize hY : X ++ t.threads.flatMap threadL = Y
      have hYl : Y.length ≤ 6000000000000000 := by rw [← hY, List.length_append]; omega
      unfold rprS
      simp only [List.cons_append, List.nil_append, List.map_cons, List.map_nil]
      simp only [go_sem, ↓reduceIte]
      refine hK3 _ ?_; clear hK3
      have hcl := condT_len2 (kind := t.kind) hf.rows
      refine bwp_seq fun K4 hK4 => ?_
      have fin4 : ∀ (S : St) (Z : List UInt8), Z.length ≤ 11000000000000000 → Z = Y ++ condL t → Leads (mbound []) 93 S (rprS [.str t.name, I, T, .int .i64 t.kind, A] Z []) → K4 S := by
        intro S Z hZl hZ hS
        refine hK4 _ ?_; clear hK4
        refine bwp_leads hS ?_
        unfold rprS
        simp only [List.nil_append]
        refine bwp_seq fun K hK => bwp_region rfl ?_
        simp only [go_sem, ↓reduceIte]
        repeat' (first
          | (refine gateK_split (fun hb => ?_) (fun hb => ?_) <;> simp only [go_sem, ↓reduceIte, hb])
          | (refine dGateK_split (fun hb => ?_) (fun hb => ?_) <;> simp only [go_sem, ↓reduceIte, hb])
          | (rw [if_pos (by (try simp only [List.length_append, List.length_cons, List.length_nil, List.length_map]); omega)]; simp only [go_sem, ↓reduceIte]))
        refine hK _ ?_; clear hK
        refine bwp_ret ?_
        simp only [go_sem]
        refine aend_ret _ rfl rfl ⟨?_, rfl⟩
        simp [fget, testT, hokb, hZ, ← hY, ← hX]
      by_cases hk : t.kind = 0
      · have hce : condL t = [] := by
          have : condT t.kind t.rows = [] := by unfold condT; rw [if_pos (.inl hk)]
          unfold condL
          rw [if_pos this]
        refine bwp_seq fun K hK => bwp_region rfl ?_
        simp only [go_sem, ↓reduceIte, hk]
        refine hK _ ?_; clear hK
        refine bwp_cond false (by simp [ev, fget, hk]) (fun h => nomatch h) (fun _ => ?_)
        refine bwp_skip ?_
        refine fin4 _ Y (by omega) (by rw [hce]; simp) ?_
        exact Leads.ent [(0, 0)] ⟨by simp [entT, fget, AV.ren, renL, pget, rprS], by simp [entM, pinv, mget, mset, renL, AV.ren, pget, rprS, hk], rfl, rfl⟩
      · have hce : condL t = condT t.kind t.rows ++ [10] := by
          unfold condL
          rw [if_neg (condT_ne hk hob.2)]
        have hcp := refCondT_pure (kd := t.kind) hA hf.rows
        refine bwp_seq fun K hK => bwp_region rfl ?_
        simp only [go_sem, ↓reduceIte, hk]
        refine hK _ ?_; clear hK
        refine bwp_cond true (by simp [ev, fget, hk]) (fun _ => ?_) (fun h => nomatch h)
        refine bwp_region rfl ?_
        simp only [go_sem, ↓reduceIte]
        refine callK_pure hcp rfl rfl ?_
        simp only [go_sem, ↓reduceIte]
        repeat' (first
          | (refine gateK_split (fun hb => ?_) (fun hb => ?_) <;> simp only [go_sem, ↓reduceIte, hb])
          | (refine dGateK_split (fun hb => ?_) (fun hb => ?_) <;> simp only [go_sem, ↓reduceIte, hb])
          | (rw [if_pos (by (try simp only [List.length_append, List.length_cons, List.length_nil, List.length_map]); omega)]; simp only [go_sem, ↓reduceIte]))
        refine fin4 _ (Y ++ condT t.kind t.rows ++ [10]) (by simp only [List.length_append, List.length_cons, List.length_nil]; omega) (by rw [hce]; simp) ?_
        exact Leads.ent [(0, 0)] ⟨by simp [entT, fget, AV.ren, renL, pget, rprS], by simp [entM, pinv, mget, mset, renL, AV.ren, pget, rprS], rfl, rfl⟩
    unfold rprS
    simp only [List.nil_append, List.map_cons, List.map_nil]
    by_cases hi : t.inits = []
    · have hl : t.inits.length = 0 := by simp [hi]
      refine bwp_seq fun K hK => bwp_region rfl ?_
      simp only [go_sem, ↓reduceIte, hI.len, hl]
      refine hK _ ?_; clear hK
      refine bwp_cond false (by simp [ev, fget, hl]) (fun h => nomatch h) (fun _ => ?_)
      refine bwp_skip ?_
      exact fin2 _ (Leads.ent [(0, 0)] ⟨by simp [entT, fget, AV.ren, renL, pget, rprS, initsL, hi], by simp [entM, pinv, mget, mset, mdel, renL, AV.ren, pget, renL_append, -List.map_map, rprS, initsL, hi], rfl, rfl⟩)
    · have hl : (0 : Int) < t.inits.length := by
        have := List.length_pos_iff.2 hi
        omega
      refine bwp_seq fun K hK => bwp_region rfl ?_
      simp only [go_sem, ↓reduceIte, hI.len, hl]
      refine hK _ ?_; clear hK
      refine bwp_cond true (by simp [ev, fget, hl]) (fun _ => ?_) (fun h => nomatch h)
      refine bwp_seq fun K hK => bwp_region rfl ?_
      simp only [go_sem, ↓reduceIte]
      repeat' (first
        | (refine gateK_split (fun hb => ?_) (fun hb => ?_) <;> simp only [go_sem, ↓reduceIte, hb])
        | (refine dGateK_split (fun hb => ?_) (fun hb => ?_) <;> simp only [go_sem, ↓reduceIte, hb])
        | (rw [if_pos (by (try simp only [List.length_append, List.length_cons, List.length_nil, List.length_map]); omega)]; simp only [go_sem, ↓reduceIte]))
      refine hK _ ?_; clear hK
      refine bwp_seq fun K3 hK3 => ?_
      refine bwp_seq fun K hK => bwp_region rfl ?_
      simp only [go_sem, ↓reduceIte]
      refine hK _ ?_; clear hK
      refine bwp_block ?_
      refine bwp_leads (S' := rprS [.str t.name, I, T, .int .i64 t.kind, A] (headL t ++ [105, 110, 105, 116, 32, 123, 10]) [(4, .d (.int .i64 (0 : Nat)))]) (Leads.ent [(0, 0)] ⟨by simp [entT, fget, AV.ren, renL, pget, rprS], by simp [entM, pinv, mget, mset, renL, AV.ren, pget, renL_append, -List.map_map, rprS], rfl, rfl⟩) ?_
      refine rp_inits hI hf.values hin hf.inits (by simp only [List.length_append, List.length_cons, List.length_nil]; omega) ?_
      generalize hY : headL t ++ [105, 110, 105, 116, 32, 123, 10] ++ t.inits.flatMap initL = Y
      have hYl : Y.length ≤ 10000 := by rw [← hY]; simp only [List.length_append, List.length_cons, List.length_nil]; omega
      unfold rprS
      simp only [List.cons_append, List.nil_append, List.map_cons, List.map_nil]
      simp only [go_sem, ↓reduceIte]
      refine hK3 _ ?_; clear hK3
      refine bwp_region rfl ?_
      simp only [go_sem, ↓reduceIte]
      repeat' (first
        | (refine gateK_split (fun hb => ?_) (fun hb => ?_) <;> simp only [go_sem, ↓reduceIte, hb])
        | (refine dGateK_split (fun hb => ?_) (fun hb => ?_) <;> simp only [go_sem, ↓reduceIte, hb])
        | (rw [if_pos (by (try simp only [List.length_append, List.length_cons, List.length_nil, List.length_map]); omega)]; simp only [go_sem, ↓reduceIte]))
      have he : headL t ++ initsL t.inits = Y ++ [125, 10] := by rw [← hY]; simp [initsL, hi]
      rw [he] at fin2
      exact fin2 _ (Leads.ent [(0, 0)] ⟨by simp [entT, fget, AV.ren, renL, pget, rprS], by simp [entM, pinv, mget, mset, mdel, renL, AV.ren, pget, renL_append, -List.map_map, rprS], rfl, rfl⟩)
end Go.Proofs.YtpfbljkfbjjlkaaGreatDoor

/- The text of a test made of numbers: how long it is, and what it is read as. -/
namespace Go.Proofs.YtpfbljkfbjjlkaaGreatDoor
open Go Go.Jq
set_option maxRecDepth 100000
set_option linter.unusedSimpArgs false
theorem smallRow_len (ls : List Int) (most : Nat) : (small ls most).rows.length ≤ 2 ∧ ∀ l ∈ (small ls most).rows, l.length ≤ 2 := by
  have : (small ls most).rows = smallRows (smallC ls most) := rfl
  rw [this]
  unfold smallRows
  split
  · refine ⟨by simp, fun l hl => ?_⟩
    simp only [List.mem_cons, List.not_mem_nil, or_false] at hl
    rcases hl with rfl | rfl <;> simp
  · simp
theorem small_text_len (ls : List Int) (most : Nat) : (testT (small ls most)).length ≤ 4000 := by
  have hf := small_few ls most
  have hg := small_goodTest ls most
  have h1 := flat_len threadL 941 (small ls most).threads (fun l hl => by
    have h1 := flat_len insL 155 l (fun x hx => insL_len ((hf.ins l hl).2 x hx))
    have h2 : l.length * 155 ≤ 6 * 155 := Nat.mul_le_mul_right _ (hg.threads l hl).len
    simp only [threadL, List.length_append, List.length_cons, List.length_nil]
    omega)
  have h2 : (small ls most).threads.length ≤ 3 := by rw [small_len]; exact smallN_le ls
  have h3 : (small ls most).threads.length * 941 ≤ 3 * 941 := Nat.mul_le_mul_right _ h2
  have h4 := flat_len initL 30 (small ls most).inits (fun x hx => initL_len (hf.values x hx))
  have h5 : (small ls most).inits.length ≤ 1 := hg.once
  have h6 : (initsL (small ls most).inits).length ≤ 39 := by
    unfold initsL
    split
    · simp
    · simp only [List.length_append, List.length_cons, List.length_nil]; omega
  have h7 : (condL (small ls most)).length ≤ 310 := by
    obtain ⟨r1, r2⟩ := smallRow_len ls most
    have hrow : ∀ l ∈ (small ls most).rows, (rowT l).length ≤ 140 := fun l hl => by
      have := join_len [32, 38, 32] (l.map atomT) 67 (fun s hs => by
        obtain ⟨a, ha, rfl⟩ := List.mem_map.1 hs
        exact atomT_len ((hf.rows.2 l hl).2 a ha))
      rw [List.length_map] at this
      have h2 : l.length * 70 ≤ 2 * 70 := Nat.mul_le_mul_right _ (r2 l hl)
      unfold rowT
      exact Nat.le_trans this h2
    have hj := join_len [32, 124, 32] ((small ls most).rows.map rowT) 140 (fun s hs => by
      obtain ⟨l, hl, rfl⟩ := List.mem_map.1 hs
      exact hrow l hl)
    rw [List.length_map] at hj
    have h8 : (small ls most).rows.length * 143 ≤ 2 * 143 := Nat.mul_le_mul_right _ r1
    have h9 : (Lib.join ((small ls most).rows.map rowT) [32, 124, 32]).length ≤ 286 := Nat.le_trans hj h8
    have h10 : (condT (small ls most).kind (small ls most).rows).length ≤ 300 := by
      unfold condT wordT
      split
      · simp
      · split <;> simp <;> omega
    unfold condL
    split
    · simp
    · simp only [List.length_append, List.length_cons, List.length_nil]; omega
  have hn : (headL (small ls most)).length = 9 := rfl
  unfold testT
  rw [if_pos hg.ok]
  simp only [List.length_append, List.length_cons, List.length_nil]
  omega
end Go.Proofs.YtpfbljkfbjjlkaaGreatDoor
