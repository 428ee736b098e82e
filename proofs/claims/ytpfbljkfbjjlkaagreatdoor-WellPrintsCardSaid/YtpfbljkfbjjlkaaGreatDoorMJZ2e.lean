/- What the statement's proof leans on, part 5: the layer, the walks, the plain laws. -/
import Derived.Test.YtpfbljkfbjjlkaaGreatDoorMJZ2d
import Derived.Test.YtpfbljkfbjjlkaaGreatDoorMJZ2c
import Derived.Lib.ItoaMem
import Derived.Test.YtpfbljkfbjjlkaaGreatDoorMJZ2b
import Derived.KernelRfl
set_option linter.unusedSimpArgs false
set_option linter.unusedVariables false

/- The parser's conditions. -/
namespace Go.Proofs.YtpfbljkfbjjlkaaGreatDoor
open Go Go.Jq
set_option maxRecDepth 100000
set_option linter.unusedSimpArgs false
theorem atom_flat (l : List Atom) : (l.flatMap Atom.cells).length = l.length * 4 := by
  induction l with
  | nil => rfl
  | cons x l ih => simp only [List.flatMap_cons, List.length_append, atom_len, List.length_cons, ih]; omega
theorem atom_take (l : List Atom) : (l.flatMap Atom.cells).take (l.length * 4) = l.flatMap Atom.cells := List.take_of_length_le (by rw [atom_flat]; exact Nat.le_refl _)
structure RI (s : List UInt8) (σ0 : PR Nat) (f0 : Nat) (acc : List Atom) (q : PSt) (σ : PR Nat) (f : Nat) : Prop where
  ps : PS s σ q
  to : ∀ l qf, PQ s (thn σ ((tRow f).run s)) l qf → PQ s (thn σ0 ((tRow f0).run s)) (acc ++ l) qf
  fuel : ∀ a, σ = .ok a → s.length - a < f
  len : acc.length + f ≤ f0 ∨ (∃ e, σ = .error e) ∧ acc.length ≤ f0
theorem tkB_ok {s : List UInt8} {σ : PR Nat} {q : PSt} {x : List UInt8} (h : PS s σ q) (hb : tkB q x = true) : ∃ a, σ = .ok a ∧ (curT s a).kd ≠ 4 := by
  cases σ with
  | error e =>
    exfalso
    unfold tkB at hb
    simp only [Bool.and_eq_true, decide_eq_true_eq] at hb
    exact h.codeE hb.1
  | ok a =>
    refine ⟨a, rfl, ?_⟩
    unfold tkB at hb
    simp only [Bool.and_eq_true, decide_eq_true_eq] at hb
    rw [← h.2.2.1]
    exact isK_kd hb.2
theorem eatW_lt {s : List UInt8} {a b : Nat} (ha : a ≤ s.length) (h0 : (nextW s a).2.2 = 0) (h4 : (curT s a).kd ≠ 4) (h : eatW s a = .ok b) : a < b ∧ b ≤ s.length := by
  obtain ⟨rfl, _⟩ := eatW_ok h
  have h1 := nextW_to ha
  exact ⟨h1.2.2 h0 h4, h1.2.1⟩
theorem RI.next {s : List UInt8} {σ0 : PR Nat} {f0 : Nat} {acc : List Atom} {q : PSt} {σ : PR Nat} {f : Nat} (h : RI s σ0 f0 acc q σ f) (hb : tkB q [38] = true) {x : Atom} {q' : PSt} (hq : PQ s (thn (thn σ (eatW s)) (tAtom.run s)) x q') :
    ∃ f', f = f' + 1 ∧ RI s σ0 f0 (acc ++ [x]) q' (posR (thn (thn σ (eatW s)) (tAtom.run s))) f' := by
  obtain ⟨a, rfl, h4⟩ := tkB_ok h.ps hb
  have hf := h.fuel a rfl
  obtain ⟨f', rfl⟩ : ∃ f', f = f' + 1 := ⟨f - 1, by omega⟩
  refine ⟨f', rfl, ⟨hq.ps, fun l qf hl => ?_, fun b hb' => ?_, ?_⟩⟩
  · have : PQ s (thn (.ok a) ((tRow (f' + 1)).run s)) (x :: l) qf := PQ.take_yes h.ps hb (PQ.bind hq (PQ.bind hl (PQ.ret hl.ps)))
    have := h.to _ _ this
    simpa using this
  · obtain ⟨y, hy⟩ := posR_ok hb'
    obtain ⟨c, hc, hy'⟩ := thn_ok hy
    have h1 := eatW_lt h.ps.1 h.ps.2.1 h4 hc
    have h2 := tAtom.run_le h1.2 hy'
    omega
  · rcases h.len with hl | ⟨⟨e, he⟩, _⟩
    · left
      simp only [List.length_append, List.length_cons, List.length_nil]
      omega
    · cases he
theorem RI.done {s : List UInt8} {σ0 : PR Nat} {f0 : Nat} {acc : List Atom} {q : PSt} {σ : PR Nat} {f : Nat} (h : RI s σ0 f0 acc q σ f) (hb : tkB q [38] = false) : PQ s (thn σ0 ((tRow f0).run s)) acc q := by
  have : PQ s (thn σ ((tRow f).run s)) [] q := by
    cases σ with
    | error e => exact h.ps
    | ok a =>
      have hf := h.fuel a rfl
      obtain ⟨f', rfl⟩ : ∃ f', f = f' + 1 := ⟨f - 1, by omega⟩
      exact PQ.take_no h.ps hb (PQ.ret h.ps)
  have := h.to _ _ this
  simpa using this
theorem RI.start {s : List UInt8} {σ : PR Nat} {q : PSt} (hs : s.length ≤ 4000) (h : PS s σ q) : RI s σ fuelP [] q σ fuelP :=
  ⟨h, fun l qf hl => hl, fun a _ => by unfold fuelP; omega, .inl (by simp)⟩
theorem RI.short {s : List UInt8} {σ0 σ : PR Nat} {acc : List Atom} {q : PSt} {f : Nat} (h : RI s σ0 fuelP acc q σ f) : acc.length ≤ 4001 := by
  rcases h.len with h | h
  · unfold fuelP at h; omega
  · exact h.2
def rowsC (accs : List (List Atom)) : List DV := accs.map (slD Atom.cells)
def icS (s : List UInt8) (kind : Int) (accs : List (List Atom)) (row : List Atom) (q : PSt) : St :=
  ⟨[(6, .sl 5 4 0 row.length), (4, .ptr 2 0), (5, .ptr 3 0), (0, .ptr 0 0)], [(0, parC q), (1, lexQ s q), (2, [.d (.int .i64 0), .d .nsl]), (3, [.d (.int .i64 kind), .sl 4 1 0 accs.length]), (4, (rowsC accs).map .d), (5, (row.flatMap Atom.cells).map .d)], 6⟩
set_option maxHeartbeats 16000000 in
theorem pco_loop0 {s : List UInt8} (hs : s.length ≤ 4000) {kind : Int} {accs : List (List Atom)} {x0 : Atom} {σ0 : PR Nat} {q0 : PSt} (h0 : PS s σ0 q0) {Q : Exit → St → Prop}
    (hQ : ∀ acc q', acc.length ≤ 4001 → PQ s (thn σ0 ((tRow fuelP).run s)) acc q' → Q (.exit 2) (icS s kind accs (x0 :: acc) q')) :
    BWP Tryz.prog 2 31 (.loop ac35L0) (icS s kind accs [x0] q0) Q := by
  have hs' : s.length ≤ 140737488351232 := by omega
  refine bwp_fam (ι := { p : List Atom × PSt × PR Nat × Nat // RI s σ0 fuelP p.1 p.2.1 p.2.2.1 p.2.2.2 }) (fun p => icS s kind accs (x0 :: p.1.1) p.1.2.1) (fun p => if p.1.2.1.code = 0 then p.1.2.2.2 + 1 else 0) ⟨([], q0, σ0, fuelP), RI.start hs h0⟩ ?_
  rintro ⟨⟨acc, q, σ, f⟩, hI⟩
  simp only at hI ⊢
  unfold ac35L0 icS
  have hshort := hI.short
  have hfl : (((x0 :: acc).flatMap Atom.cells).map AV.d).length = (acc.length + 1) * 4 := by rw [List.length_map, atom_flat, List.length_cons]
  have hll : (x0 :: acc).length = acc.length + 1 := List.length_cons
  have hb1 : (acc.length + 1 + 1) * 32 ≤ 140737488351232 := by omega
  generalize hrow : (x0 :: acc).flatMap Atom.cells = row at *
  generalize hcs : (rowsC accs).map AV.d = cs
  have hcr : ∀ π, renL π cs = cs := fun π => by rw [← hcs]; exact renL_d _ _
  refine bwp_seq fun K1 hK1 => ?_
  refine bwp_seq fun K hK => bwp_region rfl ?_
  simp -implicitDefEqProofs only [go_sem, ↓reduceIte]
  refine ptake_callK hs' hI.ps [38] rfl rfl ?_
  intro q1 hy hn
  cases hb : tkB q [38] with
  | false =>
    have hq1 := hn hb
    subst hq1
    simp -implicitDefEqProofs only [go_sem, ↓reduceIte, mset]
    refine hK _ ?_; clear hK
    refine bwp_cond false (by simp [ev, fget]) (fun h => nomatch h) (fun _ => ?_)
    refine bwp_leads (S' := icS s kind accs (x0 :: acc) q1) (Leads.ent [(0, 0), (1, 1), (2, 2), (3, 3), (4, 4), (5, 5)] ⟨by simp [icS, entT, fget, AV.ren, renL, pget], ?_, rfl, rfl⟩) ?_
    · rw [← hrow, ← hcs]
      simp [icS, entM, pinv, mget, mset, renL, AV.ren, pget, renL_append, -List.map_map, parC, lexQ, lexC]
    exact bwp_exit (hQ acc q1 hshort (hI.done hb))
  | true =>
    have h1 := hy hb
    simp -implicitDefEqProofs only [go_sem, ↓reduceIte, mset]
    refine hK _ ?_; clear hK
    refine bwp_cond true (by simp [ev, fget]) (fun _ => ?_) (fun h => nomatch h)
    refine bwp_skip ?_
    refine hK1 _ ?_; clear hK1
    refine bwp_block ?_
    refine bwp_region rfl ?_
    simp -implicitDefEqProofs only [go_sem, ↓reduceIte]
    refine patom_callK hs' h1 rfl rfl ?_
    intro x q2 h2
    simp -implicitDefEqProofs only [go_sem, ↓reduceIte, mset, atC, Atom.cells, hfl, hb1, List.length_append, List.length_map, List.length_cons, List.length_nil]
    obtain ⟨f', rfl, hN⟩ := hI.next hb h2
    have hrow' : (x0 :: (acc ++ [x])).flatMap Atom.cells = row ++ Atom.cells x := by rw [← hrow]; simp
    have hc : q.code = 0 := by
      obtain ⟨a, ha, _⟩ := tkB_ok hI.ps hb
      have := hI.ps
      rw [ha] at this
      exact this.code
    refine ⟨⟨(acc ++ [x], q2, _, f'), hN⟩, ?_, ?_⟩
    · simp only [hc, if_true]
      split <;> omega
    · refine Leads.ent [(0, 0), (1, 1), (2, 2), (3, 3), (4, 4), (11, 5)] ⟨by simp [entT, fget, AV.ren, renL, pget], ?_, rfl, rfl⟩
      simp only [hrow']
      simp [entM, pinv, mget, mset, renL, AV.ren, pget, renL_append, -List.map_map, parC, lexQ, lexC, hcr, Atom.cells]
structure OI (s : List UInt8) (σ0 : PR Nat) (f0 : Nat) (acc : List (List Atom)) (q : PSt) (σ : PR Nat) (f : Nat) : Prop where
  ps : PS s σ q
  to : ∀ l qf, PQ s (thn σ ((tRows f).run s)) l qf → PQ s (thn σ0 ((tRows f0).run s)) (acc ++ l) qf
  fuel : ∀ a, σ = .ok a → s.length - a < f
  len : acc.length + f ≤ f0 ∨ (∃ e, σ = .error e) ∧ acc.length ≤ f0
  rows : ∀ l ∈ acc, l.length ≤ 4002
theorem OI.start {s : List UInt8} {σ : PR Nat} {q : PSt} (hs : s.length ≤ 4000) (h : PS s σ q) : OI s σ fuelP [] q σ fuelP :=
  ⟨h, fun l qf hl => hl, fun a _ => by unfold fuelP; omega, .inl (by simp), fun l hl => by cases hl⟩
theorem OI.short {s : List UInt8} {σ0 σ : PR Nat} {acc : List (List Atom)} {q : PSt} {f : Nat} (h : OI s σ0 fuelP acc q σ f) : acc.length ≤ 4001 := by
  rcases h.len with h | h
  · unfold fuelP at h; omega
  · exact h.2
theorem OI.next {s : List UInt8} {σ0 : PR Nat} {f0 : Nat} {acc : List (List Atom)} {q : PSt} {σ : PR Nat} {f : Nat} (h : OI s σ0 f0 acc q σ f) {x : Atom} {l : List Atom} {q1 q2 q3 : PSt} (h1 : PQ s (thn σ (tAtom.run s)) x q1)
    (h2 : PQ s (thn (posR (thn σ (tAtom.run s))) ((tRow fuelP).run s)) l q2) (hl : l.length ≤ 4001) (hb : tkB q2 [124] = true) (h3 : PS s (thn (posR (thn (posR (thn σ (tAtom.run s))) ((tRow fuelP).run s))) (eatW s)) q3) :
    ∃ f', f = f' + 1 ∧ OI s σ0 f0 (acc ++ [x :: l]) q3 (thn (posR (thn (posR (thn σ (tAtom.run s))) ((tRow fuelP).run s))) (eatW s)) f' ∧ q.code = 0 := by
  obtain ⟨c, hc, h4⟩ := tkB_ok h2.ps hb
  obtain ⟨l', hl'⟩ := posR_ok hc
  obtain ⟨b, hb', hrow⟩ := thn_ok hl'
  obtain ⟨x', hx'⟩ := posR_ok hb'
  obtain ⟨a, rfl, hat⟩ := thn_ok hx'
  have hf := h.fuel a rfl
  obtain ⟨f', rfl⟩ : ∃ f', f = f' + 1 := ⟨f - 1, by omega⟩
  have p1 := prog_atom s a x' b h.ps.1 h.ps.2.1 hat
  have p2 := tAtom.run_le h.ps.1 hat
  have p3 := (tRow fuelP).run_le p2.2 hrow
  refine ⟨f', rfl, ⟨h3, fun r qf hr => ?_, fun d hd => ?_, ?_, fun l0 hl0 => ?_⟩, h.ps.code⟩
  · have : PQ s (thn (.ok a) ((tRows (f' + 1)).run s)) ((x :: l) :: r) qf := PQ.bind h1 (PQ.bind h2 (PQ.take_yes h2.ps hb (PQ.bind hr (PQ.ret hr.ps))))
    have := h.to _ _ this
    simpa using this
  · rw [hc] at hd
    have hps := h2.ps
    rw [hc] at hps
    have := eatW_lt hps.1 hps.2.1 h4 hd
    omega
  · rcases h.len with hl | ⟨⟨e, he⟩, _⟩
    · left
      simp only [List.length_append, List.length_cons, List.length_nil]
      omega
    · cases he
  · rcases List.mem_append.1 hl0 with h' | h'
    · exact h.rows l0 h'
    · simp only [List.mem_cons, List.not_mem_nil, or_false] at h'
      subst h'
      simp only [List.length_cons]
      omega
theorem OI.done {s : List UInt8} {σ0 : PR Nat} {f0 : Nat} {acc : List (List Atom)} {q : PSt} {σ : PR Nat} {f : Nat} (h : OI s σ0 f0 acc q σ f) {x : Atom} {l : List Atom} {q1 q2 : PSt} (h1 : PQ s (thn σ (tAtom.run s)) x q1)
    (h2 : PQ s (thn (posR (thn σ (tAtom.run s))) ((tRow fuelP).run s)) l q2) (hb : tkB q2 [124] = false) : PQ s (thn σ0 ((tRows f0).run s)) (acc ++ [x :: l]) q2 := by
  refine h.to _ _ ?_
  cases σ with
  | error e => exact h2.ps
  | ok a =>
    have hf := h.fuel a rfl
    obtain ⟨f', rfl⟩ : ∃ f', f = f' + 1 := ⟨f - 1, by omega⟩
    exact PQ.bind h1 (PQ.bind h2 (PQ.take_no h2.ps hb (PQ.ret h2.ps)))
def ocS (s : List UInt8) (kind : Int) (accs : List (List Atom)) (q : PSt) : St :=
  ⟨[(4, .ptr 2 0), (5, .ptr 3 0), (0, .ptr 0 0)], [(0, parC q), (1, lexQ s q), (2, [.d (.int .i64 0), .d .nsl]), (3, [.d (.int .i64 kind), .sl 4 1 0 accs.length]), (4, (rowsC accs).map .d)], 5⟩
theorem rowsC_len (accs : List (List Atom)) : (rowsC accs).length = accs.length := by simp [rowsC]
theorem rowsC_snoc (accs : List (List Atom)) (l : List Atom) : rowsC (accs ++ [l]) = rowsC accs ++ [slD Atom.cells l] := by simp [rowsC]
def rowsD (rows : List (List Atom)) : DV := .sl rows.length (rowsC rows)
set_option maxHeartbeats 32000000 in
theorem pco_loop1 {s : List UInt8} (hs : s.length ≤ 4000) {kind : Int} {σ0 : PR Nat} {q0 : PSt} (h0 : PS s σ0 q0) {Q : Exit → St → Prop}
    (hR : ∀ (rows : List (List Atom)) q', rows.length ≤ 4002 → (∀ l ∈ rows, l.length ≤ 4002) → PQ s (thn σ0 ((tAsk kind).run s)) (kind, rows) q' →
      Q .ret ⟨[(4, .ptr 2 0)], [(0, parC q'), (1, lexQ s q'), (2, [.d (.int .i64 kind), .d (rowsD rows)])], 3⟩) :
    BWP Tryz.prog 2 31 (.loop ac35L1) (ocS s kind [] q0) Q := by
  have hs' : s.length ≤ 140737488351232 := by omega
  refine bwp_fam (ι := { p : List (List Atom) × PSt × PR Nat × Nat // OI s σ0 fuelP p.1 p.2.1 p.2.2.1 p.2.2.2 }) (fun p => ocS s kind p.1.1 p.1.2.1) (fun p => if p.1.2.1.code = 0 then p.1.2.2.2 + 1 else 0) ⟨([], q0, σ0, fuelP), OI.start hs h0⟩ ?_
  rintro ⟨⟨accs, q, σ, f⟩, hI⟩
  simp only at hI ⊢
  unfold ac35L1 ocS
  have hshort := hI.short
  refine bwp_block ?_
  refine bwp_seq fun K hK => bwp_region rfl ?_
  simp -implicitDefEqProofs only [go_sem, ↓reduceIte]
  refine patom_callK hs' hI.ps rfl rfl ?_
  intro x q1 h1
  simp -implicitDefEqProofs only [go_sem, ↓reduceIte, mset, atC, Atom.cells]
  refine hK _ ?_; clear hK
  refine bwp_seq fun K1 hK1 => ?_
  refine bwp_block ?_
  have hcr : ∀ π, renL π ((rowsC accs).map AV.d) = (rowsC accs).map .d := fun π => renL_d _ _
  have hcl : ((rowsC accs).map AV.d).length = accs.length := by rw [List.length_map, rowsC_len]
  have hb1 : (accs.length + 1) * 24 ≤ 140737488351232 := by omega
  refine bwp_leads (S' := icS s kind accs [x] q1) (Leads.ent [(0, 0), (1, 1), (2, 2), (3, 3), (4, 4), (7, 5)] ⟨by simp [icS, entT, fget, AV.ren, renL, pget], ?_, rfl, rfl⟩) ?_
  · simp [icS, entM, pinv, mget, mset, renL, AV.ren, pget, renL_append, -List.map_map, parC, lexQ, lexC, Atom.cells]
  refine pco_loop0 hs h1.ps ?_
  intro acc q2 hlen h2
  unfold icS
  simp -implicitDefEqProofs only [go_sem, ↓reduceIte]
  refine hK1 _ ?_; clear hK1
  have htk := atom_take (x :: acc)
  have hll : (x :: acc).length = acc.length + 1 := List.length_cons
  have hsn := rowsC_snoc accs (x :: acc)
  have hsd : slD Atom.cells (x :: acc) = .sl (acc.length + 1) ((x :: acc).flatMap Atom.cells) := by simp only [slD, hll]
  rw [hll] at htk
  generalize hds : (x :: acc).flatMap Atom.cells = ds at htk hsd
  refine bwp_leads (Leads.frz (S' := ⟨[(6, .d (.sl (acc.length + 1) ds)), (4, .ptr 2 0), (5, .ptr 3 0), (0, .ptr 0 0)], [(0, parC q2), (1, lexQ s q2), (2, [.d (.int .i64 0), .d .nsl]), (3, [.d (.int .i64 kind), .sl 4 1 0 accs.length]), (4, (rowsC accs).map .d)], 5⟩) [(0, 0), (1, 1), (2, 2), (3, 3), (4, 4)] [(5, ds)] ⟨?_, ?_, rfl, rfl, ?_⟩) ?_
  · simp [frzT, fget, AV.cv, cvL, zget, pget, htk]
  · simp [frzM, pinv, zget, mget, cvL, AV.cv, parC, lexQ, lexC, pget, cvL_d, -List.map_map]
  · simp [zokFrom, mget, cvL_d]
  generalize hcs : (rowsC accs).map AV.d = cs at *
  refine bwp_seq fun K hK => bwp_region rfl ?_
  simp -implicitDefEqProofs only [go_sem, ↓reduceIte, hcl, hb1, List.length_append, List.length_map, List.length_cons, List.length_nil]
  refine hK _ ?_; clear hK
  refine bwp_seq fun K hK => bwp_region rfl ?_
  simp -implicitDefEqProofs only [go_sem, ↓reduceIte]
  refine ptake_callK hs' h2.ps [124] rfl rfl ?_
  intro q3 hy hn
  cases hb : tkB q2 [124] with
  | true =>
    have h3 := hy hb
    obtain ⟨f', rfl, hN, hc⟩ := hI.next h1 h2 hlen hb h3
    simp -implicitDefEqProofs only [go_sem, ↓reduceIte, mset]
    refine hK _ ?_; clear hK
    refine bwp_cond false (by simp [ev, fget]) (fun h => nomatch h) (fun _ => ?_)
    refine bwp_skip ?_
    simp -implicitDefEqProofs only [go_sem, ↓reduceIte]
    refine ⟨⟨(accs ++ [x :: acc], q3, _, f'), hN⟩, ?_, ?_⟩
    · simp only [hc, if_true]
      split <;> omega
    · refine Leads.ent [(0, 0), (1, 1), (2, 2), (3, 3), (6, 4)] ⟨by simp [entT, fget, AV.ren, renL, pget], ?_, rfl, rfl⟩
      simp only [hsn, List.map_append, hcs]
      simp [entM, pinv, mget, mset, renL, AV.ren, pget, renL_append, -List.map_map, parC, lexQ, lexC, hcr, hsd]
  | false =>
    have hq := hn hb
    subst hq
    have h4 := hI.done h1 h2 hb
    simp -implicitDefEqProofs only [go_sem, ↓reduceIte, mset]
    refine hK _ ?_; clear hK
    refine bwp_cond true (by simp [ev, fget]) (fun _ => ?_) (fun h => nomatch h)
    refine bwp_seq fun K hK => bwp_region rfl ?_
    simp -implicitDefEqProofs only [go_sem, ↓reduceIte]
    refine pmust_callK hs' h4.ps [59] rfl rfl ?_
    intro q4 h5
    simp -implicitDefEqProofs only [go_sem, ↓reduceIte, mset]
    refine hK _ ?_; clear hK
    refine bwp_seq fun K hK => bwp_region rfl ?_
    simp -implicitDefEqProofs only [go_sem, ↓reduceIte]
    refine hK _ ?_; clear hK
    have hrl : (rowsC (accs ++ [x :: acc])).length = accs.length + 1 := by rw [rowsC_len]; simp
    have hrt : (rowsC (accs ++ [x :: acc])).take (accs.length + 1) = rowsC (accs ++ [x :: acc]) := List.take_of_length_le (by omega)
    have hrd : rowsD (accs ++ [x :: acc]) = .sl (accs.length + 1) (rowsC (accs ++ [x :: acc])) := by simp [rowsD]
    have hlast := hR (accs ++ [x :: acc]) q4 (by simp; omega) (fun l hl => by
      rcases List.mem_append.1 hl with h' | h'
      · exact hI.rows l h'
      · simp only [List.mem_cons, List.not_mem_nil, or_false] at h'
        subst h'
        simp only [List.length_cons]
        omega) (PQ.bind h4 (PQ.bind h5 (PQ.ret h5.ps)))
    rw [hrd] at hlast
    refine bwp_leads (S' := ⟨[(4, .ptr 2 0)], [(0, parC q4), (1, lexQ s q4), (2, [.d (.int .i64 kind), .sl 4 1 0 (accs.length + 1)]), (4, (rowsC (accs ++ [x :: acc])).map .d)], 5⟩) (Leads.ent [(0, 0), (1, 1), (2, 2), (6, 4)] ⟨by simp [entT, fget, AV.ren, renL, pget], ?_, rfl, rfl⟩) ?_
    · rw [hsn, List.map_append, hcs]
      simp [entM, pinv, mget, mset, renL, AV.ren, pget, renL_append, -List.map_map, parC, lexQ, lexC, hcr, hsd]
    generalize rowsC (accs ++ [x :: acc]) = rs at *
    refine bwp_leads (Leads.frz (S' := ⟨[(4, .ptr 2 0)], [(0, parC q4), (1, lexQ s q4), (2, [.d (.int .i64 kind), .d (.sl (accs.length + 1) rs)])], 3⟩) [(0, 0), (1, 1), (2, 2)] [(4, rs)] ⟨?_, ?_, rfl, rfl, ?_⟩) ?_
    · simp [frzT, fget, AV.cv, cvL, zget, pget]
    · simp [frzM, pinv, zget, mget, cvL, AV.cv, parC, lexQ, lexC, pget, hrt]
    · simp [zokFrom, mget, cvL_d]
    refine bwp_ret ?_
    simp -implicitDefEqProofs only [go_sem, ↓reduceIte]
    exact hlast
set_option maxHeartbeats 16000000 in
theorem pcond_calls {s : List UInt8} (hs : s.length ≤ 4000) {σ : PR Nat} {q : PSt} (h : PS s σ q) (kind : Int) :
    ACalls Tryz.prog 35 [.ptr 0 0, .d (.int .i64 kind)] [(0, parC q), (1, lexQ s q)] fun r m' => ∃ q', m' = [(0, parC q'), (1, lexQ s q')] ∧ ∃ rows : List (List Atom), (rows.length ≤ 4002 ∧ ∀ l ∈ rows, l.length ≤ 4002) ∧ r = .agg [.d (.int .i64 kind), .d (rowsD rows)] ∧ PQ s (thn σ ((tAsk kind).run s)) (kind, rows) q' := by
  have hld : ldk Tryz.prog 28 = some (some 2) := by kernel_rfl
  refine acalls_of Tryz.func35 ac35_ok Tryz.ntmps35 Tryz.results35 rfl ?_
  unfold ac35
  refine bwp_seq fun K hK => bwp_region rfl ?_
  simp -implicitDefEqProofs only [go_sem, ↓reduceIte]
  refine hK _ ?_; clear hK
  refine bwp_seq fun K hK => bwp_region rfl ?_
  simp -implicitDefEqProofs only [go_sem, ↓reduceIte]
  refine hK _ ?_; clear hK
  refine bwp_block ?_
  refine bwp_leads (S' := ⟨[(4, .ptr 2 0), (5, .ptr 3 0), (0, .ptr 0 0)], [(0, parC q), (1, lexQ s q), (2, [.d (.int .i64 0), .d .nsl]), (3, [.d (.int .i64 kind), .d .nsl])], 4⟩) (Leads.ent [(0, 0), (1, 1), (2, 2), (3, 3)] ⟨by simp [entT, fget, AV.ren, renL, pget, parC, lexQ, lexC], by simp [entM, pinv, mget, mset, renL, AV.ren, pget, renL_append, -List.map_map, parC, lexQ, lexC], rfl, rfl⟩) ?_
  refine bwp_leads (Leads.nilCell 3 1 1 rfl rfl rfl rfl) ?_
  refine bwp_leads (S' := ocS s kind [] q) (Leads.ent [(0, 0), (1, 1), (2, 2), (3, 3), (4, 4)] ⟨by simp [entT, fget, AV.ren, renL, pget, ocS, parC, lexQ, lexC, rowsC], by simp [entM, pinv, mget, mset, renL, AV.ren, pget, renL_append, -List.map_map, ocS, parC, lexQ, lexC, rowsC], rfl, rfl⟩) ?_
  refine pco_loop1 hs h ?_
  intro rows q' h1 h2 h3
  simp -implicitDefEqProofs only [go_sem, ↓reduceIte]
  refine aend_mem (.agg [.d (.int .i64 kind), .d (rowsD rows)]) [(0, 0), (1, 1)] [(0, parC q'), (1, lexQ s q')] ?_ rfl rfl ?_ ⟨q', rfl, rows, ⟨h1, h2⟩, rfl, h3⟩
  · simp [resA, resVs, resV, fget, mget, mset, loadA, hld]
  · simp [entM, pinv, mget, mset, renL, AV.ren, parC, lexQ, lexC, pget]
end Go.Proofs.YtpfbljkfbjjlkaaGreatDoor

/- The document's reader, gone through: its small methods. -/
namespace Go.Proofs.YtpfbljkfbjjlkaaGreatDoor
open Go Go.Jq
set_option maxRecDepth 100000
set_option linter.unusedSimpArgs false
structure RSt where
  pos : Nat
  tok : Tok
  to : Nat
  code : Int
  eat : Nat
end Go.Proofs.YtpfbljkfbjjlkaaGreatDoor

/- The abstract layer: a region that draws its order, gone through in every order. -/
namespace Go.Jq
open Go
def stepG (P : Program) (o : AOper) (S : St) (K : St → Prop) : Prop :=
  match o.guard with
  | none => stepOp P o S K
  | some (g, want) => match fget S.t g with
    | .d (.bool b) => if b = want then stepOp P o S K else K ⟨putF S.t o.dst (.tup []), S.m, S.n⟩
    | .tup _ => K ⟨putF S.t o.dst (.tup []), S.m, S.n⟩
    | _ => False
def readyM (ms : List Nat) (L : Nat) : List Nat := (List.range ms.length).filter fun i => !L.testBit i && (ms.getD i 0 &&& L == ms.getD i 0)
def runAny (P : Program) (al : List AOper) (ms : List Nat) (K : St → Prop) : Nat → Nat → St → Prop
  | 0, L, S => readyM ms L = [] ∧ K S
  | f + 1, L, S => (readyM ms L = [] → K S) ∧ ∀ i ∈ readyM ms L, match al[i]? with
    | some ao => stepG P ao S (runAny P al ms K f (L ||| 2 ^ i))
    | none => False
theorem mask_bit (i : Nat) : ∀ (l : List Edge) (s : Nat), (s.testBit i = true ∨ ∃ e ∈ l, Region.binds .any e = true ∧ e.on = i) → (l.foldl (fun s e => if Region.binds .any e then s ||| 2 ^ e.on else s) s).testBit i = true
  | [], s, h => by
    rcases h with h | ⟨e, he, _⟩
    · exact h
    · cases he
  | e :: l, s, h => by
    simp only [List.foldl_cons]
    refine mask_bit i l _ ?_
    rcases h with h | ⟨e', he', h1, h2⟩
    · left
      split
      · rw [Nat.testBit_or, h]; rfl
      · exact h
    · rcases List.mem_cons.1 he' with rfl | he'
      · left
        rw [if_pos h1, Nat.testBit_or, h2, Nat.testBit_two_pow_self, Bool.or_true]
      · exact .inr ⟨e', he', h1, h2⟩
theorem and_eq_iff (m L : Nat) : (m &&& L == m) = true ↔ ∀ b, m.testBit b = true → L.testBit b = true := by
  rw [beq_iff_eq]
  constructor
  · intro h b hb
    rw [← h, Nat.testBit_and, Bool.and_eq_true] at hb
    exact hb.2
  · intro h
    apply Nat.eq_of_testBit_eq
    intro b
    rw [Nat.testBit_and]
    cases hb : m.testBit b with
    | false => rfl
    | true => rw [h b hb]; rfl
section
variable {P : Program} {k : Nat} {ops : Array Oper}
theorem ready_iff {listed : Array Bool} {L : Nat} (hsz : listed.size = ops.size) (hL : ∀ i, L.testBit i = listed.getD i false) (i : Nat) : i ∈ readyM (masksOf ops) L ↔ i ∈ Region.ready .any ops listed := by
  rw [mem_ready]
  unfold readyM
  rw [List.mem_filter, List.mem_range, Bool.and_eq_true, Bool.not_eq_true', and_eq_iff]
  have hlen : (masksOf ops).length = ops.size := by simp [masksOf]
  rw [hlen]
  constructor
  · rintro ⟨h1, h2, h3⟩
    have hi : i < listed.size := by omega
    refine ⟨?_, ops[i], by simp [h1], fun e he hb => ?_⟩
    · have := hL i
      rw [h2] at this
      simp [hi] at this ⊢
      exact this
    · rw [← hL]
      refine h3 _ ?_
      have : (masksOf ops).getD i 0 = (ops[i]).after.toList.foldl (fun s e => if Region.binds .any e then s ||| 2 ^ e.on else s) 0 := by
        simp [masksOf, h1]
      rw [this]
      exact mask_bit _ _ _ (.inr ⟨e, by simpa using he, hb, rfl⟩)
  · rintro ⟨h1, o, ho, h3⟩
    have hi : i < ops.size := (Array.getElem?_eq_some_iff.1 ho).1
    have hi' : i < listed.size := by omega
    refine ⟨hi, ?_, fun b hb => ?_⟩
    · rw [hL]
      simp [hi'] at h1 ⊢
      exact h1
    · have : (masksOf ops).getD i 0 = o.after.toList.foldl (fun s e => if Region.binds .any e then s ||| 2 ^ e.on else s) 0 := by
        have e : ops[i] = o := (Array.getElem?_eq_some_iff.1 ho).2
        simp [masksOf, hi, e]
      rw [this] at hb
      rcases mask_spec b _ _ hb with h | ⟨e, he, h4, h5⟩
      · simp at h
      · rw [hL, ← h5]
        exact h3 e (by simpa using he) h4
theorem ready_nil {listed : Array Bool} {L : Nat} (hsz : listed.size = ops.size) (hL : ∀ i, L.testBit i = listed.getD i false) : Region.ready .any ops listed = [] → readyM (masksOf ops) L = [] := by
  intro h
  rw [List.eq_nil_iff_forall_not_mem]
  intro i hi
  rw [ready_iff hsz hL, h] at hi
  cases hi
theorem runAny_sound {E : Env} {al : List AOper} {Q : Exit → Act → World → Prop} {K : St → Prop} (hc : cOpers P ops k ops.toList = some al) (hK : ∀ S' a' w', K S' → Conc E k S' a' w' → Q .normal a' w') :
    ∀ (fuel L : Nat) (listed : Array Bool) (S : St) (a : Act) (w : World), listed.size = ops.size → (∀ i, L.testBit i = listed.getD i false) → E.n ≤ S.n → Conc E k S a w → runAny P al (masksOf ops) K fuel L S →
      wpAny P .any ops Q fuel listed a w
  | 0, L, listed, S, a, w, hsz, hL, _, hcc, h => ⟨by
      rw [List.eq_nil_iff_forall_not_mem]
      intro i hi
      rw [← ready_iff hsz hL, h.1] at hi
      exact absurd hi (List.not_mem_nil), hK _ _ _ h.2 hcc⟩
  | fuel + 1, L, listed, S, a, w, hsz, hL, hn, hcc, h => by
    refine ⟨fun h0 => hK _ _ _ (h.1 (ready_nil hsz hL h0)) hcc, fun i hi => ?_⟩
    have h1 := h.2 i ((ready_iff hsz hL i).2 hi)
    obtain ⟨_, o, ho, _⟩ := mem_ready.1 hi
    have hco : ∃ ao, al[i]? = some ao ∧ cOper P ops k o = some ao := by
      have key : ∀ (l : List Oper) (al : List AOper), cOpers P ops k l = some al → ∀ (i : Nat) (o : Oper), l[i]? = some o → ∃ ao, al[i]? = some ao ∧ cOper P ops k o = some ao := by
        intro l
        induction l with
        | nil => intro al _ i o ho; simp at ho
        | cons x l ih =>
          intro al hc i o ho
          simp only [cOpers] at hc
          split at hc
          · rename_i ao r' e1 e2
            cases hc
            cases i with
            | zero => simp at ho; subst ho; exact ⟨ao, rfl, e1⟩
            | succ i => exact ih r' e2 i o (by simpa using ho)
          · cases hc
      exact key _ _ hc i o (by rw [Array.getElem?_toList]; exact ho)
    obtain ⟨ao, hao, hco⟩ := hco
    rw [hao] at h1
    simp only at h1
    have hsz' : (listed.setIfInBounds i true).size = ops.size := by simp [hsz]
    have hi' : i < listed.size := by rw [hsz]; exact (Array.getElem?_eq_some_iff.1 ho).1
    have hL' : ∀ j, (L ||| 2 ^ i).testBit j = (listed.setIfInBounds i true).getD j false := by
      intro j
      rw [Nat.testBit_or, Nat.testBit_two_pow]
      by_cases hij : i = j
      · subst hij
        simp [hi']
      · rw [getD_set_ne false hij, ← hL j]
        simp [hij]
    have next : ∀ S' a' w', runAny P al (masksOf ops) K fuel (L ||| 2 ^ i) S' → Conc E k S' a' w' → S.n ≤ S'.n → wpAny P .any ops Q fuel (listed.setIfInBounds i true) a' w' :=
      fun S' a' w' hs hc' hle => runAny_sound hc hK fuel _ _ S' a' w' hsz' hL' (Nat.le_trans hn hle) hc' hs
    obtain ⟨hg, hd, hdk⟩ := cOper_guard hco
    unfold wpOp
    simp only [ho]
    unfold stepG at h1
    split at h1
    · rename_i hgn
      rw [hgn] at hg
      rw [if_pos (guard_none hg _)]
      exact .inl (wp_step hco hn next hcc h1)
    · rename_i g want hgs
      rw [hgs] at hg
      split at h1
      · rename_i b hb
        obtain ⟨c, hcr, hp⟩ := id hcc
        have hw := guard_wanted hg hcr.fr hb
        split at h1
        · rename_i hbw
          rw [hw, if_pos (by simpa using hbw)]
          exact .inl (wp_step hco hn next hcc h1)
        · rename_i hbw
          rw [hw, if_neg (by simpa using hbw)]
          refine next ⟨putF S.t ao.dst (.tup []), S.m, S.n⟩ _ _ h1 ?_ (Nat.le_refl _)
          rw [hd]
          exact conc_put hcr hp hn hdk (.inl (rel_undef _ _)) hcr.mr (Step.refl _ _ _) (fun _ h => .inl h) (fun _ _ => rfl) (fun _ _ h => h) hcr.free rfl
      · rename_i cs hb
        obtain ⟨c, hcr, hp⟩ := hcc
        have hw := guard_tup hg hcr.fr hb
        rw [hw, if_neg (by simp)]
        refine next ⟨putF S.t ao.dst (.tup []), S.m, S.n⟩ _ _ h1 ?_ (Nat.le_refl _)
        rw [hd]
        exact conc_put hcr hp hn hdk (.inl (rel_undef _ _)) hcr.mr (Step.refl _ _ _) (fun _ h => .inl h) (fun _ _ => rfl) (fun _ _ h => h) hcr.free rfl
      · exact h1.elim
theorem awp_region_any {n0 : Nat} {S : St} {Q : Exit → St → Prop} {id : Nat} {al : List AOper} (hm : P.follows .mixedOrders = true) (hc : cOpers P ops k ops.toList = some al) (hn : n0 ≤ S.n)
    (h : runAny P al (masksOf ops) (fun S' => Q .normal S') (masksOf ops).length 0 S) : AWP P n0 k (.region id ops true) S Q := by
  intro E hE a w hcc
  refine wp_region_any hm ?_
  have hconc : Conc E k S a { w with drawn := w.drawn + 1 } := conc_drew hcc rfl rfl rfl rfl
  have hlen : (masksOf ops).length = ops.size := by simp [masksOf]
  rw [hlen] at h
  refine runAny_sound hc (K := fun S' => Q .normal S') (fun S' a' w' h1 h2 => ⟨S', h1, h2⟩) ops.size 0 _ S a _ (by simp) (fun i => ?_) (hE ▸ hn) hconc h
  rw [Nat.zero_testBit, Array.getD_eq_getD_getElem?]
  by_cases hi : i < ops.size
  · simp [hi]
  · rw [Array.getElem?_eq_none (by simpa using Nat.le_of_not_lt hi)]
    rfl
theorem bwp_region_any {n0 : Nat} {S : St} {Q : Exit → St → Prop} {al : List AOper} {ms : List Nat} (hm : P.follows .mixedOrders = true) (hn : decide (n0 ≤ S.n) = true) (h : runAny P al ms (fun S' => Q .normal S') ms.length 0 S) :
    BWP P n0 k (.region true al ms) S Q := by
  intro code hc
  cases code with
  | region id ops draw =>
    simp only [cCode] at hc
    split at hc
    · rename_i al' hal
      split at hc
      · rename_i hd
        split at hc
        · cases hc
          subst hd
          exact awp_region_any hm hal (of_decide_eq_true hn) h
        · cases hc
      · cases hc
    · cases hc
  | cond c a b => simp only [cCode] at hc; repeat' split at hc
                  all_goals cases hc
  | seq a b => simp only [cCode] at hc; repeat' split at hc
               all_goals cases hc
  | _ => simp [cCode] at hc
theorem runAny_step {al : List AOper} {ms : List Nat} {K : St → Prop} {f L : Nat} {S : St} (l : List Nat) (hl : readyM ms L = l) (hne : l ≠ []) (h : ∀ i ∈ l, match al[i]? with
    | some ao => stepG P ao S (runAny P al ms K f (L ||| 2 ^ i))
    | none => False) : runAny P al ms K (f + 1) L S := by
  subst hl
  exact ⟨fun h0 => absurd h0 hne, h⟩
theorem runAny_done {al : List AOper} {ms : List Nat} {K : St → Prop} {f L : Nat} {S : St} (hl : readyM ms L = []) (h : K S) : runAny P al ms K f L S := by
  cases f with
  | zero => exact ⟨hl, h⟩
  | succ f => exact ⟨fun _ => h, fun i hi => by rw [hl] at hi; cases hi⟩
theorem stepG_run {o : AOper} {S : St} {K : St → Prop} (h : runOps P [o] S K) : stepG P o S K := by
  unfold stepG
  simp only [runOps] at h
  exact h
theorem runAny_one {al : List AOper} {ms : List Nat} {K : St → Prop} {f L i : Nat} {S : St} {ao : AOper} (hl : readyM ms L = [i]) (ha : al[i]? = some ao) (h : runOps P [ao] S (runAny P al ms K f (L ||| 2 ^ i))) : runAny P al ms K (f + 1) L S := by
  refine runAny_step [i] hl (by simp) ?_
  intro j hj
  simp only [List.mem_cons, List.not_mem_nil, or_false] at hj
  subst hj
  rw [ha]
  exact stepG_run h
theorem runAny_two {al : List AOper} {ms : List Nat} {K : St → Prop} {f L i j : Nat} {S : St} {ao bo : AOper} (hl : readyM ms L = [i, j]) (ha : al[i]? = some ao) (hb : al[j]? = some bo)
    (h : runOps P [ao] S (runAny P al ms K f (L ||| 2 ^ i))) (h' : runOps P [bo] S (runAny P al ms K f (L ||| 2 ^ j))) : runAny P al ms K (f + 1) L S := by
  refine runAny_step [i, j] hl (by simp) ?_
  intro k hk
  simp only [List.mem_cons, List.not_mem_nil, or_false] at hk
  rcases hk with rfl | rfl
  · rw [ha]; exact stepG_run h
  · rw [hb]; exact stepG_run h'
end
end Go.Jq

/- The document's reader: look, is, go1, fail, eat. -/
namespace Go.Proofs.YtpfbljkfbjjlkaaGreatDoor
open Go Go.Jq
set_option maxRecDepth 100000
set_option linter.unusedSimpArgs false
end Go.Proofs.YtpfbljkfbjjlkaaGreatDoor

/- The document's reader: words, numbers, names, operands. -/
namespace Go.Proofs.YtpfbljkfbjjlkaaGreatDoor
open Go Go.Jq
set_option maxRecDepth 100000
set_option linter.unusedSimpArgs false
end Go.Proofs.YtpfbljkfbjjlkaaGreatDoor

/- The document's reader: instructions. -/
namespace Go.Proofs.YtpfbljkfbjjlkaaGreatDoor
open Go Go.Jq
set_option maxRecDepth 100000
set_option linter.unusedSimpArgs false
def z9 : List AV := [.d (.int .i64 0), .d (.int .i64 0), .d (.int .i64 0), .d (.int .i64 0), .d (.int .i64 0), .d (.int .i64 0), .d (.int .i64 0), .d (.int .i64 0), .d (.int .i64 0)]
end Go.Proofs.YtpfbljkfbjjlkaaGreatDoor

/- The document's reader: atoms. -/
namespace Go.Proofs.YtpfbljkfbjjlkaaGreatDoor
open Go Go.Jq
set_option maxRecDepth 100000
set_option linter.unusedSimpArgs false
def z4 : List AV := [.d (.int .i64 0), .d (.int .i64 0), .d (.int .i64 0), .d (.int .i64 0)]
end Go.Proofs.YtpfbljkfbjjlkaaGreatDoor

/- The document's reader once it has an error: nothing changes. -/
namespace Go.Proofs.YtpfbljkfbjjlkaaGreatDoor
open Go Go.Jq
set_option maxRecDepth 100000
set_option linter.unusedSimpArgs false
section
variable {s : List UInt8} {r : RSt} (hc : ¬ r.code = 0)
include hc
end
end Go.Proofs.YtpfbljkfbjjlkaaGreatDoor

/- The parser's threads. -/
namespace Go.Proofs.YtpfbljkfbjjlkaaGreatDoor
open Go Go.Jq
set_option maxRecDepth 100000
set_option linter.unusedSimpArgs false
structure TI (s : List UInt8) (σ0 : PR Nat) (f0 : Nat) (acc : List (List Ins)) (q : PSt) (σ : PR Nat) (f : Nat) : Prop where
  ps : PS s σ q
  to : ∀ l qf, PQ s (thn σ ((tThreads f).run s)) l qf → PQ s (thn σ0 ((tThreads f0).run s)) (acc ++ l) qf
  fuel : ∀ a, σ = .ok a → s.length - a < f
  len : acc.length + f ≤ f0 ∨ (∃ e, σ = .error e) ∧ acc.length ≤ f0
  rows : ∀ l ∈ acc, l.length ≤ 4001
theorem TI.next {s : List UInt8} {σ0 : PR Nat} {f0 : Nat} {acc : List (List Ins)} {q : PSt} {σ : PR Nat} {f : Nat} (h : TI s σ0 f0 acc q σ f) (hb : tkB q wThread = true) {x : List Ins} (hx : x.length ≤ 4001) {q' : PSt} (hq : PQ s (thn (thn σ (eatW s)) (tThread.run s)) x q') :
    ∃ f', f = f' + 1 ∧ TI s σ0 f0 (acc ++ [x]) q' (posR (thn (thn σ (eatW s)) (tThread.run s))) f' := by
  obtain ⟨a, rfl, h4⟩ := tkB_ok h.ps hb
  have hf := h.fuel a rfl
  obtain ⟨f', rfl⟩ : ∃ f', f = f' + 1 := ⟨f - 1, by omega⟩
  refine ⟨f', rfl, ⟨hq.ps, fun l qf hl => ?_, fun b hb' => ?_, ?_, fun l hl => ?_⟩⟩
  · have : PQ s (thn (.ok a) ((tThreads (f' + 1)).run s)) (x :: l) qf := PQ.take_yes h.ps hb (PQ.bind hq (PQ.bind hl (PQ.ret hl.ps)))
    have := h.to _ _ this
    simpa using this
  · obtain ⟨y, hy⟩ := posR_ok hb'
    obtain ⟨c, hc, hy'⟩ := thn_ok hy
    have h1 := eatW_lt h.ps.1 h.ps.2.1 h4 hc
    have h2 := tThread.run_le h1.2 hy'
    omega
  · rcases h.len with hl | ⟨⟨e, he⟩, _⟩
    · left
      simp only [List.length_append, List.length_cons, List.length_nil]
      omega
    · cases he
  · rcases List.mem_append.1 hl with h' | h'
    · exact h.rows l h'
    · simp only [List.mem_cons, List.not_mem_nil, or_false] at h'
      subst h'
      exact hx
theorem TI.done {s : List UInt8} {σ0 : PR Nat} {f0 : Nat} {acc : List (List Ins)} {q : PSt} {σ : PR Nat} {f : Nat} (h : TI s σ0 f0 acc q σ f) (hb : tkB q wThread = false) : PQ s (thn σ0 ((tThreads f0).run s)) acc q := by
  have : PQ s (thn σ ((tThreads f).run s)) [] q := by
    cases σ with
    | error e => exact h.ps
    | ok a =>
      have hf := h.fuel a rfl
      obtain ⟨f', rfl⟩ : ∃ f', f = f' + 1 := ⟨f - 1, by omega⟩
      exact PQ.take_no h.ps hb (PQ.ret h.ps)
  have := h.to _ _ this
  simpa using this
theorem TI.start {s : List UInt8} {σ : PR Nat} {q : PSt} (hs : s.length ≤ 4000) (h : PS s σ q) : TI s σ fuelP [] q σ fuelP :=
  ⟨h, fun l qf hl => hl, fun a _ => by unfold fuelP; omega, .inl (by simp), fun l hl => by cases hl⟩
theorem TI.short {s : List UInt8} {σ0 σ : PR Nat} {acc : List (List Ins)} {q : PSt} {f : Nat} (h : TI s σ0 fuelP acc q σ f) : acc.length ≤ 4001 := by
  rcases h.len with h | h
  · unfold fuelP at h; omega
  · exact h.2
def thrC (ts : List (List Ins)) : List DV := ts.map (slD Ins.cells)
theorem thrC_len (ts : List (List Ins)) : (thrC ts).length = ts.length := by simp [thrC]
theorem thrC_snoc (ts : List (List Ins)) (l : List Ins) : thrC (ts ++ [l]) = thrC ts ++ [slD Ins.cells l] := by simp [thrC]
def thrD (ts : List (List Ins)) : DV := .sl ts.length (thrC ts)
def ptS (s : List UInt8) (nm : List UInt8) (I : DV) (ts : List (List Ins)) (q : PSt) : St :=
  ⟨[(5, .ptr 0 0), (6, .ptr 2 0), (2, .ptr 4 0), (3, .ptr 5 0)], [(0, parC q), (1, lexQ s q), (2, [.d (.str nm), .d I, .sl 3 1 0 ts.length, .d (.int .i64 0), .d (.sl 0 [])]), (3, (thrC ts).map .d), (4, [.d (.str []), .d .nsl, .d .nsl, .d (.int .i64 0), .d .nsl]), (5, [.d (.int .i64 0), .d (.int .i64 0)])], 6⟩
set_option maxHeartbeats 32000000 in
theorem ppa_loop {s : List UInt8} (hs : s.length ≤ 4000) {nm : List UInt8} {I : DV} {σ0 : PR Nat} {q0 : PSt} (h0 : PS s σ0 q0) {Q : Exit → St → Prop}
    (hQ : ∀ acc q', acc.length ≤ 4001 → (∀ l ∈ acc, l.length ≤ 4001) → PQ s (thn σ0 ((tThreads fuelP).run s)) acc q' → Q (.exit 0) (ptS s nm I acc q')) :
    BWP Tryz.prog (mbound []) 77 (.loop ac9L0) (ptS s nm I [] q0) Q := by
  have hs' : s.length ≤ 140737488351232 := by omega
  refine bwp_fam (ι := { p : List (List Ins) × PSt × PR Nat × Nat // TI s σ0 fuelP p.1 p.2.1 p.2.2.1 p.2.2.2 }) (fun p => ptS s nm I p.1.1 p.1.2.1) (fun p => if p.1.2.1.code = 0 then p.1.2.2.2 + 1 else 0) ⟨([], q0, σ0, fuelP), TI.start hs h0⟩ ?_
  rintro ⟨⟨acc, q, σ, f⟩, hI⟩
  simp only at hI ⊢
  unfold ac9L0 ptS
  have hshort := hI.short
  have hcl : ((thrC acc).map AV.d).length = acc.length := by rw [List.length_map, thrC_len]
  have hcr : ∀ π, renL π ((thrC acc).map AV.d) = (thrC acc).map .d := fun π => renL_d _ _
  have hb1 : (acc.length + 1) * 24 ≤ 140737488351232 := by omega
  generalize hcs : (thrC acc).map AV.d = cs at *
  refine bwp_seq fun K1 hK1 => ?_
  refine bwp_seq fun K hK => bwp_region rfl ?_
  simp -implicitDefEqProofs only [go_sem, ↓reduceIte]
  refine ptake_callK hs' hI.ps wThread rfl rfl ?_
  intro q1 hy hn
  cases hb : tkB q wThread with
  | false =>
    have hq1 := hn hb
    subst hq1
    simp -implicitDefEqProofs only [go_sem, ↓reduceIte, mset]
    refine hK _ ?_; clear hK
    refine bwp_cond false (by simp [ev, fget]) (fun h => nomatch h) (fun _ => ?_)
    refine bwp_leads (S' := ptS s nm I acc q1) (Leads.ent [(0, 0), (1, 1), (2, 2), (3, 3), (4, 4), (5, 5)] ⟨by simp [ptS, entT, fget, AV.ren, renL, pget], ?_, rfl, rfl⟩) ?_
    · simp [ptS, entM, pinv, mget, mset, renL, AV.ren, pget, renL_append, -List.map_map, parC, lexQ, lexC, hcs, hcr]
    exact bwp_exit (hQ acc q1 hshort hI.rows (hI.done hb))
  | true =>
    have h1 := hy hb
    have hc : q.code = 0 := by
      obtain ⟨a, ha, _⟩ := tkB_ok hI.ps hb
      have := hI.ps
      rw [ha] at this
      exact this.code
    simp -implicitDefEqProofs only [go_sem, ↓reduceIte, mset]
    refine hK _ ?_; clear hK
    refine bwp_cond true (by simp [ev, fget]) (fun _ => ?_) (fun h => nomatch h)
    refine bwp_skip ?_
    refine hK1 _ ?_; clear hK1
    refine bwp_block ?_
    refine bwp_region_any rfl rfl ?_
    repeat' (first
      | (refine runAny_two rfl rfl rfl ?_ ?_ <;> simp -implicitDefEqProofs only [go_sem, ↓reduceIte, Nat.reduceEqDiff, Nat.reduceAdd, Nat.reduceLeDiff, Nat.reduceMul, Nat.reduceSub, Int.reduceLE, Int.reduceLT, Int.reduceEq, Int.reduceToNat, Int.reducePow, Int.reduceNeg, mset, hcl, hb1, List.length_append, List.length_map, List.length_cons, List.length_nil])
      | (refine runAny_one rfl rfl ?_; simp -implicitDefEqProofs only [go_sem, ↓reduceIte, Nat.reduceEqDiff, Nat.reduceAdd, Nat.reduceLeDiff, Nat.reduceMul, Nat.reduceSub, Int.reduceLE, Int.reduceLT, Int.reduceEq, Int.reduceToNat, Int.reducePow, Int.reduceNeg, mset, hcl, hb1, List.length_append, List.length_map, List.length_cons, List.length_nil])
      | (refine pthread_callK hs h1 rfl rfl ?_; intro l q2 hl h2; simp -implicitDefEqProofs only [go_sem, ↓reduceIte, Nat.reduceEqDiff, Nat.reduceAdd, Nat.reduceLeDiff, Nat.reduceMul, Nat.reduceSub, Int.reduceLE, Int.reduceLT, Int.reduceEq, Int.reduceToNat, Int.reducePow, Int.reduceNeg, mset, hcl, hb1, List.length_append, List.length_map, List.length_cons, List.length_nil]))
    all_goals refine runAny_done rfl ?_
    all_goals
      obtain ⟨f', rfl, hN⟩ := hI.next hb hl h2
      have hsn := thrC_snoc acc l
      refine ⟨⟨(acc ++ [l], q2, _, f'), hN⟩, ?_, ?_⟩
      · simp only [hc, if_true]
        split <;> omega
      · refine Leads.ent [(0, 0), (1, 1), (2, 2), (11, 3), (4, 4), (5, 5)] ⟨by simp [entT, fget, AV.ren, renL, pget], ?_, rfl, rfl⟩
        simp only [hsn, List.map_append, hcs]
        simp [entM, pinv, mget, mset, renL, AV.ren, pget, renL_append, -List.map_map, parC, lexQ, lexC, hcr]
theorem pcond_callK {s : List UInt8} (hs : s.length ≤ 4000) {σ : PR Nat} {q : PSt} (h : PS s σ q) (kind : Int) {dst : Option Nat} {ops : List AOper} {K : St → Prop} {t : Fr} {m : Mem} {n : Nat} (hm0 : mget m 0 = some (parC q)) (hm1 : mget m 1 = some (lexQ s q))
    (hk : ∀ (rows : List (List Atom)) q', (rows.length ≤ 4002 ∧ ∀ l ∈ rows, l.length ≤ 4002) → PQ s (thn σ ((tAsk kind).run s)) (kind, rows) q' → runOps Tryz.prog ops ⟨putF t dst (.agg [.d (.int .i64 kind), .d (rowsD rows)]), mset (mset m 0 (parC q')) 1 (lexQ s q'), n + 2⟩ K) : callK Tryz.prog 35 [.ptr 0 0, .d (.int .i64 kind)] dst ops K t m n := by
  refine par_callK (rest := [.d (.int .i64 kind)]) (Q := fun r q' => ∃ rows : List (List Atom), (rows.length ≤ 4002 ∧ ∀ l ∈ rows, l.length ≤ 4002) ∧ r = .agg [.d (.int .i64 kind), .d (rowsD rows)] ∧ PQ s (thn σ ((tAsk kind).run s)) (kind, rows) q') (pcond_calls hs h kind) rfl ?_ hm0 hm1 ?_
  · rintro _ _ ⟨_, _, rfl, _⟩; rfl
  · rintro _ q' ⟨l, h1, rfl, h⟩; exact hk l q' h1 h
theorem pnext0_calls {s : List UInt8} (hs : s.length ≤ 140737488351232) :
    ACalls Tryz.prog 29 [.ptr 0 0] [(0, parC ⟨noTok, 0, 0, 0, 0, 0, 0⟩), (1, lexQ s ⟨noTok, 0, 0, 0, 0, 0, 0⟩)] fun r m' => ∃ q', m' = [(0, parC q'), (1, lexQ s q')] ∧ (r = .tup [] ∧ PS s (goW s 0) q') := by
  refine acalls_of Tryz.func29 ac29_ok Tryz.ntmps29 Tryz.results29 rfl ?_
  unfold ac29
  refine bwp_seq fun K hK => bwp_region rfl ?_
  simp -implicitDefEqProofs only [go_sem, ↓reduceIte, parC]
  refine hK _ ?_; clear hK
  refine bwp_cond true (by simp [ev, fget]) (fun _ => ?_) (fun h => nomatch h)
  refine bwp_region rfl ?_
  simp -implicitDefEqProofs only [go_sem, ↓reduceIte]
  refine next_callK hs (Nat.zero_le _) ⟨Nat.le_refl _, Nat.zero_le _⟩ rfl ?_
  intro rd' hrd'
  by_cases h0 : (nextW s 0).2.2 = 0
  · have he : nextW s 0 = ((nextW s 0).1, (nextW s 0).2.1, 0) := by rw [← h0]
    have hee : errAt s 0 = 0 := by unfold errAt; rw [if_pos h0]
    have hgo : goW s 0 = .ok 0 := by unfold goW; rw [if_pos h0]
    rw [nxR_ok he, hee, h0]
    simp -implicitDefEqProofs only [go_sem, ↓reduceIte, mset, lexQ, lexC]
    refine ⟨.tup [], rfl, [(0, 0), (1, 1)], [(0, parC ⟨(nextW s 0).1, 0, 0, (nextW s 0).2.1, rd', 0, 0⟩), (1, lexQ s ⟨(nextW s 0).1, 0, 0, (nextW s 0).2.1, rd', 0, 0⟩)], rfl, rfl, ?_, ⟨_, rfl, rfl, ?_⟩⟩
    · simp [entM, pinv, mget, mset, renL, AV.ren, parC, lexQ, lexC, pget]
    · rw [hgo]
      exact ⟨Nat.zero_le _, h0, rfl, rfl, rfl, rfl, hrd'.2.2.1, hrd'.2.1, rfl, rfl⟩
  · have hbad := curT_noTok h0
    have hgo : goW s 0 = .error ((nextW s 0).2.2, skipA s 0) := by unfold goW; rw [if_neg h0]
    have hee : errAt s 0 = skipA s 0 := by unfold errAt; rw [if_neg h0]
    rw [nxR_bad h0 hbad, hee]
    simp -implicitDefEqProofs only [go_sem, ↓reduceIte, mset, lexQ, lexC]
    refine ⟨.tup [], rfl, [(0, 0), (1, 1)], [(0, parC ⟨noTok, (nextW s 0).2.2, skipA s 0, (nextW s 0).2.1, rd', (nextW s 0).2.2, skipA s 0⟩), (1, lexQ s ⟨noTok, (nextW s 0).2.2, skipA s 0, (nextW s 0).2.1, rd', (nextW s 0).2.2, skipA s 0⟩)], rfl, rfl, ?_, ⟨_, rfl, rfl, ?_⟩⟩
    · simp [entM, pinv, mget, mset, renL, AV.ren, parC, lexQ, lexC, pget, noTok]
    · rw [hgo]
      exact ⟨rfl, h0, rfl, (fun h => by cases h), Nat.zero_le _⟩
theorem pnext0_callK {s : List UInt8} (hs : s.length ≤ 140737488351232) {dst : Option Nat} {ops : List AOper} {K : St → Prop} {t : Fr} {m : Mem} {n : Nat} (hm0 : mget m 0 = some (parC ⟨noTok, 0, 0, 0, 0, 0, 0⟩)) (hm1 : mget m 1 = some (lexQ s ⟨noTok, 0, 0, 0, 0, 0, 0⟩))
    (hk : ∀ q', PS s (goW s 0) q' → runOps Tryz.prog ops ⟨putF t dst (.tup []), mset (mset m 0 (parC q')) 1 (lexQ s q'), n + 2⟩ K) : callK Tryz.prog 29 [.ptr 0 0] dst ops K t m n := by
  refine par_callK (rest := []) (Q := fun r q' => r = .tup [] ∧ PS s (goW s 0) q') (pnext0_calls hs) rfl ?_ hm0 hm1 ?_
  · rintro _ _ ⟨rfl, _⟩; rfl
  · rintro _ q' ⟨rfl, h⟩; exact hk q' h
theorem pTest_eq {s : List UInt8} (h : s.length ≤ 4000) : pTest s = match thn (goW s 0) (tTest.run s) with
    | .ok (t, _) => .ok t
    | .error e => .error e := by
  unfold pTest
  rw [if_neg (by omega)]
  cases goW s 0 <;> rfl
def testD (t : Test) : List DV := [.str t.name, slD Init.cells t.inits, thrD t.threads, .int .i64 t.kind, rowsD t.rows]
def testD0 : List DV := [.str [], .nsl, .nsl, .int .i64 0, .nsl]
def parseV : PR Test → AV
  | .ok t => .tup [.agg ((testD t).map .d), .agg [.d (.int .i64 0), .d (.int .i64 0)]]
  | .error e => .tup [.agg (testD0.map .d), .agg [.d (.int .i64 e.1), .d (.int .i64 e.2)]]
end Go.Proofs.YtpfbljkfbjjlkaaGreatDoor

/- The document's reader: its loops over what locations begin with, and over instructions. -/
namespace Go.Proofs.YtpfbljkfbjjlkaaGreatDoor
open Go Go.Jq
set_option maxRecDepth 100000
set_option linter.unusedSimpArgs false
end Go.Proofs.YtpfbljkfbjjlkaaGreatDoor

/- The document's reader: its loop over threads. -/
namespace Go.Proofs.YtpfbljkfbjjlkaaGreatDoor
open Go Go.Jq
set_option maxRecDepth 100000
set_option linter.unusedSimpArgs false
end Go.Proofs.YtpfbljkfbjjlkaaGreatDoor

/- The document's reader: its loop over a condition's atoms. -/
namespace Go.Proofs.YtpfbljkfbjjlkaaGreatDoor
open Go Go.Jq
set_option maxRecDepth 100000
set_option linter.unusedSimpArgs false
end Go.Proofs.YtpfbljkfbjjlkaaGreatDoor

/- parse.Parse. -/
namespace Go.Proofs.YtpfbljkfbjjlkaaGreatDoor
open Go Go.Jq
set_option maxRecDepth 100000
set_option linter.unusedSimpArgs false
theorem PQ.fin {α : Type} {s : List UInt8} {τ : PR (α × Nat)} {x : α} {q : PSt} (h : PQ s τ x q) : (q.code = 0 ∧ ∃ b, τ = .ok (x, b)) ∨ (∃ e, τ = .error e ∧ q.code = e.1 ∧ e.1 ≠ 0 ∧ q.eat = e.2) := by
  cases τ with
  | ok p =>
    obtain ⟨y, b⟩ := p
    obtain ⟨rfl, h⟩ := h
    exact .inl ⟨h.code, b, rfl⟩
  | error e => exact .inr ⟨e, rfl, h.1, h.2.1, h.2.2.1⟩
def pzS (s : List UInt8) (t : Test) (q : PSt) : St :=
  ⟨[(5, .ptr 0 0), (6, .ptr 2 0), (2, .ptr 4 0), (3, .ptr 5 0)], [(0, parC q), (1, lexQ s q), (2, (testD t).map .d), (4, testD0.map .d), (5, [.d (.int .i64 0), .d (.int .i64 0)])], 6⟩
set_option maxHeartbeats 32000000 in
theorem parse1_pure {s : List UInt8} (hs : s.length ≤ maxLen) : Pure Tryz.prog 9 [.d (.str s)] (parseV (pTest s)) := by
  have h54 : ldk Tryz.prog 30 = some (some 5) := by kernel_rfl
  have h26 : ldk Tryz.prog 35 = some (some 2) := by kernel_rfl
  have kl := long_pure s
  have hin : ∀ r, (parseV r).ren (fun _ => none) = parseV r := by
    intro r
    cases r <;> simp [parseV, AV.ren, renL, testD, testD0]
  refine acalls_of Tryz.func9 ac9_ok Tryz.ntmps9 Tryz.results9 rfl ?_
  unfold ac9
  refine bwp_seq fun K hK => bwp_region rfl ?_
  simp -implicitDefEqProofs only [go_sem, ↓reduceIte]
  refine hK _ ?_; clear hK
  refine bwp_seq fun K1 hK1 => ?_
  by_cases hl : 4000 < s.length
  · unfold longV at kl
    rw [if_pos hl] at kl
    refine bwp_seq fun K hK => bwp_region rfl ?_
    simp -implicitDefEqProofs only [go_sem, ↓reduceIte]
    repeat' (first
      | (refine gateK_split (fun hb => ?_) (fun hb => ?_) <;> simp -implicitDefEqProofs only [go_sem, ↓reduceIte, hb])
      | (refine dGateK_split (fun hb => ?_) (fun hb => ?_) <;> simp -implicitDefEqProofs only [go_sem, ↓reduceIte, hb])
      | (refine callK_pure (kl) rfl rfl ?_; simp -implicitDefEqProofs only [go_sem, ↓reduceIte])
      | (refine dCallK_pure (kl) rfl rfl ?_; simp -implicitDefEqProofs only [go_sem, ↓reduceIte])
      | (rw [if_pos (by (try simp only [List.length_append, List.length_cons, List.length_nil, List.length_map]); omega)]; simp -implicitDefEqProofs only [go_sem, ↓reduceIte]))
    refine hK _ ?_; clear hK
    refine bwp_seq fun K hK => bwp_region rfl ?_
    simp -implicitDefEqProofs only [go_sem, ↓reduceIte]
    refine hK _ ?_; clear hK
    refine bwp_cond true (by simp [ev, fget]) (fun _ => ?_) (fun h => nomatch h)
    refine bwp_seq fun K hK => bwp_region_draw rfl rfl ?_
    simp -implicitDefEqProofs only [go_sem, ↓reduceIte]
    refine ⟨rfl, hK _ ?_⟩; clear hK
    refine bwp_ret ?_
    simp -implicitDefEqProofs only [go_sem, ↓reduceIte]
    refine aend_ret (parseV (pTest s)) ?_ (hin _) ⟨rfl, rfl⟩
    have : pTest s = .error (2, 4000) := by unfold pTest; rw [if_pos hl]
    rw [this]
    simp [resA, resVs, resV, fget, mget, mset, loadA, h54, h26, parseV, testD0]
  have hs4 : s.length ≤ 4000 := by omega
  have hs' : s.length ≤ 140737488351232 := by omega
  unfold longV at kl
  rw [if_neg hl] at kl
  refine bwp_seq fun K hK => bwp_region rfl ?_
  simp -implicitDefEqProofs only [go_sem, ↓reduceIte]
  repeat' (first
    | (refine gateK_split (fun hb => ?_) (fun hb => ?_) <;> simp -implicitDefEqProofs only [go_sem, ↓reduceIte, hb])
    | (refine dGateK_split (fun hb => ?_) (fun hb => ?_) <;> simp -implicitDefEqProofs only [go_sem, ↓reduceIte, hb])
    | (refine callK_pure (kl) rfl rfl ?_; simp -implicitDefEqProofs only [go_sem, ↓reduceIte])
    | (refine dCallK_pure (kl) rfl rfl ?_; simp -implicitDefEqProofs only [go_sem, ↓reduceIte])
    | (rw [if_pos (by (try simp only [List.length_append, List.length_cons, List.length_nil, List.length_map]); omega)]; simp -implicitDefEqProofs only [go_sem, ↓reduceIte]))
  refine hK _ ?_; clear hK
  refine bwp_seq fun K hK => bwp_region rfl ?_
  simp -implicitDefEqProofs only [go_sem, ↓reduceIte]
  refine hK _ ?_; clear hK
  refine bwp_cond false (by simp [ev, fget]) (fun h => nomatch h) (fun _ => ?_)
  refine bwp_skip ?_
  refine hK1 _ ?_; clear hK1
  refine bwp_seq fun K hK => bwp_region rfl ?_
  simp -implicitDefEqProofs only [go_sem, ↓reduceIte]
  refine new_callK s ?_
  simp -implicitDefEqProofs only [go_sem, ↓reduceIte, mset]
  refine hK _ ?_; clear hK
  refine bwp_leads (S' := ⟨[(5, .ptr 0 0), (2, .ptr 2 0), (3, .ptr 3 0)], [(0, parC ⟨noTok, 0, 0, 0, 0, 0, 0⟩), (1, lexQ s ⟨noTok, 0, 0, 0, 0, 0, 0⟩), (2, testD0.map .d), (3, [.d (.int .i64 0), .d (.int .i64 0)])], 4⟩) (Leads.ent [(4, 0), (3, 1), (0, 2), (1, 3)] ⟨by simp [entT, fget, AV.ren, renL, pget, parC, lexQ, lexC, noTok, testD0], by simp [entM, pinv, mget, mset, renL, AV.ren, pget, renL_append, -List.map_map, parC, lexQ, lexC, noTok, testD0], rfl, rfl⟩) ?_
  refine bwp_seq fun K hK => bwp_region rfl ?_
  simp -implicitDefEqProofs only [go_sem, ↓reduceIte]
  refine pnext0_callK hs' rfl rfl ?_
  intro q1 h1
  simp -implicitDefEqProofs only [go_sem, ↓reduceIte, mset]
  refine hK _ ?_; clear hK
  refine bwp_seq fun K hK => bwp_region rfl ?_
  simp -implicitDefEqProofs only [go_sem, ↓reduceIte]
  refine hK _ ?_; clear hK
  refine bwp_leads (S' := ⟨[(5, .ptr 0 0), (6, .ptr 2 0), (2, .ptr 4 0), (3, .ptr 5 0)], [(0, parC q1), (1, lexQ s q1), (2, testD0.map .d), (4, testD0.map .d), (5, [.d (.int .i64 0), .d (.int .i64 0)])], 6⟩) (Leads.ent [(0, 0), (1, 1), (6, 2), (2, 4), (3, 5)] ⟨by simp [entT, fget, AV.ren, renL, pget, parC, lexQ, lexC, testD0], by simp [entM, pinv, mget, mset, renL, AV.ren, pget, renL_append, -List.map_map, parC, lexQ, lexC, testD0], rfl, rfl⟩) ?_
  refine bwp_leads (Leads.nilCell 2 1 2 rfl rfl rfl rfl) ?_
  refine bwp_leads (Leads.nilCell 2 4 1 rfl rfl rfl rfl) ?_
  refine bwp_leads (Leads.nilCell 2 2 1 rfl rfl rfl rfl) ?_
  refine bwp_leads (Leads.frz (S' := ⟨[(5, .ptr 0 0), (6, .ptr 2 0), (2, .ptr 4 0), (3, .ptr 5 0)], [(0, parC q1), (1, lexQ s q1), (2, [.d (.str []), .d (.sl 0 []), .sl 3 1 0 0, .d (.int .i64 0), .d (.sl 0 [])]), (3, []), (4, testD0.map .d), (5, [.d (.int .i64 0), .d (.int .i64 0)])], 6⟩) [(0, 0), (1, 1), (2, 2), (8, 3), (4, 4), (5, 5)] [(6, []), (7, [])] ⟨?_, ?_, rfl, rfl, ?_⟩) ?_
  · simp [frzT, fget, AV.cv, cvL, zget, pget]
  · simp [frzM, pinv, zget, mget, mset, cvL, AV.cv, parC, lexQ, lexC, pget, testD0]
  · simp [zokFrom, mget, mset, cvL]
  refine bwp_seq fun K hK => bwp_region rfl ?_
  simp -implicitDefEqProofs only [go_sem, ↓reduceIte]
  refine pmust_callK hs' h1 wTest rfl rfl ?_
  intro q2 h2
  simp -implicitDefEqProofs only [go_sem, ↓reduceIte, mset]
  refine hK _ ?_; clear hK
  refine bwp_seq fun K hK => bwp_region rfl ?_
  simp -implicitDefEqProofs only [go_sem, ↓reduceIte]
  refine pword_callK hs' h2.ps rfl rfl ?_
  intro nm q3 h3
  simp -implicitDefEqProofs only [go_sem, ↓reduceIte, mset]
  refine hK _ ?_; clear hK
  refine bwp_seq fun K hK => bwp_region rfl ?_
  simp -implicitDefEqProofs only [go_sem, ↓reduceIte]
  refine pmust_callK hs' h3.ps [123] rfl rfl ?_
  intro q4 h4
  simp -implicitDefEqProofs only [go_sem, ↓reduceIte, mset]
  refine hK _ ?_; clear hK
  generalize hσ4 : posR (thn (posR (thn (posR (thn (goW s 0) ((tMust wTest).run s))) (tWord.run s))) ((tMust [123]).run s)) = σ4
  have hps4 := h4.ps
  rw [hσ4] at hps4
  refine bwp_seq fun K1 hK1 => ?_
  have fin1 : ∀ (S : St) (l : List Init) (q : PSt), Leads (mbound []) 77 S (ptS s nm (slD Init.cells l) [] q) → PQ s (thn σ4 ((tTake wInit tInits (.ret [])).run s)) l q → K1 S := by
    intro S inits q5 hS h5
    refine hK1 _ ?_; clear hK1
    refine bwp_leads hS ?_
    refine bwp_seq fun K2 hK2 => ?_
    refine bwp_block ?_
    refine ppa_loop hs4 h5.ps ?_
    intro ts q6 hl6 hls6 h6
    unfold ptS
    simp -implicitDefEqProofs only [go_sem, ↓reduceIte]
    refine hK2 _ ?_; clear hK2
    have hth : (thrC ts).length = ts.length := thrC_len ts
    have htk : (thrC ts).take ts.length = thrC ts := List.take_of_length_le (by omega)
    refine bwp_leads (Leads.frz (S' := ⟨[(5, .ptr 0 0), (6, .ptr 2 0), (2, .ptr 4 0), (3, .ptr 5 0)], [(0, parC q6), (1, lexQ s q6), (2, [.d (.str nm), .d (slD Init.cells inits), .d (thrD ts), .d (.int .i64 0), .d (.sl 0 [])]), (4, testD0.map .d), (5, [.d (.int .i64 0), .d (.int .i64 0)])], 6⟩) [(0, 0), (1, 1), (2, 2), (4, 4), (5, 5)] [(3, thrC ts)] ⟨?_, ?_, rfl, rfl, ?_⟩) ?_
    · simp [frzT, fget, AV.cv, cvL, zget, pget]
    · simp [frzM, pinv, zget, mget, mset, cvL, AV.cv, parC, lexQ, lexC, pget, testD0, thrD, htk]
    · simp [zokFrom, mget, mset, cvL_d]
    refine bwp_seq fun K2 hK2 => ?_
    refine bwp_block ?_
    have fin2 : ∀ (S : St) (c : Int × List (List Atom)) (q : PSt), Leads (mbound []) 77 S (pzS s ⟨nm, inits, ts, c.1, c.2⟩ q) → PQ s (thn (posR (thn (posR (thn σ4 ((tTake wInit tInits (.ret [])).run s))) ((tThreads fuelP).run s))) (tCond.run s)) c q → K2 S := by
      intro S c q7 hS h7
      refine hK2 _ ?_; clear hK2
      refine bwp_leads hS ?_
      unfold pzS
      refine bwp_seq fun K hK => bwp_region rfl ?_
      simp -implicitDefEqProofs only [go_sem, ↓reduceIte]
      refine pmust_callK hs' h7.ps [125] rfl rfl ?_
      intro q8 h8
      simp -implicitDefEqProofs only [go_sem, ↓reduceIte, mset]
      refine hK _ ?_; clear hK
      refine bwp_seq fun K3 hK3 => ?_
      have fin3 : ∀ (S : St) (q : PSt), Leads (mbound []) 77 S (pzS s ⟨nm, inits, ts, c.1, c.2⟩ q) → PQ s (thn (posR (thn (posR (thn (posR (thn (posR (thn σ4 ((tTake wInit tInits (.ret [])).run s))) ((tThreads fuelP).run s))) (tCond.run s))) ((tMust [125]).run s))) ((PT.cur fun d _ => if d = 4 then .ret (⟨nm, inits, ts, c.1, c.2⟩ : Test) else .bad 6).run s)) ⟨nm, inits, ts, c.1, c.2⟩ q → K3 S := by
        intro S q9 hS h9
        refine hK3 _ ?_; clear hK3
        refine bwp_leads hS ?_
        subst hσ4
        have hall : PQ s (thn (goW s 0) (tTest.run s)) ⟨nm, inits, ts, c.1, c.2⟩ q9 := PQ.bind h2 (PQ.bind h3 (PQ.bind h4 (PQ.bind h5 (PQ.bind h6 (PQ.bind h7 (PQ.bind h8 h9))))))
        unfold pzS
        refine bwp_seq fun K4 hK4 => ?_
        refine bwp_seq fun K hK => bwp_region rfl ?_
        simp -implicitDefEqProofs only [go_sem, ↓reduceIte]
        refine pok_callK s q9 rfl rfl ?_
        have heq := pTest_eq hs4
        rcases hall.fin with ⟨hc, b, hb⟩ | ⟨e, he, hc, hne, hat⟩
        · rw [hb] at heq
          simp only at heq
          simp -implicitDefEqProofs only [go_sem, ↓reduceIte, mset, eq_true hc, decide_true]
          refine hK _ ?_; clear hK
          refine bwp_cond false (by simp [ev, fget]) (fun h => nomatch h) (fun _ => ?_)
          refine bwp_skip ?_
          refine hK4 _ ?_; clear hK4
          refine bwp_seq fun K hK => bwp_region rfl ?_
          simp -implicitDefEqProofs only [go_sem, ↓reduceIte, testD]
          refine hK _ ?_; clear hK
          refine bwp_ret ?_
          simp -implicitDefEqProofs only [go_sem, ↓reduceIte]
          refine aend_ret (parseV (pTest s)) ?_ (hin _) ⟨rfl, rfl⟩
          rw [heq]
          simp [resA, resVs, resV, fget, mget, mset, loadA, h54, h26, parseV, testD, testD0]
        · rw [he] at heq
          simp only at heq
          have hc0 : ¬ q9.code = 0 := by rw [hc]; exact hne
          simp -implicitDefEqProofs only [go_sem, ↓reduceIte, mset, eq_false hc0, decide_false]
          refine hK _ ?_; clear hK
          refine bwp_cond true (by simp [ev, fget]) (fun _ => ?_) (fun h => nomatch h)
          refine bwp_seq fun K hK => bwp_region_draw rfl rfl ?_
          simp -implicitDefEqProofs only [go_sem, ↓reduceIte, parC]
          refine ⟨rfl, hK _ ?_⟩; clear hK
          refine bwp_ret ?_
          simp -implicitDefEqProofs only [go_sem, ↓reduceIte]
          refine aend_ret (parseV (pTest s)) ?_ (hin _) ⟨rfl, rfl⟩
          rw [heq]
          simp [resA, resVs, resV, fget, mget, mset, loadA, h54, h26, parseV, testD0, hc, hat]
      refine bwp_seq fun K hK => bwp_region rfl ?_
      simp -implicitDefEqProofs only [go_sem, ↓reduceIte]
      refine pok_callK s q8 rfl rfl ?_
      by_cases hc : q8.code = 0
      · by_cases h4 : q8.tok.kd = 4
        · simp -implicitDefEqProofs only [go_sem, ↓reduceIte, mset, eq_true hc, eq_true h4, parC, decide_true]
          refine hK _ ?_; clear hK
          refine bwp_cond false (by simp [ev, fget]) (fun h => nomatch h) (fun _ => ?_)
          refine bwp_skip ?_
          refine fin3 _ q8 (Leads.ent [(0, 0), (1, 1), (2, 2), (4, 4), (5, 5)] ⟨by simp [pzS, entT, fget, AV.ren, renL, pget], by simp [pzS, entM, pinv, mget, mset, renL, AV.ren, pget, parC, lexQ, lexC, testD, testD0], rfl, rfl⟩) ?_
          refine PQ.cur h8.ps ?_
          rw [if_pos h4]
          exact PQ.ret h8.ps
        · simp -implicitDefEqProofs only [go_sem, ↓reduceIte, mset, eq_true hc, eq_false h4, parC, decide_true]
          refine hK _ ?_; clear hK
          refine bwp_cond true (by simp [ev, fget]) (fun _ => ?_) (fun h => nomatch h)
          refine bwp_region rfl ?_
          simp -implicitDefEqProofs only [go_sem, ↓reduceIte]
          refine pfail_callK s q8 6 rfl rfl ?_
          simp -implicitDefEqProofs only [go_sem, ↓reduceIte, mset]
          refine fin3 _ (failF q8 6) (Leads.ent [(0, 0), (1, 1), (2, 2), (4, 4), (5, 5)] ⟨by simp [pzS, entT, fget, AV.ren, renL, pget], by simp [pzS, entM, pinv, mget, mset, renL, AV.ren, pget, parC, lexQ, lexC, testD, testD0], rfl, rfl⟩) ?_
          refine PQ.cur h8.ps ?_
          rw [if_neg h4]
          exact PQ.bad h8.ps (by decide) _
      · simp -implicitDefEqProofs only [go_sem, ↓reduceIte, mset, eq_false hc, parC, decide_false]
        refine hK _ ?_; clear hK
        refine bwp_cond false (by simp [ev, fget]) (fun h => nomatch h) (fun _ => ?_)
        refine bwp_skip ?_
        refine fin3 _ q8 (Leads.ent [(0, 0), (1, 1), (2, 2), (4, 4), (5, 5)] ⟨by simp [pzS, entT, fget, AV.ren, renL, pget], by simp [pzS, entM, pinv, mget, mset, renL, AV.ren, pget, parC, lexQ, lexC, testD, testD0], rfl, rfl⟩) ?_
        have hp8 := h8.ps
        generalize posR (thn (posR (thn (posR (thn (posR (thn σ4 ((tTake wInit tInits (.ret [])).run s))) ((tThreads fuelP).run s))) (tCond.run s))) ((tMust [125]).run s)) = σ8 at hp8 ⊢
        cases σ8 with
        | ok a => exact absurd hp8.code hc
        | error e => exact hp8
    refine bwp_seq fun K hK => bwp_region rfl ?_
    simp -implicitDefEqProofs only [go_sem, ↓reduceIte]
    refine ptake_callK hs' h6.ps wExists rfl rfl ?_
    intro q7 hy hn
    cases hb : tkB q6 wExists with
    | true =>
      have h7 := hy hb
      simp -implicitDefEqProofs only [go_sem, ↓reduceIte, mset]
      refine hK _ ?_; clear hK
      refine bwp_cond true (by simp [ev, fget]) (fun _ => ?_) (fun h => nomatch h)
      refine bwp_region rfl ?_
      simp -implicitDefEqProofs only [go_sem, ↓reduceIte]
      refine pcond_callK hs4 h7 1 rfl rfl ?_
      intro rows q8 hr h8
      simp -implicitDefEqProofs only [go_sem, ↓reduceIte, mset]
      refine fin2 _ (1, rows) q8 (Leads.ent [(0, 0), (1, 1), (2, 2), (4, 4), (5, 5)] ⟨by simp [pzS, entT, fget, AV.ren, renL, pget], by simp [pzS, entM, pinv, mget, mset, renL, AV.ren, pget, parC, lexQ, lexC, testD, testD0, rowsD], rfl, rfl⟩) ?_
      exact PQ.take_yes h6.ps hb h8
    | false =>
      have h7 := hn hb
      subst h7
      simp -implicitDefEqProofs only [go_sem, ↓reduceIte, mset]
      refine hK _ ?_; clear hK
      refine bwp_cond false (by simp [ev, fget]) (fun h => nomatch h) (fun _ => ?_)
      refine bwp_seq fun K hK => bwp_region rfl ?_
      simp -implicitDefEqProofs only [go_sem, ↓reduceIte]
      refine ptake_callK hs' h6.ps wForall rfl rfl ?_
      intro q8 hy hn
      cases hb2 : tkB q7 wForall with
      | true =>
        have h8 := hy hb2
        simp -implicitDefEqProofs only [go_sem, ↓reduceIte, mset]
        refine hK _ ?_; clear hK
        refine bwp_cond true (by simp [ev, fget]) (fun _ => ?_) (fun h => nomatch h)
        refine bwp_region rfl ?_
        simp -implicitDefEqProofs only [go_sem, ↓reduceIte]
        refine pcond_callK hs4 h8 2 rfl rfl ?_
        intro rows q9 hr h9
        simp -implicitDefEqProofs only [go_sem, ↓reduceIte, mset]
        refine fin2 _ (2, rows) q9 (Leads.ent [(0, 0), (1, 1), (2, 2), (4, 4), (5, 5)] ⟨by simp [pzS, entT, fget, AV.ren, renL, pget], by simp [pzS, entM, pinv, mget, mset, renL, AV.ren, pget, parC, lexQ, lexC, testD, testD0], rfl, rfl⟩) ?_
        exact PQ.take_no h6.ps hb (PQ.take_yes h6.ps hb2 h9)
      | false =>
        have h8 := hn hb2
        subst h8
        simp -implicitDefEqProofs only [go_sem, ↓reduceIte, mset]
        refine hK _ ?_; clear hK
        refine bwp_cond false (by simp [ev, fget]) (fun h => nomatch h) (fun _ => ?_)
        refine bwp_skip ?_
        refine fin2 _ (0, []) q8 (Leads.ent [(0, 0), (1, 1), (2, 2), (4, 4), (5, 5)] ⟨by simp [pzS, entT, fget, AV.ren, renL, pget], by simp [pzS, entM, pinv, mget, mset, renL, AV.ren, pget, parC, lexQ, lexC, testD, testD0, rowsD, rowsC], rfl, rfl⟩) ?_
        exact PQ.take_no h6.ps hb (PQ.take_no h6.ps hb2 (PQ.ret h6.ps))
  refine bwp_seq fun K hK => bwp_region rfl ?_
  simp -implicitDefEqProofs only [go_sem, ↓reduceIte]
  refine ptake_callK hs' hps4 wInit rfl rfl ?_
  intro q5 hy hn
  cases hb : tkB q4 wInit with
  | true =>
    have h5 := hy hb
    simp -implicitDefEqProofs only [go_sem, ↓reduceIte, mset]
    refine hK _ ?_; clear hK
    refine bwp_cond true (by simp [ev, fget]) (fun _ => ?_) (fun h => nomatch h)
    refine bwp_region rfl ?_
    simp -implicitDefEqProofs only [go_sem, ↓reduceIte]
    refine pinit_callK hs4 h5 rfl rfl ?_
    intro l q6 hl h6
    simp -implicitDefEqProofs only [go_sem, ↓reduceIte, mset]
    refine fin1 _ l q6 (Leads.ent [(0, 0), (1, 1), (2, 2), (3, 3), (4, 4), (5, 5)] ⟨by simp [ptS, entT, fget, AV.ren, renL, pget], by simp [ptS, thrC, entM, pinv, mget, mset, renL, AV.ren, pget, parC, lexQ, lexC, testD, testD0], rfl, rfl⟩) ?_
    exact PQ.take_yes hps4 hb h6
  | false =>
    have h5 := hn hb
    subst h5
    simp -implicitDefEqProofs only [go_sem, ↓reduceIte, mset]
    refine hK _ ?_; clear hK
    refine bwp_cond false (by simp [ev, fget]) (fun h => nomatch h) (fun _ => ?_)
    refine bwp_skip ?_
    refine fin1 _ [] q5 (Leads.ent [(0, 0), (1, 1), (2, 2), (3, 3), (4, 4), (5, 5)] ⟨by simp [ptS, entT, fget, AV.ren, renL, pget], by simp [ptS, slD, thrC, entM, pinv, mget, mset, renL, AV.ren, pget, parC, lexQ, lexC, testD, testD0], rfl, rfl⟩) ?_
    exact PQ.take_no hps4 hb (PQ.ret hps4)
end Go.Proofs.YtpfbljkfbjjlkaaGreatDoor

/- The document's reader: Tree. -/
namespace Go.Proofs.YtpfbljkfbjjlkaaGreatDoor
open Go Go.Jq
set_option maxRecDepth 100000
set_option linter.unusedSimpArgs false
end Go.Proofs.YtpfbljkfbjjlkaaGreatDoor

/- Two lists held against each other, plain. -/
namespace Go.Proofs.YtpfbljkfbjjlkaaGreatDoor
open Go Go.Jq
set_option maxRecDepth 100000
set_option linter.unusedSimpArgs false
def eqL {α : Type} (e : α → α → Bool) : List α → List α → Bool
  | [], [] => true
  | a :: l, b :: l' => e a b && eqL e l l'
  | _, _ => false
theorem eqL_len {α : Type} (e : α → α → Bool) : ∀ (l l' : List α), l.length ≠ l'.length → eqL e l l' = false
  | [], [], h => absurd rfl h
  | [], _ :: _, _ => rfl
  | _ :: _, [], _ => rfl
  | a :: l, b :: l', h => by
    simp only [eqL, eqL_len e l l' (by simpa using h), Bool.and_false]
theorem eqL_at {α : Type} (e : α → α → Bool) : ∀ (l l' : List α) (i : Nat) (h : i < l.length) (h' : i < l'.length), e l[i] l'[i] = false → eqL e l l' = false
  | [], _, i, h, _, _ => by simp at h
  | _ :: _, [], i, _, h', _ => by simp at h'
  | a :: l, b :: l', 0, _, _, he => by simp only [List.getElem_cons_zero] at he; simp [eqL, he]
  | a :: l, b :: l', i + 1, h, h', he => by
    simp only [List.getElem_cons_succ] at he
    simp [eqL, eqL_at e l l' i (by simpa using h) (by simpa using h') he]
theorem eqL_all {α : Type} (e : α → α → Bool) : ∀ (l l' : List α), l.length = l'.length → (∀ i (h : i < l.length) (h' : i < l'.length), e l[i] l'[i] = true) → eqL e l l' = true
  | [], [], _, _ => rfl
  | [], _ :: _, h, _ => by simp at h
  | _ :: _, [], h, _ => by simp at h
  | a :: l, b :: l', h, he => by
    have h0 := he 0 (by simp) (by simp)
    simp only [List.getElem_cons_zero] at h0
    simp only [eqL, h0, Bool.true_and]
    exact eqL_all e l l' (by simpa using h) fun i hi hi' => by
      have := he (i + 1) (by simpa using hi) (by simpa using hi')
      simpa using this
theorem eqL_iff {α : Type} {e : α → α → Bool} (h : ∀ a b, e a b = true ↔ a = b) : ∀ (l l' : List α), eqL e l l' = true ↔ l = l'
  | [], [] => by simp [eqL]
  | [], _ :: _ => by simp [eqL]
  | _ :: _, [] => by simp [eqL]
  | a :: l, b :: l' => by simp [eqL, h, eqL_iff h l l']
def eqInit (x y : Init) : Bool := decide (x.loc = y.loc) && (decide (x.value = y.value) && true)
def eqAtom (x y : Atom) : Bool := decide (x.thread = y.thread) && (decide (x.reg = y.reg) && (decide (x.loc = y.loc) && (decide (x.value = y.value) && true)))
theorem eqInit_iff (x y : Init) : eqInit x y = true ↔ x = y := by
  cases x; cases y
  simp [eqInit]
theorem eqAtom_iff (x y : Atom) : eqAtom x y = true ↔ x = y := by
  cases x; cases y
  simp [eqAtom]
theorem eqIns_iff (x y : Ins) : eqIns x y = true ↔ x = y := by
  cases x with | mk k r l a o b n => cases y with | mk k' r' l' a' o' b' n' => cases a; cases b; cases a'; cases b'; simp [eqIns, and_assoc]
end Go.Proofs.YtpfbljkfbjjlkaaGreatDoor

/- The document's Same: its loops. -/
namespace Go.Proofs.YtpfbljkfbjjlkaaGreatDoor
open Go Go.Jq
set_option maxRecDepth 100000
set_option linter.unusedSimpArgs false
def rsS (c1 c2 : List DV) (ex : Fr) : St := ⟨ex ++ [(2, .ptr 0 0), (3, .ptr 1 0)], [(0, c1.map .d), (1, c2.map .d)], 2⟩
set_option maxHeartbeats 4000000 in
theorem rs_inAtom {kd kd' : Int} {rows rows' : List (List Atom)} {T T' : DV} (hT : IsSl2 Atom.cells rows T) (hT' : IsSl2 Atom.cells rows' T') {i : Nat} (hi : i < rows.length) (hi' : i < rows'.length) (hln : rows[i].length = rows'[i].length) {Q : Exit → St → Prop}
    (hbad : eqL eqAtom rows[i] rows'[i] = false → ∀ S, fget S.t 4 = .d (.bool false) → Q .ret S) (hgood : eqL eqAtom rows[i] rows'[i] = true → Q (.exit 2) (rsS [.int .i64 kd, T] [.int .i64 kd', T'] [(5, .d (.int .i64 i))])) :
    BWP Tryz.prog (mbound []) 68 (.loop ac48L0) (rsS [.int .i64 kd, T] [.int .i64 kd', T'] [(6, .d (.int .i64 (0 : Nat))), (5, .d (.int .i64 i))]) Q := by
  obtain ⟨ts, d, rest0, hTe, hd1, hjc, hD⟩ := hT.at i hi
  obtain ⟨ts', d', rest0', hTe', hd1', hjc', hD'⟩ := hT'.at i hi'
  have hiT : (i : Int) < rows.length := by omega
  have hiT' : (i : Int) < rows'.length := by omega
  generalize rows[i] = l at *
  generalize rows'[i] = l' at *
  have hb := hD.1
  refine bwp_countI (fun k => rsS [.int .i64 kd, T] [.int .i64 kd', T'] [(6, .d (.int .i64 (k : Nat))), (5, .d (.int .i64 i))]) (fun k => ∀ j (h : j < l.length) (h' : j < l'.length), j < k → eqAtom l[j] l'[j] = true) l.length (fun j _ _ h => absurd h (Nat.not_lt_zero _)) ?_
  intro k hk hp
  unfold ac48L0 rsS
  simp only [List.cons_append, List.nil_append, List.map_cons, List.map_nil]
  refine bwp_seq fun K1 hK1 => ?_
  by_cases hlt : k < l.length
  · have hlt' : (k : Int) < l.length := by omega
    have hlt2 : (k : Int) < l'.length := by omega
    obtain ⟨cs, rest, hDe, hdrop, hcs⟩ := hD.at atom_len (by omega) k hlt
    obtain ⟨cs', rest', hDe', hdrop', hcs'⟩ := hD'.at atom_len (by omega) k (by omega)
    have hw : IntKind.i64.wrap ((k : Int) + 1) = ((k + 1 : Nat) : Int) := by rw [wrap_i64 (by omega) (by omega)]; rfl
    have hno := eqL_at eqAtom l l' k hlt (by omega)
    have hnext : eqAtom l[k] (l'[k]'(by omega)) = true → ∀ j (h : j < l.length) (h' : j < l'.length), j < k + 1 → eqAtom l[j] l'[j] = true := fun he j h h' hj => by
      rcases Nat.lt_succ_iff_lt_or_eq.1 hj with h1 | h1
      · exact hp j h h' h1
      · subst h1; exact he
    generalize l[k] = x at hdrop hno hnext
    generalize l'[k]'(by omega) = y at hdrop' hno hnext
    refine bwp_seq fun K hK => bwp_region rfl ?_
    simp -implicitDefEqProofs only [go_sem, ↓reduceIte, hTe, hiT, Int.natCast_nonneg, Int.toNat_natCast, hd1, hjc, hD.len, hlt']
    refine hK _ ?_; clear hK
    refine bwp_cond true (by simp [ev, fget, hlt']) (fun _ => ?_) (fun h => nomatch h)
    refine bwp_skip ?_
    refine hK1 _ ?_; clear hK1
    refine bwp_seq fun K1 hK1 => ?_
    refine bwp_block ?_
    refine bwp_seq fun K hK => bwp_region_draw rfl rfl ?_
    simp -implicitDefEqProofs only [go_sem, ↓reduceIte, hTe, hTe', hiT, hiT', Int.natCast_nonneg, Int.toNat_natCast, hd1, hjc, hd1', hjc', hDe, hDe', hlt', hlt2, hcs, hcs', hdrop, hdrop', Atom.cells]
    refine ⟨rfl, hK _ ?_⟩; clear hK
    cases he : eqAtom x y with
    | false =>
      have he' : ¬ (x.thread = y.thread ∧ x.reg = y.reg ∧ x.loc = y.loc ∧ x.value = y.value) := fun h => by
        have : eqAtom x y = true := by simp [eqAtom, h]
        rw [this] at he
        cases he
      refine bwp_cond true (by simp [ev, fget]; omega) (fun _ => ?_) (fun h => nomatch h)
      refine bwp_seq fun K hK => bwp_region rfl ?_
      simp -implicitDefEqProofs only [go_sem, ↓reduceIte]
      refine hK _ ?_; clear hK
      refine bwp_ret ?_
      simp -implicitDefEqProofs only [go_sem, ↓reduceIte]
      exact hbad (hno he) _ rfl
    | true =>
      have he' : x.thread = y.thread ∧ x.reg = y.reg ∧ x.loc = y.loc ∧ x.value = y.value := by simpa [eqAtom, and_assoc] using he
      refine bwp_cond false (by simp [ev, fget]; omega) (fun h => nomatch h) (fun _ => ?_)
      refine bwp_skip ?_
      simp -implicitDefEqProofs only [go_sem, ↓reduceIte]
      refine hK1 _ ?_; clear hK1
      refine bwp_region rfl ?_
      simp -implicitDefEqProofs only [go_sem, ↓reduceIte, hw]
      refine ⟨hlt, hnext he, Leads.ent [(0, 0), (1, 1)] ⟨by simp [entT, fget, AV.ren, renL, pget], by simp [entM, pinv, mget, renL, AV.ren, hTe, hTe', pget], rfl, rfl⟩⟩
  · have hlt' : ¬ (k : Int) < l.length := by omega
    have hin : k = l.length := by omega
    refine bwp_seq fun K hK => bwp_region rfl ?_
    simp -implicitDefEqProofs only [go_sem, ↓reduceIte, hTe, hiT, Int.natCast_nonneg, Int.toNat_natCast, hd1, hjc, hD.len, hlt']
    refine hK _ ?_; clear hK
    refine bwp_cond false (by simp [ev, fget, hlt']) (fun h => nomatch h) (fun _ => ?_)
    refine bwp_leads (S' := rsS [.int .i64 kd, T] [.int .i64 kd', T'] [(5, .d (.int .i64 i))]) (Leads.ent [(0, 0), (1, 1)] ⟨by simp [entT, fget, AV.ren, renL, pget, rsS, hTe, hTe'], by simp [entM, pinv, mget, mset, renL, AV.ren, pget, renL_append, -List.map_map, rsS, hTe, hTe'], rfl, rfl⟩) ?_
    exact bwp_exit (hgood (eqL_all eqAtom l l' hln fun j h h' => hp j h h' (by omega)))
set_option maxHeartbeats 4000000 in
theorem rs_outAtom {kd kd' : Int} {rows rows' : List (List Atom)} {T T' : DV} (hT : IsSl2 Atom.cells rows T) (hT' : IsSl2 Atom.cells rows' T') (hlr : rows.length = rows'.length) {Q : Exit → St → Prop}
    (hbad : eqL (eqL eqAtom) rows rows' = false → ∀ S, fget S.t 4 = .d (.bool false) → Q .ret S) (hgood : eqL (eqL eqAtom) rows rows' = true → Q (.exit 0) (rsS [.int .i64 kd, T] [.int .i64 kd', T'] [])) :
    BWP Tryz.prog (mbound []) 68 (.loop ac48L1) (rsS [.int .i64 kd, T] [.int .i64 kd', T'] [(5, .d (.int .i64 (0 : Nat)))]) Q := by
  have hb := hT.big
  refine bwp_countI (fun k => rsS [.int .i64 kd, T] [.int .i64 kd', T'] [(5, .d (.int .i64 (k : Nat)))]) (fun k => ∀ j (h : j < rows.length) (h' : j < rows'.length), j < k → eqL eqAtom rows[j] rows'[j] = true) rows.length (fun j _ _ h => absurd h (Nat.not_lt_zero _)) ?_
  intro i hi hp
  unfold ac48L1 rsS
  simp only [List.cons_append, List.nil_append, List.map_cons, List.map_nil]
  refine bwp_seq fun K1 hK1 => ?_
  by_cases hlt : i < rows.length
  · have hlt' : (i : Int) < rows.length := by omega
    have hlt2 : (i : Int) < rows'.length := by omega
    have hi2 : i < rows'.length := by omega
    obtain ⟨ts, d, rest0, hTe, hd1, hjc, hD⟩ := hT.at i hlt
    obtain ⟨ts', d', rest0', hTe', hd1', hjc', hD'⟩ := hT'.at i hi2
    have hw : IntKind.i64.wrap ((i : Int) + 1) = ((i + 1 : Nat) : Int) := by rw [wrap_i64 (by omega) (by omega)]; rfl
    have hno := eqL_at (eqL eqAtom) rows rows' i hlt hi2
    have hnext : eqL eqAtom rows[i] rows'[i] = true → ∀ j (h : j < rows.length) (h' : j < rows'.length), j < i + 1 → eqL eqAtom rows[j] rows'[j] = true := fun he j h h' hj => by
      rcases Nat.lt_succ_iff_lt_or_eq.1 hj with h1 | h1
      · exact hp j h h' h1
      · subst h1; exact he
    refine bwp_seq fun K hK => bwp_region rfl ?_
    simp -implicitDefEqProofs only [go_sem, ↓reduceIte, hT.len, hlt']
    refine hK _ ?_; clear hK
    refine bwp_cond true (by simp [ev, fget, hlt']) (fun _ => ?_) (fun h => nomatch h)
    refine bwp_skip ?_
    refine hK1 _ ?_; clear hK1
    refine bwp_seq fun K1 hK1 => ?_
    refine bwp_block ?_
    refine bwp_seq fun K2 hK2 => ?_
    refine bwp_seq fun K hK => bwp_region_draw rfl rfl ?_
    simp -implicitDefEqProofs only [go_sem, ↓reduceIte, hTe, hTe', hlt', hlt2, Int.natCast_nonneg, Int.toNat_natCast, hd1, hjc, hd1', hjc', hD.len, hD'.len]
    refine ⟨rfl, hK _ ?_⟩; clear hK
    by_cases hln : rows[i].length = rows'[i].length
    · have hln' : ((rows[i].length : Nat) : Int) = (rows'[i].length : Nat) := by omega
      refine bwp_cond false (by simp [ev, fget, hln']) (fun h => nomatch h) (fun _ => ?_)
      refine bwp_skip ?_
      refine hK2 _ ?_; clear hK2
      refine bwp_seq fun K hK => bwp_region rfl ?_
      simp -implicitDefEqProofs only [go_sem, ↓reduceIte]
      refine hK _ ?_; clear hK
      refine bwp_block ?_
      refine bwp_leads (S' := rsS [.int .i64 kd, T] [.int .i64 kd', T'] [(6, .d (.int .i64 (0 : Nat))), (5, .d (.int .i64 i))]) (Leads.ent [(0, 0), (1, 1)] ⟨by simp [entT, fget, AV.ren, renL, pget, rsS, hTe, hTe'], by simp [entM, pinv, mget, mset, renL, AV.ren, pget, renL_append, -List.map_map, rsS, hTe, hTe'], rfl, rfl⟩) ?_
      refine rs_inAtom hT hT' hlt hi2 hln ?_ ?_
      · intro he S hS
        simp -implicitDefEqProofs only [go_sem, ↓reduceIte]
        exact hbad (hno he) S hS
      · intro he
        unfold rsS
        simp only [List.cons_append, List.nil_append, List.map_cons, List.map_nil]
        simp -implicitDefEqProofs only [go_sem, ↓reduceIte]
        refine hK1 _ ?_; clear hK1
        refine bwp_region rfl ?_
        simp -implicitDefEqProofs only [go_sem, ↓reduceIte, hw]
        refine ⟨hlt, hnext he, Leads.ent [(0, 0), (1, 1)] ⟨by simp [entT, fget, AV.ren, renL, pget], by simp [entM, pinv, mget, renL, AV.ren, pget], rfl, rfl⟩⟩
    · have hln' : ¬ ((rows[i].length : Nat) : Int) = (rows'[i].length : Nat) := by omega
      refine bwp_cond true (by simp [ev, fget, hln']) (fun _ => ?_) (fun h => nomatch h)
      refine bwp_seq fun K hK => bwp_region rfl ?_
      simp -implicitDefEqProofs only [go_sem, ↓reduceIte]
      refine hK _ ?_; clear hK
      refine bwp_ret ?_
      simp -implicitDefEqProofs only [go_sem, ↓reduceIte]
      exact hbad (hno (eqL_len eqAtom _ _ hln)) _ rfl
  · have hlt' : ¬ (i : Int) < rows.length := by omega
    refine bwp_seq fun K hK => bwp_region rfl ?_
    simp -implicitDefEqProofs only [go_sem, ↓reduceIte, hT.len, hlt']
    refine hK _ ?_; clear hK
    refine bwp_cond false (by simp [ev, fget, hlt']) (fun h => nomatch h) (fun _ => ?_)
    refine bwp_leads (S' := rsS [.int .i64 kd, T] [.int .i64 kd', T'] []) (Leads.ent [(0, 0), (1, 1)] ⟨by simp [entT, fget, AV.ren, renL, pget, rsS], by simp [entM, pinv, mget, mset, renL, AV.ren, pget, renL_append, -List.map_map, rsS], rfl, rfl⟩) ?_
    exact bwp_exit (hgood (eqL_all (eqL eqAtom) rows rows' hlr fun j h h' => hp j h h' (by omega)))
set_option maxHeartbeats 4000000 in
theorem rs_inIns {nm nm' : List UInt8} {kd kd' : Int} {I I' A A' : DV} {rows rows' : List (List Ins)} {T T' : DV} (hT : IsSl2 Ins.cells rows T) (hT' : IsSl2 Ins.cells rows' T') {i : Nat} (hi : i < rows.length) (hi' : i < rows'.length) (hln : rows[i].length = rows'[i].length) {Q : Exit → St → Prop}
    (hbad : eqL eqIns rows[i] rows'[i] = false → ∀ S, fget S.t 4 = .d (.bool false) → Q .ret S) (hgood : eqL eqIns rows[i] rows'[i] = true → Q (.exit 4) (rsS [.str nm, I, T, .int .i64 kd, A] [.str nm', I', T', .int .i64 kd', A'] [(6, .d (.int .i64 i))])) :
    BWP Tryz.prog (mbound []) 104 (.loop ac11L1) (rsS [.str nm, I, T, .int .i64 kd, A] [.str nm', I', T', .int .i64 kd', A'] [(7, .d (.int .i64 (0 : Nat))), (6, .d (.int .i64 i))]) Q := by
  obtain ⟨ts, d, rest0, hTe, hd1, hjc, hD⟩ := hT.at i hi
  obtain ⟨ts', d', rest0', hTe', hd1', hjc', hD'⟩ := hT'.at i hi'
  have hiT : (i : Int) < rows.length := by omega
  have hiT' : (i : Int) < rows'.length := by omega
  generalize rows[i] = l at *
  generalize rows'[i] = l' at *
  have hb := hD.1
  refine bwp_countI (fun k => rsS [.str nm, I, T, .int .i64 kd, A] [.str nm', I', T', .int .i64 kd', A'] [(7, .d (.int .i64 (k : Nat))), (6, .d (.int .i64 i))]) (fun k => ∀ j (h : j < l.length) (h' : j < l'.length), j < k → eqIns l[j] l'[j] = true) l.length (fun j _ _ h => absurd h (Nat.not_lt_zero _)) ?_
  intro k hk hp
  unfold ac11L1 rsS
  simp only [List.cons_append, List.nil_append, List.map_cons, List.map_nil]
  refine bwp_seq fun K1 hK1 => ?_
  by_cases hlt : k < l.length
  · have hlt' : (k : Int) < l.length := by omega
    have hlt2 : (k : Int) < l'.length := by omega
    obtain ⟨cs, rest, hDe, hdrop, hcs⟩ := hD.at ins_len (by omega) k hlt
    obtain ⟨cs', rest', hDe', hdrop', hcs'⟩ := hD'.at ins_len (by omega) k (by omega)
    have hw : IntKind.i64.wrap ((k : Int) + 1) = ((k + 1 : Nat) : Int) := by rw [wrap_i64 (by omega) (by omega)]; rfl
    have hno := eqL_at eqIns l l' k hlt (by omega)
    have hnext : eqIns l[k] (l'[k]'(by omega)) = true → ∀ j (h : j < l.length) (h' : j < l'.length), j < k + 1 → eqIns l[j] l'[j] = true := fun he j h h' hj => by
      rcases Nat.lt_succ_iff_lt_or_eq.1 hj with h1 | h1
      · exact hp j h h' h1
      · subst h1; exact he
    generalize l[k] = x at hdrop hno hnext
    generalize l'[k]'(by omega) = y at hdrop' hno hnext
    refine bwp_seq fun K hK => bwp_region rfl ?_
    simp -implicitDefEqProofs only [go_sem, ↓reduceIte, hTe, hiT, Int.natCast_nonneg, Int.toNat_natCast, hd1, hjc, hD.len, hlt']
    refine hK _ ?_; clear hK
    refine bwp_cond true (by simp [ev, fget, hlt']) (fun _ => ?_) (fun h => nomatch h)
    refine bwp_skip ?_
    refine hK1 _ ?_; clear hK1
    refine bwp_seq fun K1 hK1 => ?_
    refine bwp_block ?_
    refine bwp_seq fun K hK => bwp_region_draw rfl rfl ?_
    simp -implicitDefEqProofs only [go_sem, ↓reduceIte, hTe, hTe', hiT, hiT', Int.natCast_nonneg, Int.toNat_natCast, hd1, hjc, hd1', hjc', hDe, hDe', hlt', hlt2, hcs, hcs', hdrop, hdrop', Ins.cells]
    refine ⟨rfl, hK _ ?_⟩; clear hK
    cases he : eqIns x y with
    | false =>
      have he' : ¬ (x.kind = y.kind ∧ x.reg = y.reg ∧ x.loc = y.loc ∧ x.a.reg = y.a.reg ∧ x.a.value = y.a.value ∧ x.op = y.op ∧ x.b.reg = y.b.reg ∧ x.b.value = y.b.value ∧ x.n = y.n) := fun h => by
        have : eqIns x y = true := by simp [eqIns, h]
        rw [this] at he
        cases he
      refine bwp_cond true (by simp [ev, fget]; omega) (fun _ => ?_) (fun h => nomatch h)
      refine bwp_seq fun K hK => bwp_region rfl ?_
      simp -implicitDefEqProofs only [go_sem, ↓reduceIte]
      refine hK _ ?_; clear hK
      refine bwp_ret ?_
      simp -implicitDefEqProofs only [go_sem, ↓reduceIte]
      exact hbad (hno he) _ rfl
    | true =>
      have he' : x.kind = y.kind ∧ x.reg = y.reg ∧ x.loc = y.loc ∧ x.a.reg = y.a.reg ∧ x.a.value = y.a.value ∧ x.op = y.op ∧ x.b.reg = y.b.reg ∧ x.b.value = y.b.value ∧ x.n = y.n := by simpa [eqIns, and_assoc] using he
      refine bwp_cond false (by simp [ev, fget]; omega) (fun h => nomatch h) (fun _ => ?_)
      refine bwp_skip ?_
      simp -implicitDefEqProofs only [go_sem, ↓reduceIte]
      refine hK1 _ ?_; clear hK1
      refine bwp_region rfl ?_
      simp -implicitDefEqProofs only [go_sem, ↓reduceIte, hw]
      refine ⟨hlt, hnext he, Leads.ent [(0, 0), (1, 1)] ⟨by simp [entT, fget, AV.ren, renL, pget], by simp [entM, pinv, mget, renL, AV.ren, hTe, hTe', pget], rfl, rfl⟩⟩
  · have hlt' : ¬ (k : Int) < l.length := by omega
    have hin : k = l.length := by omega
    refine bwp_seq fun K hK => bwp_region rfl ?_
    simp -implicitDefEqProofs only [go_sem, ↓reduceIte, hTe, hiT, Int.natCast_nonneg, Int.toNat_natCast, hd1, hjc, hD.len, hlt']
    refine hK _ ?_; clear hK
    refine bwp_cond false (by simp [ev, fget, hlt']) (fun h => nomatch h) (fun _ => ?_)
    refine bwp_leads (S' := rsS [.str nm, I, T, .int .i64 kd, A] [.str nm', I', T', .int .i64 kd', A'] [(6, .d (.int .i64 i))]) (Leads.ent [(0, 0), (1, 1)] ⟨by simp [entT, fget, AV.ren, renL, pget, rsS, hTe, hTe'], by simp [entM, pinv, mget, mset, renL, AV.ren, pget, renL_append, -List.map_map, rsS, hTe, hTe'], rfl, rfl⟩) ?_
    exact bwp_exit (hgood (eqL_all eqIns l l' hln fun j h h' => hp j h h' (by omega)))
set_option maxHeartbeats 4000000 in
theorem rs_outIns {nm nm' : List UInt8} {kd kd' : Int} {I I' A A' : DV} {rows rows' : List (List Ins)} {T T' : DV} (hT : IsSl2 Ins.cells rows T) (hT' : IsSl2 Ins.cells rows' T') (hlr : rows.length = rows'.length) {Q : Exit → St → Prop}
    (hbad : eqL (eqL eqIns) rows rows' = false → ∀ S, fget S.t 4 = .d (.bool false) → Q .ret S) (hgood : eqL (eqL eqIns) rows rows' = true → Q (.exit 2) (rsS [.str nm, I, T, .int .i64 kd, A] [.str nm', I', T', .int .i64 kd', A'] [])) :
    BWP Tryz.prog (mbound []) 104 (.loop ac11L2) (rsS [.str nm, I, T, .int .i64 kd, A] [.str nm', I', T', .int .i64 kd', A'] [(6, .d (.int .i64 (0 : Nat)))]) Q := by
  have hb := hT.big
  refine bwp_countI (fun k => rsS [.str nm, I, T, .int .i64 kd, A] [.str nm', I', T', .int .i64 kd', A'] [(6, .d (.int .i64 (k : Nat)))]) (fun k => ∀ j (h : j < rows.length) (h' : j < rows'.length), j < k → eqL eqIns rows[j] rows'[j] = true) rows.length (fun j _ _ h => absurd h (Nat.not_lt_zero _)) ?_
  intro i hi hp
  unfold ac11L2 rsS
  simp only [List.cons_append, List.nil_append, List.map_cons, List.map_nil]
  refine bwp_seq fun K1 hK1 => ?_
  by_cases hlt : i < rows.length
  · have hlt' : (i : Int) < rows.length := by omega
    have hlt2 : (i : Int) < rows'.length := by omega
    have hi2 : i < rows'.length := by omega
    obtain ⟨ts, d, rest0, hTe, hd1, hjc, hD⟩ := hT.at i hlt
    obtain ⟨ts', d', rest0', hTe', hd1', hjc', hD'⟩ := hT'.at i hi2
    have hw : IntKind.i64.wrap ((i : Int) + 1) = ((i + 1 : Nat) : Int) := by rw [wrap_i64 (by omega) (by omega)]; rfl
    have hno := eqL_at (eqL eqIns) rows rows' i hlt hi2
    have hnext : eqL eqIns rows[i] rows'[i] = true → ∀ j (h : j < rows.length) (h' : j < rows'.length), j < i + 1 → eqL eqIns rows[j] rows'[j] = true := fun he j h h' hj => by
      rcases Nat.lt_succ_iff_lt_or_eq.1 hj with h1 | h1
      · exact hp j h h' h1
      · subst h1; exact he
    refine bwp_seq fun K hK => bwp_region rfl ?_
    simp -implicitDefEqProofs only [go_sem, ↓reduceIte, hT.len, hlt']
    refine hK _ ?_; clear hK
    refine bwp_cond true (by simp [ev, fget, hlt']) (fun _ => ?_) (fun h => nomatch h)
    refine bwp_skip ?_
    refine hK1 _ ?_; clear hK1
    refine bwp_seq fun K1 hK1 => ?_
    refine bwp_block ?_
    refine bwp_seq fun K2 hK2 => ?_
    refine bwp_seq fun K hK => bwp_region_draw rfl rfl ?_
    simp -implicitDefEqProofs only [go_sem, ↓reduceIte, hTe, hTe', hlt', hlt2, Int.natCast_nonneg, Int.toNat_natCast, hd1, hjc, hd1', hjc', hD.len, hD'.len]
    refine ⟨rfl, hK _ ?_⟩; clear hK
    by_cases hln : rows[i].length = rows'[i].length
    · have hln' : ((rows[i].length : Nat) : Int) = (rows'[i].length : Nat) := by omega
      refine bwp_cond false (by simp [ev, fget, hln']) (fun h => nomatch h) (fun _ => ?_)
      refine bwp_skip ?_
      refine hK2 _ ?_; clear hK2
      refine bwp_seq fun K hK => bwp_region rfl ?_
      simp -implicitDefEqProofs only [go_sem, ↓reduceIte]
      refine hK _ ?_; clear hK
      refine bwp_block ?_
      refine bwp_leads (S' := rsS [.str nm, I, T, .int .i64 kd, A] [.str nm', I', T', .int .i64 kd', A'] [(7, .d (.int .i64 (0 : Nat))), (6, .d (.int .i64 i))]) (Leads.ent [(0, 0), (1, 1)] ⟨by simp [entT, fget, AV.ren, renL, pget, rsS, hTe, hTe'], by simp [entM, pinv, mget, mset, renL, AV.ren, pget, renL_append, -List.map_map, rsS, hTe, hTe'], rfl, rfl⟩) ?_
      refine rs_inIns hT hT' hlt hi2 hln ?_ ?_
      · intro he S hS
        simp -implicitDefEqProofs only [go_sem, ↓reduceIte]
        exact hbad (hno he) S hS
      · intro he
        unfold rsS
        simp only [List.cons_append, List.nil_append, List.map_cons, List.map_nil]
        simp -implicitDefEqProofs only [go_sem, ↓reduceIte]
        refine hK1 _ ?_; clear hK1
        refine bwp_region rfl ?_
        simp -implicitDefEqProofs only [go_sem, ↓reduceIte, hw]
        refine ⟨hlt, hnext he, Leads.ent [(0, 0), (1, 1)] ⟨by simp [entT, fget, AV.ren, renL, pget], by simp [entM, pinv, mget, renL, AV.ren, pget], rfl, rfl⟩⟩
    · have hln' : ¬ ((rows[i].length : Nat) : Int) = (rows'[i].length : Nat) := by omega
      refine bwp_cond true (by simp [ev, fget, hln']) (fun _ => ?_) (fun h => nomatch h)
      refine bwp_seq fun K hK => bwp_region rfl ?_
      simp -implicitDefEqProofs only [go_sem, ↓reduceIte]
      refine hK _ ?_; clear hK
      refine bwp_ret ?_
      simp -implicitDefEqProofs only [go_sem, ↓reduceIte]
      exact hbad (hno (eqL_len eqIns _ _ hln)) _ rfl
  · have hlt' : ¬ (i : Int) < rows.length := by omega
    refine bwp_seq fun K hK => bwp_region rfl ?_
    simp -implicitDefEqProofs only [go_sem, ↓reduceIte, hT.len, hlt']
    refine hK _ ?_; clear hK
    refine bwp_cond false (by simp [ev, fget, hlt']) (fun h => nomatch h) (fun _ => ?_)
    refine bwp_leads (S' := rsS [.str nm, I, T, .int .i64 kd, A] [.str nm', I', T', .int .i64 kd', A'] []) (Leads.ent [(0, 0), (1, 1)] ⟨by simp [entT, fget, AV.ren, renL, pget, rsS], by simp [entM, pinv, mget, mset, renL, AV.ren, pget, renL_append, -List.map_map, rsS], rfl, rfl⟩) ?_
    exact bwp_exit (hgood (eqL_all (eqL eqIns) rows rows' hlr fun j h h' => hp j h h' (by omega)))
end Go.Proofs.YtpfbljkfbjjlkaaGreatDoor

/- The document's Same, over data. -/
namespace Go.Proofs.YtpfbljkfbjjlkaaGreatDoor
open Go Go.Jq
set_option maxRecDepth 100000
set_option linter.unusedSimpArgs false
def sameB (t u : Test) : Bool := decide (t.name = u.name) && (eqL eqInit t.inits u.inits && (eqL (eqL eqIns) t.threads u.threads && (decide (t.kind = u.kind) && eqL (eqL eqAtom) t.rows u.rows)))
theorem sameB_iff (t u : Test) : sameB t u = true ↔ t = u := by
  cases t; cases u
  simp [sameB, eqL_iff eqInit_iff, eqL_iff (eqL_iff eqIns_iff), eqL_iff (eqL_iff eqAtom_iff)]
set_option maxHeartbeats 2000000 in
theorem refSameCond_pure {kd kd' : Int} {rows rows' : List (List Atom)} {A A' : DV} (hA : IsSl2 Atom.cells rows A) (hA' : IsSl2 Atom.cells rows' A') :
    Pure Tryz.prog 48 [.agg [.d (.int .i64 kd), .d A], .agg [.d (.int .i64 kd'), .d A']] (.d (.bool (decide (kd = kd') && eqL (eqL eqAtom) rows rows'))) := by
  have hb := hA.big
  refine acalls_of Tryz.func48 ac48_ok Tryz.ntmps48 Tryz.results48 rfl ?_
  unfold ac48
  refine bwp_seq fun K hK => bwp_region rfl ?_
  simp -implicitDefEqProofs only [go_sem, ↓reduceIte]
  refine hK _ ?_; clear hK
  refine bwp_seq fun K1 hK1 => ?_
  have no : ∀ S : St, (decide (kd = kd') && eqL (eqL eqAtom) rows rows') = false → decide (mbound [] ≤ S.n) = true → BWP Tryz.prog (mbound []) 68 ((ACode.region false [⟨some 4, .mv (.c (.d (.bool false))), none⟩] []).seq ACode.ret) S (Exit.thenA K1 (AEnd Tryz.prog #[.tmp 4] (mbound []) fun r m' => r = .d (.bool (decide (kd = kd') && eqL (eqL eqAtom) rows rows')) ∧ m' = [])) := by
    intro S h0 hn
    rw [h0]
    refine bwp_seq fun K hK => bwp_region hn ?_
    simp -implicitDefEqProofs only [go_sem, ↓reduceIte]
    refine hK _ ?_; clear hK
    refine bwp_ret ?_
    simp only [go_sem]
    refine aend_ret _ rfl rfl ⟨?_, rfl⟩
    simp [fget]
  by_cases h1 : kd = kd'
  · by_cases hl : rows.length = rows'.length
    · have hl1 : ((rows.length : Int) = (rows'.length : Int)) := by omega
      refine bwp_seq fun K hK => bwp_region rfl ?_
      simp -implicitDefEqProofs only [go_sem, ↓reduceIte, h1, hA.len, hA'.len, hl1]
      refine hK _ ?_; clear hK
      refine bwp_cond false (by simp [ev, fget, hl1]) (fun h => nomatch h) (fun _ => ?_)
      refine bwp_skip ?_
      refine hK1 _ ?_; clear hK1
      refine bwp_seq fun K2 hK2 => ?_
      refine bwp_seq fun K hK => bwp_region rfl ?_
      simp -implicitDefEqProofs only [go_sem, ↓reduceIte]
      refine hK _ ?_; clear hK
      refine bwp_block ?_
      refine bwp_leads (S' := rsS [.int .i64 kd, A] [.int .i64 kd', A'] [(5, .d (.int .i64 (0 : Nat)))]) (Leads.ent [(0, 0), (1, 1)] ⟨by simp [entT, fget, AV.ren, renL, pget, rsS, h1], by simp [entM, pinv, mget, mset, renL, AV.ren, pget, renL_append, -List.map_map, rsS, h1], rfl, rfl⟩) ?_
      refine rs_outAtom hA hA' hl ?_ ?_
      · intro he S hS
        simp -implicitDefEqProofs only [go_sem, ↓reduceIte]
        exact aend_ret (.d (.bool false)) (by simp [resA, resVs, resV, hS]) rfl ⟨by simp [he], rfl⟩
      · intro he
        simp -implicitDefEqProofs only [go_sem, ↓reduceIte]
        refine hK2 _ ?_; clear hK2
        unfold rsS
        refine bwp_seq fun K hK => bwp_region rfl ?_
        simp -implicitDefEqProofs only [go_sem, ↓reduceIte]
        refine hK _ ?_; clear hK
        refine bwp_ret ?_
        simp only [go_sem]
        refine aend_ret _ rfl rfl ⟨?_, rfl⟩
        simp [fget, he, h1]
    · have hl1 : ¬ ((rows.length : Int) = (rows'.length : Int)) := by omega
      refine bwp_seq fun K hK => bwp_region rfl ?_
      simp -implicitDefEqProofs only [go_sem, ↓reduceIte, h1, hA.len, hA'.len, hl1]
      refine hK _ ?_; clear hK
      refine bwp_cond true (by simp [ev, fget, h1, hl1]) (fun _ => ?_) (fun h => nomatch h)
      exact no _ (by rw [eqL_len _ _ _ hl]; simp) rfl
  · refine bwp_seq fun K hK => bwp_region rfl ?_
    simp -implicitDefEqProofs only [go_sem, ↓reduceIte, h1]
    refine hK _ ?_; clear hK
    refine bwp_cond true (by simp [ev, fget, h1]) (fun _ => ?_) (fun h => nomatch h)
    exact no _ (by simp [h1]) rfl
set_option maxHeartbeats 4000000 in
theorem rs_inits {nm nm' : List UInt8} {kd kd' : Int} {T T' A A' : DV} {l l' : List Init} {I I' : DV} (hI : IsSl Init.cells l I) (hI' : IsSl Init.cells l' I') (hln : l.length = l'.length) {Q : Exit → St → Prop}
    (hbad : eqL eqInit l l' = false → ∀ S, fget S.t 4 = .d (.bool false) → Q .ret S) (hgood : eqL eqInit l l' = true → Q (.exit 0) (rsS [.str nm, I, T, .int .i64 kd, A] [.str nm', I', T', .int .i64 kd', A'] [])) :
    BWP Tryz.prog (mbound []) 104 (.loop ac11L0) (rsS [.str nm, I, T, .int .i64 kd, A] [.str nm', I', T', .int .i64 kd', A'] [(5, .d (.int .i64 (0 : Nat)))]) Q := by
  have hb := hI.1
  refine bwp_countI (fun k => rsS [.str nm, I, T, .int .i64 kd, A] [.str nm', I', T', .int .i64 kd', A'] [(5, .d (.int .i64 (k : Nat)))]) (fun k => ∀ j (h : j < l.length) (h' : j < l'.length), j < k → eqInit l[j] l'[j] = true) l.length (fun j _ _ h => absurd h (Nat.not_lt_zero _)) ?_
  intro k hk hp
  unfold ac11L0 rsS
  simp only [List.cons_append, List.nil_append, List.map_cons, List.map_nil]
  refine bwp_seq fun K1 hK1 => ?_
  by_cases hlt : k < l.length
  · have hlt' : (k : Int) < l.length := by omega
    have hlt2 : (k : Int) < l'.length := by omega
    obtain ⟨cs, rest, hDe, hdrop, hcs⟩ := hI.at init_len (by omega) k hlt
    obtain ⟨cs', rest', hDe', hdrop', hcs'⟩ := hI'.at init_len (by omega) k (by omega)
    have hw : IntKind.i64.wrap ((k : Int) + 1) = ((k + 1 : Nat) : Int) := by rw [wrap_i64 (by omega) (by omega)]; rfl
    have hno := eqL_at eqInit l l' k hlt (by omega)
    have hnext : eqInit l[k] (l'[k]'(by omega)) = true → ∀ j (h : j < l.length) (h' : j < l'.length), j < k + 1 → eqInit l[j] l'[j] = true := fun he j h h' hj => by
      rcases Nat.lt_succ_iff_lt_or_eq.1 hj with h1 | h1
      · exact hp j h h' h1
      · subst h1; exact he
    generalize l[k] = x at hdrop hno hnext
    generalize l'[k]'(by omega) = y at hdrop' hno hnext
    refine bwp_seq fun K hK => bwp_region rfl ?_
    simp -implicitDefEqProofs only [go_sem, ↓reduceIte, hI.len, hlt']
    refine hK _ ?_; clear hK
    refine bwp_cond true (by simp [ev, fget, hlt']) (fun _ => ?_) (fun h => nomatch h)
    refine bwp_skip ?_
    refine hK1 _ ?_; clear hK1
    refine bwp_seq fun K1 hK1 => ?_
    refine bwp_block ?_
    refine bwp_seq fun K hK => bwp_region_draw rfl rfl ?_
    simp -implicitDefEqProofs only [go_sem, ↓reduceIte, hDe, hDe', hlt', hlt2, Int.natCast_nonneg, Int.toNat_natCast, hcs, hcs', hdrop, hdrop', Init.cells]
    refine ⟨rfl, hK _ ?_⟩; clear hK
    cases he : eqInit x y with
    | false =>
      have he' : ¬ (x.loc = y.loc ∧ x.value = y.value) := fun h => by
        have : eqInit x y = true := by simp [eqInit, h]
        rw [this] at he
        cases he
      refine bwp_cond true (by simp [ev, fget]; omega) (fun _ => ?_) (fun h => nomatch h)
      refine bwp_seq fun K hK => bwp_region rfl ?_
      simp -implicitDefEqProofs only [go_sem, ↓reduceIte]
      refine hK _ ?_; clear hK
      refine bwp_ret ?_
      simp -implicitDefEqProofs only [go_sem, ↓reduceIte]
      exact hbad (hno he) _ rfl
    | true =>
      have he' : x.loc = y.loc ∧ x.value = y.value := by simpa [eqInit, and_assoc] using he
      refine bwp_cond false (by simp [ev, fget]; omega) (fun h => nomatch h) (fun _ => ?_)
      refine bwp_skip ?_
      simp -implicitDefEqProofs only [go_sem, ↓reduceIte]
      refine hK1 _ ?_; clear hK1
      refine bwp_region rfl ?_
      simp -implicitDefEqProofs only [go_sem, ↓reduceIte, hw]
      refine ⟨hlt, hnext he, Leads.ent [(0, 0), (1, 1)] ⟨by simp [entT, fget, AV.ren, renL, pget], by simp [entM, pinv, mget, renL, AV.ren, hDe, hDe', pget], rfl, rfl⟩⟩
  · have hlt' : ¬ (k : Int) < l.length := by omega
    have hin : k = l.length := by omega
    refine bwp_seq fun K hK => bwp_region rfl ?_
    simp -implicitDefEqProofs only [go_sem, ↓reduceIte, hI.len, hlt']
    refine hK _ ?_; clear hK
    refine bwp_cond false (by simp [ev, fget, hlt']) (fun h => nomatch h) (fun _ => ?_)
    refine bwp_leads (S' := rsS [.str nm, I, T, .int .i64 kd, A] [.str nm', I', T', .int .i64 kd', A'] []) (Leads.ent [(0, 0), (1, 1)] ⟨by simp [entT, fget, AV.ren, renL, pget, rsS], by simp [entM, pinv, mget, mset, renL, AV.ren, pget, renL_append, -List.map_map, rsS], rfl, rfl⟩) ?_
    exact bwp_exit (hgood (eqL_all eqInit l l' hln fun j h h' => hp j h h' (by omega)))
set_option maxHeartbeats 4000000 in
theorem refSame_pure {t u : Test} {cs cu : List DV} (hT : IsTest t cs) (hU : IsTest u cu) : Pure Tryz.prog 11 [.agg (cs.map .d), .agg (cu.map .d)] (.d (.bool (sameB t u))) := by
  obtain ⟨I, T, A, rfl, hI, hTh, hA⟩ := hT
  obtain ⟨I', T', A', rfl, hI', hTh', hA'⟩ := hU
  have kc := refSameCond_pure (kd := t.kind) (kd' := u.kind) hA hA'
  have hs : sameB t u = (decide (t.name = u.name) && (eqL eqInit t.inits u.inits && (eqL (eqL eqIns) t.threads u.threads && (decide (t.kind = u.kind) && eqL (eqL eqAtom) t.rows u.rows)))) := rfl
  generalize (decide (t.kind = u.kind) && eqL (eqL eqAtom) t.rows u.rows) = e3 at *
  simp only [List.map_cons, List.map_nil]
  refine acalls_of Tryz.func11 ac11_ok Tryz.ntmps11 Tryz.results11 rfl ?_
  unfold ac11
  refine bwp_seq fun K hK => bwp_region rfl ?_
  simp -implicitDefEqProofs only [go_sem, ↓reduceIte]
  refine hK _ ?_; clear hK
  refine bwp_seq fun K1 hK1 => ?_
  have no : ∀ S : St, sameB t u = false → decide (mbound [] ≤ S.n) = true → BWP Tryz.prog (mbound []) 104 ((ACode.region false [⟨some 4, .mv (.c (.d (.bool false))), none⟩] []).seq ACode.ret) S (Exit.thenA K1 (AEnd Tryz.prog #[.tmp 4] (mbound []) fun r m' => r = .d (.bool (sameB t u)) ∧ m' = [])) := by
    intro S h0 hn
    rw [h0]
    refine bwp_seq fun K hK => bwp_region hn ?_
    simp -implicitDefEqProofs only [go_sem, ↓reduceIte]
    refine hK _ ?_; clear hK
    refine bwp_ret ?_
    simp only [go_sem]
    refine aend_ret _ rfl rfl ⟨?_, rfl⟩
    simp [fget]
  by_cases h1 : t.name = u.name
  · by_cases h2 : t.inits.length = u.inits.length
    · have h2' : (t.inits.length : Int) = u.inits.length := by omega
      by_cases h3 : t.threads.length = u.threads.length
      · have h3' : (t.threads.length : Int) = u.threads.length := by omega
        refine bwp_seq fun K hK => bwp_region rfl ?_
        simp -implicitDefEqProofs only [go_sem, ↓reduceIte, h1, hI.len, hI'.len, h2', hTh.len, hTh'.len, h3']
        refine callK_pure kc rfl rfl ?_
        cases e3 with
        | false =>
          simp -implicitDefEqProofs only [go_sem, ↓reduceIte]
          refine hK _ ?_; clear hK
          refine bwp_cond true (by simp [ev, fget]) (fun _ => ?_) (fun h => nomatch h)
          exact no _ (by simp [hs]) rfl
        | true =>
          simp -implicitDefEqProofs only [go_sem, ↓reduceIte]
          refine hK _ ?_; clear hK
          refine bwp_cond false (by simp [ev, fget]) (fun h => nomatch h) (fun _ => ?_)
          refine bwp_skip ?_
          refine hK1 _ ?_; clear hK1
          refine bwp_seq fun K2 hK2 => ?_
          refine bwp_seq fun K hK => bwp_region rfl ?_
          simp -implicitDefEqProofs only [go_sem, ↓reduceIte]
          refine hK _ ?_; clear hK
          refine bwp_block ?_
          refine bwp_leads (S' := rsS [.str t.name, I, T, .int .i64 t.kind, A] [.str u.name, I', T', .int .i64 u.kind, A'] [(5, .d (.int .i64 (0 : Nat)))]) (Leads.ent [(0, 0), (1, 1)] ⟨by simp [entT, fget, AV.ren, renL, pget, rsS, h1], by simp [entM, pinv, mget, mset, renL, AV.ren, pget, renL_append, -List.map_map, rsS, h1], rfl, rfl⟩) ?_
          refine rs_inits hI hI' h2 ?_ ?_
          · intro he S hS
            simp -implicitDefEqProofs only [go_sem, ↓reduceIte]
            exact aend_ret (.d (.bool false)) (by simp [resA, resVs, resV, hS]) rfl ⟨by simp [hs, he], rfl⟩
          · intro he1
            simp -implicitDefEqProofs only [go_sem, ↓reduceIte]
            refine hK2 _ ?_; clear hK2
            unfold rsS
            simp only [List.nil_append, List.map_cons, List.map_nil]
            refine bwp_seq fun K2 hK2 => ?_
            refine bwp_seq fun K hK => bwp_region rfl ?_
            simp -implicitDefEqProofs only [go_sem, ↓reduceIte]
            refine hK _ ?_; clear hK
            refine bwp_block ?_
            refine bwp_leads (S' := rsS [.str t.name, I, T, .int .i64 t.kind, A] [.str u.name, I', T', .int .i64 u.kind, A'] [(6, .d (.int .i64 (0 : Nat)))]) (Leads.ent [(0, 0), (1, 1)] ⟨by simp [entT, fget, AV.ren, renL, pget, rsS], by simp [entM, pinv, mget, mset, renL, AV.ren, pget, renL_append, -List.map_map, rsS], rfl, rfl⟩) ?_
            refine rs_outIns hTh hTh' h3 ?_ ?_
            · intro he S hS
              simp -implicitDefEqProofs only [go_sem, ↓reduceIte]
              exact aend_ret (.d (.bool false)) (by simp [resA, resVs, resV, hS]) rfl ⟨by simp [hs, he], rfl⟩
            · intro he2
              simp -implicitDefEqProofs only [go_sem, ↓reduceIte]
              refine hK2 _ ?_; clear hK2
              unfold rsS
              refine bwp_seq fun K hK => bwp_region rfl ?_
              simp -implicitDefEqProofs only [go_sem, ↓reduceIte]
              refine hK _ ?_; clear hK
              refine bwp_ret ?_
              simp only [go_sem]
              refine aend_ret _ rfl rfl ⟨?_, rfl⟩
              simp [fget, hs, he1, he2, h1]
      · have h3' : ¬ (t.threads.length : Int) = u.threads.length := by omega
        refine bwp_seq fun K hK => bwp_region rfl ?_
        simp -implicitDefEqProofs only [go_sem, ↓reduceIte, h1, hI.len, hI'.len, h2', hTh.len, hTh'.len, h3']
        refine hK _ ?_; clear hK
        refine bwp_cond true (by simp [ev, fget, h3', h1, h2']) (fun _ => ?_) (fun h => nomatch h)
        exact no _ (by simp [hs, eqL_len (eqL eqIns) _ _ h3]) rfl
    · have h2' : ¬ (t.inits.length : Int) = u.inits.length := by omega
      refine bwp_seq fun K hK => bwp_region rfl ?_
      simp -implicitDefEqProofs only [go_sem, ↓reduceIte, h1, hI.len, hI'.len, h2']
      refine hK _ ?_; clear hK
      refine bwp_cond true (by simp [ev, fget, h2', h1]) (fun _ => ?_) (fun h => nomatch h)
      exact no _ (by simp [hs, eqL_len eqInit _ _ h2]) rfl
  · refine bwp_seq fun K hK => bwp_region rfl ?_
    simp -implicitDefEqProofs only [go_sem, ↓reduceIte, h1]
    refine hK _ ?_; clear hK
    refine bwp_cond true (by simp [ev, fget, h1]) (fun _ => ?_) (fun h => nomatch h)
    exact no _ (by simp [hs, h1]) rfl
end Go.Proofs.YtpfbljkfbjjlkaaGreatDoor

/- What Parse and Tree come to, as tests; Same of them; what the document fixes. -/
namespace Go.Proofs.YtpfbljkfbjjlkaaGreatDoor
open Go Go.Jq
set_option maxRecDepth 100000
set_option linter.unusedSimpArgs false
def PT.Post {α : Type} (t : PT α) (P : α → Prop) : Prop := ∀ (s : List UInt8) (a : Nat) (x : α) (b : Nat), t.run s a = .ok (x, b) → P x
theorem post_bind {α β : Type} {t : PT α} {f : α → PT β} {P : α → Prop} {Q : β → Prop} (h : t.Post P) (h' : ∀ x, P x → (f x).Post Q) : (t.bind f).Post Q := by
  intro s a y b hr
  rw [PT.run_bind] at hr
  cases ht : t.run s a with
  | error e => rw [ht] at hr; cases hr
  | ok p =>
    obtain ⟨x, c⟩ := p
    rw [ht] at hr
    exact h' x (h s a x c ht) s c y b hr
theorem post_true {α : Type} (t : PT α) : t.Post fun _ => True := fun _ _ _ _ _ => trivial
theorem post_ret {α : Type} {x : α} {P : α → Prop} (h : P x) : (PT.ret x).Post P := by
  intro s a y b hr
  simp only [PT.run, Except.ok.injEq, Prod.mk.injEq] at hr
  rw [← hr.1]; exact h
theorem post_bad {α : Type} {c : Int} {P : α → Prop} : (PT.bad c : PT α).Post P := by
  intro s a y b hr
  cases hr
theorem post_eat {α : Type} {k : PT α} {P : α → Prop} (h : k.Post P) : (PT.eat k).Post P := by
  intro s a y b hr
  simp only [PT.run] at hr
  split at hr
  · exact h _ _ _ _ hr
  · cases hr
theorem post_cur {α : Type} {k : Int → List UInt8 → PT α} {P : α → Prop} (h : ∀ d x, (k d x).Post P) : (PT.cur k).Post P := fun s a y b hr => h _ _ s a y b hr
theorem post_take {α : Type} {x : List UInt8} {yes no : PT α} {P : α → Prop} (h : yes.Post P) (h' : no.Post P) : (tTake x yes no).Post P := by
  refine post_cur fun d y => ?_
  split
  · exact post_eat h
  · exact h'
theorem post_many {α : Type} {one : PT α} {P : α → Prop} (h : one.Post P) : ∀ f, (tMany one f).Post fun l => l.length < f ∧ ∀ x ∈ l, P x
  | 0 => post_bad
  | f + 1 => post_take (post_ret ⟨by simp, by simp⟩) (post_bind h fun x hx => post_bind (post_many h f) fun l hl => post_ret ⟨by simp; exact hl.1, fun y hy => by
      rcases List.mem_cons.1 hy with rfl | hy
      · exact hx
      · exact hl.2 y hy⟩)
theorem post_threads {P : Ins → Prop} (h : tInsE.Post P) : ∀ f, (tThreads f).Post fun l => l.length < f ∧ ∀ t ∈ l, t.length < fuelP ∧ ∀ x ∈ t, P x
  | 0 => post_bad
  | f + 1 => post_take (post_bind (post_bind (post_true _) fun _ _ => post_many h fuelP) fun x hx => post_bind (post_threads h f) fun l hl => post_ret ⟨by simp; exact hl.1, fun y hy => by
      rcases List.mem_cons.1 hy with rfl | hy
      · exact hx
      · exact hl.2 y hy⟩) (post_ret ⟨by simp, by simp⟩)
theorem post_row {P : Atom → Prop} (h : tAtom.Post P) : ∀ f, (tRow f).Post fun l => l.length < f ∧ ∀ x ∈ l, P x
  | 0 => post_bad
  | f + 1 => post_take (post_bind h fun x hx => post_bind (post_row h f) fun l hl => post_ret ⟨by simp; exact hl.1, fun y hy => by
      rcases List.mem_cons.1 hy with rfl | hy
      · exact hx
      · exact hl.2 y hy⟩) (post_ret ⟨by simp, by simp⟩)
theorem post_rows {P : Atom → Prop} (h : tAtom.Post P) : ∀ f, (tRows f).Post fun l => (l.length ≤ f ∧ l ≠ []) ∧ ∀ t ∈ l, (t.length ≤ fuelP ∧ t ≠ []) ∧ ∀ x ∈ t, P x
  | 0 => post_bad
  | f + 1 => post_bind h fun x hx => post_bind (post_row h fuelP) fun l hl => by
      have hxl : ((x :: l).length ≤ fuelP ∧ (x :: l) ≠ []) ∧ ∀ y ∈ x :: l, P y := ⟨⟨by simp only [List.length_cons]; omega, by simp⟩, fun y hy => by
        rcases List.mem_cons.1 hy with rfl | hy
        · exact hx
        · exact hl.2 y hy⟩
      exact post_take (post_bind (post_rows h f) fun r hr => post_ret ⟨⟨by simp only [List.length_cons]; omega, by simp⟩, fun y hy => by
        rcases List.mem_cons.1 hy with rfl | hy
        · exact hxl
        · exact hr.2 y hy⟩) (post_ret ⟨⟨by simp, by simp⟩, fun y hy => by
          simp only [List.mem_cons, List.not_mem_nil, or_false] at hy
          subst hy
          exact hxl⟩)
structure Lens (t : Test) : Prop where
  inits : t.inits.length < fuelP
  threads : t.threads.length < fuelP
  ins : ∀ l ∈ t.threads, l.length < fuelP
  rows : t.rows.length ≤ fuelP
  atoms : ∀ l ∈ t.rows, l.length ≤ fuelP
theorem lens_run : tTest.Post Lens := by
  refine post_bind (post_true _) fun _ _ => post_bind (post_true _) fun n _ => post_bind (post_true _) fun _ _ => ?_
  refine post_bind (P := fun l => l.length < fuelP) (post_take (post_bind (post_true _) fun _ _ => fun s a x b h => (post_many (post_true tInit) fuelP s a x b h).1) (post_ret (by decide))) fun i hi => ?_
  refine post_bind (post_threads (post_true _) fuelP) fun th hth => ?_
  refine post_bind (P := fun c => c.2.length ≤ fuelP ∧ ∀ l ∈ c.2, l.length ≤ fuelP) ?_ fun c hc => post_bind (post_true _) fun _ _ => post_cur fun d y => ?_
  · have ask : ∀ k, (tAsk k).Post fun c => c.2.length ≤ fuelP ∧ ∀ l ∈ c.2, l.length ≤ fuelP := fun k => post_bind (post_rows (post_true _) fuelP) fun r hr => post_bind (post_true _) fun _ _ => post_ret ⟨hr.1.1, fun l hl => (hr.2 l hl).1.1⟩
    exact post_take (ask 1) (post_take (ask 2) (post_ret ⟨by simp, by simp⟩))
  · split
    · exact post_ret ⟨hi, hth.1, fun l hl => (hth.2 l hl).1, hc.1, hc.2⟩
    · exact post_bad
theorem pTest_post {P : Test → Prop} (h : tTest.Post P) {s : List UInt8} {t : Test} (ht : pTest s = .ok t) : P t := by
  unfold pTest at ht
  split at ht
  · cases ht
  · split at ht
    · rename_i a _
      split at ht
      · rename_i t' b hb
        cases ht
        exact h s a t b hb
      · cases ht
    · cases ht
def pT (r : PR Test) : Test := match r with
  | .ok t => t
  | .error _ => ⟨[], [], [], 0, []⟩
def pCells (r : PR Test) : List DV := match r with
  | .ok t => testD t
  | .error _ => testD0
def pCode (r : PR Test) : Int := match r with
  | .ok _ => 0
  | .error e => e.1
def pAt (r : PR Test) : Nat := match r with
  | .ok _ => 0
  | .error e => e.2
theorem parseV_eq (r : PR Test) : parseV r = .tup [.agg ((pCells r).map .d), .agg [.d (.int .i64 (pCode r)), .d (.int .i64 (pAt r))]] := by
  cases r <;> rfl
theorem isSl_d {α : Type} (enc : α → List DV) {l : List α} (h : l.length ≤ fuelP) : IsSl enc l (slD enc l) := ⟨by unfold fuelP at h; omega, .inr rfl⟩
theorem isSls_d {α : Type} (enc : α → List DV) : ∀ {ls : List (List α)}, (∀ l ∈ ls, l.length ≤ fuelP) → IsSls enc ls (ls.map (slD enc))
  | [], _ => trivial
  | l :: ls, h => ⟨isSl_d enc (h l List.mem_cons_self), isSls_d enc fun l' h' => h l' (List.mem_cons_of_mem _ h')⟩
theorem isSl2_d {α : Type} (enc : α → List DV) {ls : List (List α)} (h : ls.length ≤ fuelP) (h' : ∀ l ∈ ls, l.length ≤ fuelP) : IsSl2 enc ls (.sl ls.length (ls.map (slD enc))) := by
  refine ⟨ls.map (slD enc), ⟨by simp; unfold fuelP at h; omega, .inr ?_⟩, isSls_d enc h'⟩
  have e : ∀ l : List DV, l.flatMap (fun d => [d]) = l := by
    intro l
    induction l with
    | nil => rfl
    | cons x l ih => simp [ih]
  rw [e, List.length_map]
theorem Lens.isTest {t : Test} (h : Lens t) : IsTest t (testD t) :=
  ⟨_, _, _, rfl, isSl_d _ (Nat.le_of_lt h.inits), isSl2_d _ (Nat.le_of_lt h.threads) fun l hl => Nat.le_of_lt (h.ins l hl), isSl2_d _ h.rows h.atoms⟩
theorem isTest_p (s : List UInt8) : IsTest (pT (pTest s)) (pCells (pTest s)) := by
  cases h : pTest s with
  | ok t => exact (pTest_post lens_run h).isTest
  | error e =>
    have hN : ∀ {α : Type} (f : α → List DV), IsSl f [] .nsl := fun f => ⟨by simp, .inl ⟨rfl, rfl⟩⟩
    exact ⟨.nsl, .nsl, .nsl, rfl, hN _, ⟨[], hN _, trivial⟩, ⟨[], hN _, trivial⟩⟩
theorem parse2_pure {s : List UInt8} (hs : s.length ≤ maxLen) : Pure Tryz.prog 9 [.d (.str s)] (.tup [.agg ((pCells (pTest s)).map .d), .agg [.d (.int .i64 (pCode (pTest s))), .d (.int .i64 (pAt (pTest s)))]]) := by
  rw [← parseV_eq]; exact parse1_pure hs
end Go.Proofs.YtpfbljkfbjjlkaaGreatDoor

/- What stands behind an error's token says nothing. -/
namespace Go.Proofs.YtpfbljkfbjjlkaaGreatDoor
open Go Go.Jq
set_option maxRecDepth 100000
set_option linter.unusedSimpArgs false
theorem blank_nots {x : UInt8} (hx : blankB x = true) : alnB x = false ∧ digB x = false ∧ (x ≠ 60 ∧ x ≠ 62 ∧ x ≠ 61) := by
  simp only [blankB, Bool.or_eq_true, beq_iff_eq] at hx
  rcases hx with (rfl | rfl) | rfl <;> exact ⟨rfl, rfl, by decide⟩
theorem runL_cut {x : UInt8} (hx : blankB x = true) : ∀ (r : List UInt8) (k : Nat) (z : List UInt8), runL r ≤ k → k ≤ r.length → runL (r.take k ++ x :: z) = runL r ∧ (r.take k ++ x :: z).take (runL r) = r.take (runL r)
  | [], k, z, _, h => by simp at h; subst h; simp [runL, (blank_nots hx).1]
  | c :: r, 0, z, h, _ => by
    have h0 : runL (c :: r) = 0 := by omega
    rw [h0]
    simp [runL, (blank_nots hx).1]
  | c :: r, k + 1, z, h, h' => by
    simp only [List.length_cons] at h'
    simp only [List.take_succ_cons, List.cons_append, runL] at h ⊢
    split
    · rename_i hc
      rw [if_pos hc] at h
      obtain ⟨h1, h2⟩ := runL_cut hx r k z (by omega) (by omega)
      rw [h1]
      refine ⟨rfl, ?_⟩
      rw [show 1 + runL r = runL r + 1 by omega, List.take_succ_cons, List.take_succ_cons, h2]
    · exact ⟨rfl, by simp⟩
theorem head_cut (x : UInt8) (r : List UInt8) (k : Nat) (z : List UInt8) (h : k ≤ r.length) : (r.take k ++ x :: z).head? = if k = 0 then some x else r.head? := by
  cases k with
  | zero => simp
  | succ k =>
    cases r with
    | nil => simp at h
    | cons c r => simp
theorem runL_head {r : List UInt8} (h : runL r = 0) : (r.head?.map digB).getD false = false := by
  cases r with
  | nil => rfl
  | cons c r =>
    simp only [List.head?_cons, Option.map_some, Option.getD_some]
    cases hd : digB c with
    | false => rfl
    | true =>
      have : runL (c :: r) = 1 + runL r := by rw [runL, if_pos (by simp [alnB, hd])]
      omega
theorem tokAt_cut {x : UInt8} (hx : blankB x = true) (a : Nat) {l : List UInt8} {m : Nat} (h1 : 1 ≤ m) (hm : m ≤ l.length) (h : m = l.length ∨ ((tokAt a l).2.2 = 0 ∧ (tokAt a l).2.1 ≤ a + m)) (z : List UInt8) : tokAt a (l.take m ++ x :: z) = tokAt a l := by
  cases l with
  | nil => simp at hm; omega
  | cons c r =>
    obtain ⟨k, rfl⟩ : ∃ k, m = k + 1 := ⟨m - 1, by omega⟩
    simp only [List.length_cons] at hm h
    have hk : k ≤ r.length := by omega
    have hlen : ∀ r : List UInt8, runL r ≤ r.length := by
      intro r
      induction r with
      | nil => simp [runL]
      | cons c r ih => rw [runL]; simp only [List.length_cons]; split <;> omega
    simp only [List.take_succ_cons, List.cons_append]
    have hh := head_cut x r k z hk
    rw [tokAt] at h ⊢
    rw [tokAt]
    by_cases hc : letB c = true
    · rw [if_pos hc] at h ⊢
      rw [if_pos hc]
      have hr : runL r ≤ k := by
        rcases h with h | h
        · have := hlen r; omega
        · simp only at h; omega
      obtain ⟨e1, e2⟩ := runL_cut hx r k z hr hk
      rw [e1, e2]
    · rw [if_neg hc] at h ⊢
      rw [if_neg hc]
      have hdd : (digB c = true ∨ (c = 45 ∧ ((r.take k ++ x :: z).head?.map digB).getD false = true)) ↔ (digB c = true ∨ (c = 45 ∧ (r.head?.map digB).getD false = true)) := by
        rw [hh]
        by_cases k0 : k = 0
        · rw [if_pos k0]
          have e : (Option.map digB (some x)).getD false = false := (blank_nots hx).2.1
          rw [e]
          constructor
          · rintro (h' | ⟨_, h'⟩)
            · exact .inl h'
            · cases h'
          · rintro (h' | ⟨hc45, h'⟩)
            · exact .inl h'
            · exfalso
              have hr0 : runL r = 0 ∨ r = [] := by
                rcases h with h | h
                · right
                  cases r with
                  | nil => rfl
                  | cons _ _ => simp at h; omega
                · left
                  rw [if_pos (.inr ⟨hc45, h'⟩)] at h
                  split at h
                  · simp only at h; omega
                  · simp at h
              rcases hr0 with h0 | h0
              · rw [runL_head h0] at h'; cases h'
              · subst h0; simp at h'
        · rw [if_neg k0]
      by_cases hd : digB c = true ∨ (c = 45 ∧ (r.head?.map digB).getD false = true)
      · rw [if_pos hd] at h ⊢
        rw [if_pos (hdd.2 hd)]
        have hr : runL r ≤ k := by
          rcases h with h | h
          · have := hlen r; omega
          · split at h
            · simp only at h; omega
            · simp at h
        obtain ⟨e1, e2⟩ := runL_cut hx r k z hr hk
        rw [e1, e2]
      · rw [if_neg hd] at h ⊢
        rw [if_neg (fun h' => hd (hdd.1 h'))]
        have hs : signL (c :: (r.take k ++ x :: z)) = signL (c :: r) ∧ signL (c :: r) ≤ k + 1 := by
          by_cases k0 : k = 0
          · subst k0
            have hne2 : signL (c :: r) ≠ 2 := by
              intro h2
              rcases h with h | h
              · cases r with
                | nil =>
                  rw [signL] at h2
                  simp at h2
                  split at h2 <;> omega
                | cons _ _ => simp at h
              · rw [if_neg (by rw [h2]; decide), h2] at h
                simp only at h
                omega
            rw [signL] at hne2
            rw [signL, signL, hh, if_pos rfl]
            split at hne2
            · exact absurd rfl hne2
            · rename_i hn
              rw [if_neg hn, if_neg (by have := (blank_nots hx).2.2; simp [this])]
              refine ⟨rfl, ?_⟩
              split <;> omega
          · rw [signL, signL, hh, if_neg k0]
            refine ⟨rfl, ?_⟩
            split
            · omega
            · split <;> omega
        rw [hs.1]
        split
        · rfl
        · have ht : (c :: (r.take k ++ x :: z)).take (signL (c :: r)) = (c :: r).take (signL (c :: r)) := by
            rw [show c :: (r.take k ++ x :: z) = (c :: r).take (k + 1) ++ x :: z by simp, List.take_append_of_le_length (by simp only [List.length_take, List.length_cons]; omega), List.take_take, Nat.min_eq_left hs.2]
          rw [ht]
end Go.Proofs.YtpfbljkfbjjlkaaGreatDoor

/- A test's text as rows of words. -/
namespace Go.Proofs.YtpfbljkfbjjlkaaGreatDoor
open Go Go.Jq
def cleanC (b : UInt8) : Bool := b != 10 && b != 32 && b != 59 && b != 123 && b != 125
def Clean (w : List UInt8) : Prop := w ≠ [] ∧ w.all cleanC = true
theorem cleanC_of {b : UInt8} (h : b.toNat ≠ 10 ∧ b.toNat ≠ 32 ∧ b.toNat ≠ 59 ∧ b.toNat ≠ 123 ∧ b.toNat ≠ 125) : cleanC b = true := by
  have key : ∀ k : UInt8, b.toNat ≠ k.toNat → (b != k) = true := fun k hk => by
    rw [bne_iff_ne]
    rintro rfl
    exact hk rfl
  unfold cleanC
  rw [key 10 h.1, key 32 h.2.1, key 59 h.2.2.1, key 123 h.2.2.2.1, key 125 h.2.2.2.2]
  rfl
theorem digit_mem (u : Nat) : ∀ b : UInt8, b ∈ Lib.decDigits u → 48 ≤ b.toNat ∧ b.toNat ≤ 57 := by
  induction u using Nat.strongRecOn with
  | _ u ih =>
    intro b hb
    rw [Lib.decDigits] at hb
    split at hb
    · rename_i hu
      simp only [List.mem_cons, List.not_mem_nil, or_false] at hb
      subst hb
      have : (UInt8.ofNat (48 + u)).toNat = 48 + u := by rw [UInt8.toNat_ofNat']; omega
      omega
    · rename_i hu
      rcases List.mem_append.1 hb with hb | hb
      · exact ih _ (by omega) b hb
      · simp only [List.mem_cons, List.not_mem_nil, or_false] at hb
        subst hb
        have : (UInt8.ofNat (48 + u % 10)).toNat = 48 + u % 10 := by rw [UInt8.toNat_ofNat']; omega
        omega
theorem itoa_mem (n : Int) (b : UInt8) (h : b ∈ Lib.itoa n) : b.toNat = 45 ∨ (48 ≤ b.toNat ∧ b.toNat ≤ 57) := by
  unfold Lib.itoa at h
  split at h
  · rcases List.mem_cons.1 h with h | h
    · subst h; exact .inl rfl
    · exact .inr (digit_mem _ b h)
  · exact .inr (digit_mem _ b h)
theorem itoa_ne (n : Int) : Lib.itoa n ≠ [] := fun h => by
  have := itoa_pos n
  rw [h] at this
  simp at this
theorem itoa_clean (n : Int) : Clean (Lib.itoa n) := ⟨itoa_ne n, List.all_eq_true.2 fun b hb => cleanC_of (by have := itoa_mem n b hb; omega)⟩
theorem regT_clean (n : Int) : Clean (regT n) := ⟨by simp [regT], by
  unfold regT
  rw [List.all_append, (itoa_clean n).2]
  rfl⟩
theorem opT_clean (o : Opnd) : Clean (opT o) := by
  unfold opT
  split
  · exact itoa_clean _
  · exact regT_clean _
theorem locT_ok {n : Int} (h : isLocB n = true) : locT n = [UInt8.ofNat n.toNat] := by
  simp only [isLocB, Bool.and_eq_true, decide_eq_true_eq] at h
  unfold locT
  have hw : IntKind.i32.wrap n = n := by
    unfold IntKind.wrap
    have hm : n % 2 ^ 32 = n := by omega
    simp only [IntKind.signed, IntKind.bits, Bool.true_and, hm]
    split
    · rename_i hc
      have := of_decide_eq_true hc
      omega
    · rfl
  rw [hw]
  unfold Utf8.encode
  have hv : Utf8.valid n = true := by
    unfold Utf8.valid
    simp only [Bool.and_eq_true, Bool.or_eq_true, decide_eq_true_eq]
    omega
  simp only [hv, if_true]
  rw [if_pos (by omega)]
theorem locT_clean {n : Int} (h : isLocB n = true) : Clean (locT n) := by
  rw [locT_ok h]
  simp only [isLocB, Bool.and_eq_true, decide_eq_true_eq] at h
  refine ⟨by simp, ?_⟩
  simp only [List.all_cons, List.all_nil, Bool.and_true]
  refine cleanC_of ?_
  have : (UInt8.ofNat n.toNat).toNat = n.toNat := by rw [UInt8.toNat_ofNat']; omega
  omega
theorem signT_clean {op : Int} (h1 : 1 ≤ op) (h2 : op ≤ 11) : Clean (signT op) := by
  obtain ⟨q, rfl⟩ : ∃ q : Nat, op = q := ⟨op.toNat, by omega⟩
  have : q < 12 := by omega
  have key : ∀ q : Fin 12, 1 ≤ q.1 → (signT (q.1 : Nat) ≠ [] ∧ (signT (q.1 : Nat)).all cleanC = true) := by decide
  exact key ⟨q, this⟩ (by show 1 ≤ q; omega)
theorem parts_clean {x : Ins} (h : okInsB x = true) : ∀ w ∈ partsI x, Clean w := by
  have w1 : Clean [115, 116, 111, 114, 101] := ⟨by simp, by decide⟩
  have w2 : Clean [108, 111, 97, 100] := ⟨by simp, by decide⟩
  have w3 : Clean [102, 101, 110, 99, 101] := ⟨by simp, by decide⟩
  have w4 : Clean [99, 97, 115] := ⟨by simp, by decide⟩
  have w5 : Clean [115, 107, 105, 112] := ⟨by simp, by decide⟩
  have w6 : Clean [105, 102] := ⟨by simp, by decide⟩
  have w7 : Clean [61, 61] := ⟨by simp, by decide⟩
  have w8 : Clean [61] := ⟨by simp, by decide⟩
  unfold okInsB at h
  unfold partsI
  by_cases k1 : x.kind = 1
  · rw [if_pos k1] at h ⊢
    simp only [Bool.and_eq_true] at h
    simp only [List.forall_mem_cons]
    exact ⟨w1, locT_clean h.1.1, opT_clean _, by simp⟩
  rw [if_neg k1] at h ⊢
  by_cases k2 : x.kind = 2
  · rw [if_pos k2] at h ⊢
    simp only [Bool.and_eq_true] at h
    simp only [List.forall_mem_cons]
    exact ⟨regT_clean _, w8, w2, locT_clean h.1.1, by simp⟩
  rw [if_neg k2] at h ⊢
  by_cases k3 : x.kind = 3
  · rw [if_pos k3]
    simp only [List.forall_mem_cons]
    exact ⟨w3, by simp⟩
  rw [if_neg k3] at h ⊢
  by_cases k4 : x.kind = 4
  · rw [if_pos k4] at h ⊢
    simp only [Bool.and_eq_true] at h
    simp only [List.forall_mem_cons]
    exact ⟨regT_clean _, w8, w4, locT_clean h.1.1.1.1, opT_clean _, opT_clean _, by simp⟩
  rw [if_neg k4] at h ⊢
  by_cases k5 : x.kind = 5
  · rw [if_pos k5] at h ⊢
    simp only [Bool.and_eq_true, decide_eq_true_eq] at h
    intro w hw
    rcases List.mem_append.1 hw with hw | hw
    · have hall : ∀ w ∈ [regT x.reg, [61], opT x.a], Clean w := by
        simp only [List.forall_mem_cons]
        exact ⟨regT_clean _, w8, opT_clean _, by simp⟩
      exact hall w hw
    · split at hw
      · rename_i ho
        have hall : ∀ w ∈ [signT x.op, opT x.b], Clean w := by
          simp only [List.forall_mem_cons]
          exact ⟨signT_clean (by omega) h.1.1.2, opT_clean _, by simp⟩
        exact hall w hw
      · simp at hw
  rw [if_neg k5]
  simp only [List.forall_mem_cons]
  exact ⟨w5, itoa_clean _, w6, opT_clean _, w7, opT_clean _, by simp⟩
def insW (x : Ins) : List (List UInt8) := partsI x ++ [[59]]
def atomW (a : Atom) : List (List UInt8) := (if a.thread = -1 then [locT a.loc] else [Lib.itoa a.thread, [58], regT a.reg]) ++ [[61], Lib.itoa a.value]
def sepW (s : List UInt8) : List (List (List UInt8)) → List (List UInt8)
  | [] => []
  | [w] => w
  | w :: r => w ++ [s] ++ sepW s r
def rowW (l : List Atom) : List (List UInt8) := sepW [38] (l.map atomW)
def askW (kind : Int) : List UInt8 := if kind = 2 then [102, 111, 114, 97, 108, 108] else [101, 120, 105, 115, 116, 115]
def condW (kind : Int) (rows : List (List Atom)) : List (List UInt8) := [askW kind] ++ sepW [124] (rows.map rowW) ++ [[59]]
def initW (x : Init) : List (List UInt8) := [locT x.loc, [61], Lib.itoa x.value, [59]]
def threadW (l : List Ins) : List (List (List UInt8)) := [[116, 104, 114, 101, 97, 100], [123]] :: (l.map insW ++ [[[125]]])
def testW (t : Test) : List (List (List UInt8)) :=
  [[116, 101, 115, 116], t.name, [123]] :: ((if t.inits = [] then [] else [[105, 110, 105, 116], [123]] :: (t.inits.map initW ++ [[[125]]])) ++ t.threads.flatMap threadW ++ (if t.kind = 0 then [] else [condW t.kind t.rows]) ++ [[[125]]])
def lineW (r : List (List UInt8)) : List UInt8 := Lib.join r [32] ++ [10]
theorem join_two (x y : List UInt8) (r : List (List UInt8)) (s : List UInt8) : Lib.join (x :: y :: r) s = x ++ s ++ Lib.join (y :: r) s := by
  simp [Lib.join, List.intercalate]
theorem join_app (s : List UInt8) : ∀ (a b : List (List UInt8)), a ≠ [] → b ≠ [] → Lib.join (a ++ b) s = Lib.join a s ++ s ++ Lib.join b s
  | [], _, h, _ => absurd rfl h
  | [x], b, _, hb => by
    obtain ⟨y, r, rfl⟩ := List.exists_cons_of_ne_nil hb
    rw [List.singleton_append, join_two, Lib.join_one]
  | x :: y :: r, b, _, hb => by
    have ih := join_app s (y :: r) b (by simp) hb
    rw [List.cons_append, List.cons_append, join_two, join_two, ← List.cons_append, ih]
    simp
theorem sepW_ne {s : List UInt8} : ∀ {l : List (List (List UInt8))}, l ≠ [] → (∀ w ∈ l, w ≠ []) → sepW s l ≠ []
  | [], h, _ => absurd rfl h
  | [w], _, h => by simpa [sepW] using h w (by simp)
  | w :: w' :: r, _, h => by simp [sepW]
theorem join_sep (s : List UInt8) : ∀ (l : List (List (List UInt8))), (∀ w ∈ l, w ≠ []) → Lib.join (sepW s l) [32] = Lib.join (l.map fun w => Lib.join w [32]) ([32] ++ s ++ [32])
  | [], _ => rfl
  | [w], _ => by simp [sepW, Lib.join_one]
  | w :: w' :: r, h => by
    have ih := join_sep s (w' :: r) (fun x hx => h x (List.mem_cons_of_mem _ hx))
    have hne := sepW_ne (s := s) (l := w' :: r) (by simp) (fun x hx => h x (List.mem_cons_of_mem _ hx))
    simp only [sepW, List.map_cons]
    rw [join_app _ _ _ (by simp) hne, join_app _ _ _ (h w (by simp)) (by simp), Lib.join_one, ih, List.map_cons, join_two]
    simp
theorem atomT_join (a : Atom) : atomT a = Lib.join (atomW a) [32] := by
  unfold atomT atomW
  split <;> simp [Lib.join, List.intercalate]
theorem atomW_ne (a : Atom) : atomW a ≠ [] := by simp [atomW]
theorem rowT_join (l : List Atom) : rowT l = Lib.join (rowW l) [32] := by
  unfold rowT rowW
  rw [join_sep _ _ (fun w hw => by obtain ⟨a, _, rfl⟩ := List.mem_map.1 hw; exact atomW_ne a), List.map_map]
  congr 1
  exact List.map_congr_left fun a _ => atomT_join a
theorem rowW_ne {l : List Atom} (h : l ≠ []) : rowW l ≠ [] := sepW_ne (by simpa using h) (fun w hw => by obtain ⟨a, _, rfl⟩ := List.mem_map.1 hw; exact atomW_ne a)
theorem wordT_eq (kind : Int) : wordT kind = askW kind ++ [32] := by unfold wordT askW; split <;> rfl
theorem rows_ok {kind : Int} {rows : List (List Atom)} (hk : kind ≠ 0) (h : okCondB kind rows = true) : (kind = 1 ∨ kind = 2) ∧ rows ≠ [] ∧ ∀ l ∈ rows, l ≠ [] ∧ ∀ a ∈ l, okAtomB a = true := by
  unfold okCondB at h
  rw [if_neg hk] at h
  simp only [Bool.and_eq_true, Bool.or_eq_true, decide_eq_true_eq, Bool.not_eq_true', List.any_eq_false] at h
  refine ⟨h.1.1, fun e => by rw [e] at h; simp at h, fun l hl => ?_⟩
  have := h.2 l hl
  simp only [badRowB, Bool.or_eq_true, decide_eq_true_eq, List.any_eq_true, Bool.not_eq_true', not_or, not_exists, not_and, Bool.not_eq_false] at this
  exact ⟨fun e => this.1 (by rw [e]; rfl), this.2⟩
theorem condT_join {kind : Int} {rows : List (List Atom)} (hk : kind ≠ 0) (h : okCondB kind rows = true) : condT kind rows = Lib.join (condW kind rows) [32] := by
  obtain ⟨_, h1, h2⟩ := rows_ok hk h
  unfold condT
  rw [if_neg (by simp [hk, h])]
  unfold condW
  have hne : ∀ w ∈ rows.map rowW, w ≠ [] := fun w hw => by obtain ⟨l, hl, rfl⟩ := List.mem_map.1 hw; exact rowW_ne (h2 l hl).1
  have hs := sepW_ne (s := [124]) (l := rows.map rowW) (by simpa using h1) hne
  rw [join_app _ _ _ (by simp) (by simp), join_app _ _ _ (by simp) hs, Lib.join_one, Lib.join_one, join_sep _ _ hne, List.map_map, wordT_eq]
  have : rows.map rowT = rows.map ((fun w => Lib.join w [32]) ∘ rowW) := List.map_congr_left fun l _ => rowT_join l
  rw [this]
  simp
theorem condT_ne {kind : Int} {rows : List (List Atom)} (hk : kind ≠ 0) (h : okCondB kind rows = true) : condT kind rows ≠ [] := by
  unfold condT
  rw [if_neg (by simp [hk, h])]
  simp
theorem initL_line (x : Init) : initL x = lineW (initW x) := by simp [initL, lineW, initW, Lib.join, List.intercalate]
theorem insL_line {x : Ins} (h : okInsB x = true) : insL x = lineW (insW x) := by simp [insL, lineW, insW, insT, h]
theorem flat_congr {α β : Type} {f g : α → List β} : ∀ {l : List α}, (∀ x ∈ l, f x = g x) → l.flatMap f = l.flatMap g
  | [], _ => rfl
  | x :: l, h => by rw [List.flatMap_cons, List.flatMap_cons, h x (by simp), flat_congr fun y hy => h y (List.mem_cons_of_mem _ hy)]
theorem testT_rows {t : Test} (h : okB t = true) : testT t = (testW t).flatMap lineW := by
  have h0 := h
  simp only [okB, Bool.and_eq_true, Bool.not_eq_true', List.any_eq_false] at h
  have hth : ∀ l ∈ t.threads, ∀ x ∈ l, okInsB x = true := fun l hl x hx => by
    have := h.1.2 l hl
    simp only [badThreadB, List.any_eq_true, not_exists, not_and, Bool.not_eq_true', Bool.not_eq_false] at this
    exact this x hx
  have e1 : headL t = lineW [[116, 101, 115, 116], t.name, [123]] := by simp [headL, lineW, Lib.join, List.intercalate]
  have e2 : initsL t.inits = ((if t.inits = [] then [] else [[105, 110, 105, 116], [123]] :: (t.inits.map initW ++ [[[125]]])) : List (List (List UInt8))).flatMap lineW := by
    unfold initsL
    split
    · rfl
    · have : t.inits.flatMap initL = (t.inits.map initW).flatMap lineW := by
        rw [List.flatMap_map]
        congr 1
        funext x
        exact initL_line x
      rw [this]
      simp [lineW, Lib.join, List.intercalate]
  have e3 : t.threads.flatMap threadL = (t.threads.flatMap threadW).flatMap lineW := by
    rw [List.flatMap_assoc]
    refine flat_congr fun l hl => ?_
    have : l.flatMap insL = (l.map insW).flatMap lineW := by
      rw [List.flatMap_map]
      exact flat_congr fun x hx => insL_line (hth l hl x hx)
    simp only [threadL, threadW, this]
    simp [lineW, Lib.join, List.intercalate]
  have e4 : condL t = ((if t.kind = 0 then [] else [condW t.kind t.rows]) : List (List (List UInt8))).flatMap lineW := by
    unfold condL
    by_cases hk : t.kind = 0
    · have : condT t.kind t.rows = [] := by unfold condT; rw [if_pos (.inl hk)]
      rw [if_pos this, if_pos hk]; rfl
    · rw [if_neg (condT_ne hk h.2), if_neg hk, condT_join hk h.2]
      simp [lineW]
  unfold testT testW
  rw [if_pos h0, e1, e2, e3, e4]
  simp [lineW, Lib.join, List.intercalate]
end Go.Proofs.YtpfbljkfbjjlkaaGreatDoor

/- A tree over a row of tokens; what a printed test's tokens come to. -/
namespace Go.Proofs.YtpfbljkfbjjlkaaGreatDoor
open Go Go.Jq
set_option maxRecDepth 100000
set_option linter.unusedSimpArgs false
abbrev KT := Int × List UInt8
def ktT (t : Tok) : KT := (t.kd, t.tx)
namespace PT
variable {α β : Type}
def runK : PT α → List KT → Option (α × List KT)
  | .ret x, l => some (x, l)
  | .bad _, _ => none
  | .cur k, l => match l with
    | [] => none
    | d :: r => (k d.1 d.2).runK (d :: r)
  | .eat k, l => match l with
    | _ :: u :: r => k.runK (u :: r)
    | _ => none
theorem runK_bind (t : PT α) (f : α → PT β) : ∀ l, (t.bind f).runK l = match t.runK l with
    | some (x, r) => (f x).runK r
    | none => none := by
  induction t with
  | ret x => intro l; rfl
  | bad c => intro l; rfl
  | cur k ih =>
    intro l
    cases l with
    | nil => rfl
    | cons d r => exact ih _ _ (d :: r)
  | eat k ih =>
    intro l
    match l with
    | [] => rfl
    | [_] => rfl
    | _ :: u :: r => exact ih (u :: r)
theorem run_of_runK {s : List UInt8} (t : PT α) : ∀ {a : Nat} {l : List Tok} {x : α} {r : List KT}, a ≤ s.length → TL s a l → t.runK (l.map ktT) = some (x, r) →
    ∃ b l', t.run s a = .ok (x, b) ∧ b ≤ s.length ∧ TL s b l' ∧ l'.map ktT = r := by
  induction t with
  | ret x =>
    intro a l y r ha hl h
    simp only [runK, Option.some.injEq, Prod.mk.injEq] at h
    obtain ⟨rfl, rfl⟩ := h
    exact ⟨a, l, rfl, ha, hl, rfl⟩
  | bad c => intro a l y r ha hl h; cases h
  | cur k ih =>
    intro a l y r ha hl h
    cases l with
    | nil => cases h
    | cons d l =>
      have hd : curT s a = d := by
        obtain ⟨e, he, _⟩ := hl
        unfold curT
        rw [he]
      simp only [runK, List.map_cons] at h
      have := ih _ _ ha hl h
      simp only [run, hd]
      exact this
  | eat k ih =>
    intro a l y r ha hl h
    match l, hl, h with
    | [], _, h => cases h
    | [_], _, h => cases h
    | d :: u :: l, hl, h =>
      obtain ⟨e, he, hr⟩ := hl
      split at hr
      · cases hr
      · obtain ⟨e', he', hr'⟩ := id hr
        have hle := nextW_to ha
        rw [he] at hle
        have hg : eatW s a = .ok e := by
          unfold eatW goW
          rw [he, he']
          rfl
        simp only [run, hg]
        exact ih hle.2.1 hr (by simpa [runK] using h)
end PT
def kdOf (w : List UInt8) : Int := match w with
  | [] => 0
  | c :: r => if letB c = true then 1 else if digB c = true ∨ (c = 45 ∧ (r.head?.map digB).getD false = true) then 2 else 3
def kW (w : List UInt8) : KT := (kdOf w, w)
def endK : KT := (4, [])
theorem must_K {w : List UInt8} (h : kdOf w = 3 ∨ kdOf w = 1) (u : KT) (r : List KT) : (tMust w).runK (kW w :: u :: r) = some ((), u :: r) := by
  have : isK (kdOf w) w w = true := by rcases h with h | h <;> simp [isK, h]
  simp [tMust, PT.runK, kW, this]
theorem take_K {α : Type} {w : List UInt8} (h : kdOf w = 3 ∨ kdOf w = 1) (yes no : PT α) (u : KT) (r : List KT) : (tTake w yes no).runK (kW w :: u :: r) = yes.runK (u :: r) := by
  have : isK (kdOf w) w w = true := by rcases h with h | h <;> simp [isK, h]
  simp [tTake, PT.runK, kW, this]
theorem take_no {α : Type} {w : List UInt8} (yes no : PT α) (u : KT) (r : List KT) (h : u.2 ≠ w) : (tTake w yes no).runK (u :: r) = no.runK (u :: r) := by
  simp [tTake, PT.runK, isK, h]
theorem kd_num (n : Int) : kdOf (Lib.itoa n) = 2 := by
  obtain ⟨c, r, h, _, h3⟩ := itoa_form n
  rw [h]
  unfold kdOf
  rcases h3 with h3 | ⟨rfl, d, r', rfl, h4⟩
  · simp [not_let_dig h3, h3]
  · simp [h4, letB]
theorem num_K {n : Int} (hn : I64 n) (u : KT) (r : List KT) : tNum.runK (kW (Lib.itoa n) :: u :: r) = some (n, u :: r) := by
  simp [tNum, PT.runK, kW, kd_num, parseW_itoa hn]
theorem loc_byte {n : Int} (h : isLocB n = true) : locT n = [UInt8.ofNat n.toNat] ∧ (UInt8.ofNat n.toNat).toNat = n.toNat ∧ (n.toNat : Int) = n ∧ letB (UInt8.ofNat n.toNat) = true := by
  have h0 := locT_ok h
  simp only [isLocB, Bool.and_eq_true, decide_eq_true_eq] at h
  have h1 : (UInt8.ofNat n.toNat).toNat = n.toNat := by rw [UInt8.toNat_ofNat']; omega
  refine ⟨h0, h1, by omega, ?_⟩
  simp only [letB, h1, Bool.and_eq_true, decide_eq_true_eq]
  omega
theorem loc_K {n : Int} (h : isLocB n = true) (u : KT) (r : List KT) : (tNamed locN).runK (kW (locT n) :: u :: r) = some (n, u :: r) := by
  obtain ⟨h0, h1, h2, h3⟩ := loc_byte h
  have hk : kdOf (locT n) = 1 := by rw [h0]; simp [kdOf, h3]
  have hl : locN (locT n) = some n := by
    rw [h0]
    unfold locN
    rw [if_pos (by rfl)]
    simp only [List.getD_cons_zero, h1, h2]
  simp [tNamed, PT.runK, kW, hk, hl]
theorem reg_cases {n : Int} (h : isRegB n = true) : n = 0 ∨ n = 1 ∨ n = 2 ∨ n = 3 := by
  simp only [isRegB, Bool.and_eq_true, decide_eq_true_eq] at h
  omega
theorem reg_text {n : Int} (h : isRegB n = true) : regT n = [114, 48 + UInt8.ofNat n.toNat] ∧ regN (regT n) = some n := by
  have key : ∀ k : Nat, k < 4 → Lib.itoa (k : Int) = [48 + UInt8.ofNat k] := by
    intro k hk
    unfold Lib.itoa
    rw [if_neg (by omega)]
    have : (k : Int).natAbs = k := by omega
    rw [show (k : Int).toNat = k by omega, Lib.decDigits_one (by omega)]
    congr 1
    rw [UInt8.ofNat_add]
    rfl
  have e : regT n = [114, 48 + UInt8.ofNat n.toNat] := by
    obtain ⟨k, rfl⟩ : ∃ k : Nat, n = k := ⟨n.toNat, by rcases reg_cases h with rfl | rfl | rfl | rfl <;> rfl⟩
    have hk : k < 4 := by rcases reg_cases h with h | h | h | h <;> omega
    unfold regT
    rw [key k hk]
    rfl
  refine ⟨e, ?_⟩
  rw [e]
  rcases reg_cases h with rfl | rfl | rfl | rfl <;> decide
theorem reg_K {n : Int} (h : isRegB n = true) (u : KT) (r : List KT) : (tNamed regN).runK (kW (regT n) :: u :: r) = some (n, u :: r) := by
  obtain ⟨h0, h1⟩ := reg_text h
  have hk : kdOf (regT n) = 1 := by rw [h0]; simp [kdOf, letB]
  simp [tNamed, PT.runK, kW, hk, h1]
theorem opd_K {o : Opnd} (h : isOpB o = true) (hv : I64 o.value) (u : KT) (r : List KT) : tOpd.runK (kW (opT o) :: u :: r) = some (o, u :: r) := by
  obtain ⟨p, v⟩ := o
  by_cases hp : p = -1
  · subst hp
    have e : opT ⟨-1, v⟩ = Lib.itoa v := by simp [opT]
    have hk := kd_num v
    have h1 : tOpd.runK (kW (Lib.itoa v) :: u :: r) = (tNum.bind fun n => .ret (⟨-1, n⟩ : Opnd)).runK (kW (Lib.itoa v) :: u :: r) := by
      simp [tOpd, PT.runK, kW, hk]
    rw [e, h1, PT.runK_bind, num_K hv]
    rfl
  · have h2 : isRegB p = true ∧ v = 0 := by simpa [isOpB, hp] using h
    obtain ⟨h3, rfl⟩ := h2
    have e : opT ⟨p, 0⟩ = regT p := by simp [opT, hp]
    obtain ⟨h0, _⟩ := reg_text h3
    have hk : kdOf (regT p) = 1 := by rw [h0]; simp [kdOf, letB]
    have h1 : tOpd.runK (kW (regT p) :: u :: r) = ((tNamed regN).bind fun n => .ret (⟨n, 0⟩ : Opnd)).runK (kW (regT p) :: u :: r) := by
      simp [tOpd, PT.runK, kW, hk]
    rw [e, h1, PT.runK_bind, reg_K h3]
    rfl
theorem opW_sign {op : Int} (h1 : 1 ≤ op) (h2 : op ≤ 11) : kdOf (signT op) = 3 ∧ opW (signT op) = (op, true) := by
  obtain ⟨q, rfl⟩ : ∃ q : Nat, op = q := ⟨op.toNat, by omega⟩
  have key : ∀ q : Fin 12, 1 ≤ q.1 → (kdOf (signT ((q.1 : Nat) : Int)) = 3 ∧ opW (signT ((q.1 : Nat) : Int)) = (((q.1 : Nat) : Int), true)) := by decide
  exact key ⟨q, by omega⟩ (by show 1 ≤ q; omega)
theorem reg_word {n : Int} (h : isRegB n = true) {w : List UInt8} (hw : w.length ≠ 2) : (kW (regT n)).2 ≠ w := by
  rintro rfl
  apply hw
  rw [show (kW (regT n)).2 = regT n from rfl, (reg_text h).1]
  rfl
theorem opd_word {o : Opnd} (h : isOpB o = true) {w : List UInt8} (hw : w.length ≠ 2) (hk : kdOf w = 1) : (kW (opT o)).2 ≠ w := by
  intro e
  have e : opT o = w := e
  by_cases hp : o.reg = -1
  · have : opT o = Lib.itoa o.value := by simp [opT, hp]
    rw [this] at e
    have := kd_num o.value
    rw [e, hk] at this
    cases this
  · have h2 : isRegB o.reg = true ∧ o.value = 0 := by simpa [isOpB, hp] using h
    have : opT o = regT o.reg := by simp [opT, hp]
    rw [this, (reg_text h2.1).1] at e
    apply hw
    rw [← e]
    rfl
theorem eqIns_eq {x w : Ins} (h : eqIns x w = true) : x = w := by
  obtain ⟨k, r, l, ⟨a1, a2⟩, o, ⟨b1, b2⟩, n⟩ := x
  obtain ⟨k', r', l', ⟨a1', a2'⟩, o', ⟨b1', b2'⟩, n'⟩ := w
  simp only [eqIns, Bool.and_eq_true, decide_eq_true_eq, and_true] at h
  obtain ⟨rfl, rfl, rfl, rfl, rfl, rfl, rfl, rfl, rfl⟩ := h
  rfl
theorem ins_K {x : Ins} (h : okInsB x = true) (hv : I64i x) (u : KT) (r' : List KT) : tInsE.runK ((insW x).map kW ++ u :: r') = some (x, u :: r') := by
  have m59 : ∀ (u : KT) (r : List KT), (tMust [59]).runK (kW [59] :: u :: r) = some ((), u :: r) := fun u r => must_K (.inl (by decide)) u r
  suffices hs : ∀ q : KT, q.2 = [59] → q.1 = 3 → ∀ r, tIns.runK ((partsI x).map kW ++ q :: r) = some (x, q :: r) by
    unfold tInsE insW
    have e : List.map kW (partsI x ++ [[59]]) ++ u :: r' = List.map kW (partsI x) ++ kW [59] :: u :: r' := by simp
    rw [PT.runK_bind, e, hs (kW [59]) rfl (by decide)]
    simp only [PT.runK_bind, m59]
    rfl
  intro q hq2 hq1 r
  obtain ⟨_, hv1, hv2, hv3, hv4, hv5⟩ := hv
  have t1 : ∀ (yes no : PT Ins) (u : KT) (r : List KT), (tTake wStore yes no).runK (kW wStore :: u :: r) = yes.runK (u :: r) := fun y n u r => take_K (.inr (by decide)) y n u r
  have t2 : ∀ (yes no : PT Ins) (u : KT) (r : List KT), (tTake wFence yes no).runK (kW wFence :: u :: r) = yes.runK (u :: r) := fun y n u r => take_K (.inr (by decide)) y n u r
  have t3 : ∀ (yes no : PT Ins) (u : KT) (r : List KT), (tTake wSkip yes no).runK (kW wSkip :: u :: r) = yes.runK (u :: r) := fun y n u r => take_K (.inr (by decide)) y n u r
  have t4 : ∀ (yes no : PT Ins) (u : KT) (r : List KT), (tTake wLoad yes no).runK (kW wLoad :: u :: r) = yes.runK (u :: r) := fun y n u r => take_K (.inr (by decide)) y n u r
  have t5 : ∀ (yes no : PT Ins) (u : KT) (r : List KT), (tTake wCas yes no).runK (kW wCas :: u :: r) = yes.runK (u :: r) := fun y n u r => take_K (.inr (by decide)) y n u r
  have m61 : ∀ (u : KT) (r : List KT), (tMust [61]).runK (kW [61] :: u :: r) = some ((), u :: r) := fun u r => must_K (.inl (by decide)) u r
  have mif : ∀ (u : KT) (r : List KT), (tMust wIf).runK (kW wIf :: u :: r) = some ((), u :: r) := fun u r => must_K (.inr (by decide)) u r
  have mee : ∀ (u : KT) (r : List KT), (tMust [61, 61]).runK (kW [61, 61] :: u :: r) = some ((), u :: r) := fun u r => must_K (.inl (by decide)) u r
  have regs : ∀ {n : Int}, isRegB n = true → ∀ (u : KT) (r : List KT), tIns.runK (kW (regT n) :: kW [61] :: u :: r) = (tRight n).runK (u :: r) := by
    intro n hn u r
    unfold tIns
    rw [take_no _ _ _ _ (reg_word hn (by decide)), take_no _ _ _ _ (reg_word hn (by decide)), take_no _ _ _ _ (reg_word hn (by decide))]
    simp only [PT.runK_bind, reg_K hn, m61]
  obtain ⟨k, rg, lc, a, o, b, n⟩ := x
  simp only at hv1 hv2 hv3 hv4 hv5
  unfold okInsB at h
  unfold partsI
  simp only at h ⊢
  by_cases k1 : k = 1
  · subst k1
    rw [if_pos rfl] at h ⊢
    simp only [Bool.and_eq_true] at h
    obtain ⟨⟨h1, h2⟩, h3⟩ := h
    rw [eqIns_eq h3]
    show tIns.runK (kW wStore :: kW (locT lc) :: kW (opT a) :: q :: r) = _
    unfold tIns
    rw [t1]
    simp only [PT.runK_bind, loc_K h1, opd_K h2 hv2]
    rfl
  by_cases k2 : k = 2
  · subst k2
    rw [if_neg (by decide), if_pos rfl] at h ⊢
    simp only [Bool.and_eq_true] at h
    obtain ⟨⟨h1, h2⟩, h3⟩ := h
    rw [eqIns_eq h3]
    show tIns.runK (kW (regT rg) :: kW [61] :: kW wLoad :: kW (locT lc) :: q :: r) = _
    rw [regs h2]
    unfold tRight
    rw [t4]
    simp only [PT.runK_bind, loc_K h1]
    rfl
  by_cases k3 : k = 3
  · subst k3
    rw [if_neg (by decide), if_neg (by decide), if_pos rfl] at h ⊢
    rw [eqIns_eq h]
    show tIns.runK (kW wFence :: q :: r) = _
    unfold tIns
    rw [take_no _ _ _ _ (by decide), t2]
    rfl
  by_cases k4 : k = 4
  · subst k4
    rw [if_neg (by decide), if_neg (by decide), if_neg (by decide), if_pos rfl] at h ⊢
    simp only [Bool.and_eq_true] at h
    obtain ⟨⟨⟨⟨h1, h2⟩, h3⟩, h4⟩, h5⟩ := h
    rw [eqIns_eq h5]
    show tIns.runK (kW (regT rg) :: kW [61] :: kW wCas :: kW (locT lc) :: kW (opT a) :: kW (opT b) :: q :: r) = _
    rw [regs h2]
    unfold tRight
    rw [take_no _ _ _ _ (by decide), t5]
    simp only [PT.runK_bind, loc_K h1, opd_K h3 hv2, opd_K h4 hv4]
    rfl
  by_cases k5 : k = 5
  · subst k5
    rw [if_neg (by decide), if_neg (by decide), if_neg (by decide), if_neg (by decide), if_pos rfl] at h ⊢
    simp only [Bool.and_eq_true, decide_eq_true_eq] at h
    obtain ⟨⟨⟨⟨⟨⟨h1, h2⟩, h3⟩, h4⟩, h5⟩, h6⟩, h7⟩ := h
    have hx := eqIns_eq h7
    simp only [Ins.mk.injEq] at hx
    obtain ⟨_, _, rfl, _, _, _, rfl⟩ := hx
    by_cases ho : 0 < o
    · rw [if_pos ho]
      obtain ⟨s1, s2⟩ := opW_sign (by omega) h5
      show tIns.runK (kW (regT rg) :: kW [61] :: kW (opT a) :: kW (signT o) :: kW (opT b) :: q :: r) = _
      rw [regs h1]
      unfold tRight
      rw [take_no _ _ _ _ (opd_word h2 (by decide) (by decide)), take_no _ _ _ _ (opd_word h2 (by decide) (by decide))]
      simp only [PT.runK_bind, opd_K h2 hv2]
      simp only [PT.runK, kW, s1, s2, and_self, if_true, PT.runK_bind]
      have := opd_K h3 hv4 q r
      unfold kW at this
      rw [this]
    · rw [if_neg ho]
      have ho0 : o = 0 := by omega
      subst ho0
      have hb : b = ⟨-1, 0⟩ := by
        obtain ⟨b1, b2⟩ := b
        have : b1 = -1 ∧ b2 = 0 := by simpa using h6
        rw [this.1, this.2]
      subst hb
      show tIns.runK (kW (regT rg) :: kW [61] :: kW (opT a) :: q :: r) = _
      rw [regs h1]
      unfold tRight
      rw [take_no _ _ _ _ (opd_word h2 (by decide) (by decide)), take_no _ _ _ _ (opd_word h2 (by decide) (by decide))]
      simp only [PT.runK_bind, opd_K h2 hv2]
      have hop : (opW [59]).2 = false := by decide
      simp [PT.runK, hq1, hq2, hop]
  by_cases k6 : k = 6
  · subst k6
    rw [if_neg (by decide), if_neg (by decide), if_neg (by decide), if_neg (by decide), if_neg (by decide)] at h ⊢
    rw [if_pos rfl] at h
    simp only [Bool.and_eq_true, decide_eq_true_eq] at h
    obtain ⟨⟨⟨h1, h2⟩, h3⟩, h4⟩ := h
    rw [eqIns_eq h4]
    show tIns.runK (kW wSkip :: kW (Lib.itoa n) :: kW wIf :: kW (opT a) :: kW [61, 61] :: kW (opT b) :: q :: r) = _
    unfold tIns
    rw [take_no _ _ _ _ (by decide), take_no _ _ _ _ (by decide), t3]
    have hp : (parseW (Lib.itoa n)).1 = n := by rw [parseW_itoa hv5]
    have e1 : ∀ (t : PT Ins) (u : KT) (r : List KT), PT.runK (.cur fun d y => if d = 2 ∧ (parseW y).1 < 0 then .bad 6 else t) (kW (Lib.itoa n) :: u :: r) = t.runK (kW (Lib.itoa n) :: u :: r) := by
      intro t u r
      have hc : ¬ ((kW (Lib.itoa n)).1 = 2 ∧ (parseW (kW (Lib.itoa n)).2).1 < 0) := by
        rintro ⟨_, h'⟩
        have h2 : (parseW (Lib.itoa n)).1 < 0 := h'
        rw [hp] at h2
        omega
      show PT.runK (if (kW (Lib.itoa n)).1 = 2 ∧ (parseW (kW (Lib.itoa n)).2).1 < 0 then .bad 6 else t) (kW (Lib.itoa n) :: u :: r) = _
      rw [if_neg hc]
    rw [e1]
    simp only [PT.runK_bind, num_K hv5, mif, opd_K h2 hv2, mee, opd_K h3 hv4]
    rfl
  · rw [if_neg k1, if_neg k2, if_neg k3, if_neg k4, if_neg k5, if_neg k6] at h
    cases h
theorem must_W {w : List UInt8} (h : kdOf w = 3 ∨ kdOf w = 1) : ∀ (u : KT) (r : List KT), (tMust w).runK (kW w :: u :: r) = some ((), u :: r) := fun u r => must_K h u r
theorem many_K {α : Type} {one : PT α} {f : α → List (List UInt8)} {p : α → Prop} (hone : ∀ a, p a → ∀ (u : KT) (r : List KT), one.runK ((f a).map kW ++ u :: r) = some (a, u :: r)) (hf : ∀ a, p a → ∃ w ws, f a = w :: ws ∧ w ≠ [125]) :
    ∀ (l : List α) (n : Nat), (∀ a ∈ l, p a) → l.length < n → ∀ (u : KT) (r : List KT), (tMany one n).runK ((l.flatMap f).map kW ++ kW [125] :: u :: r) = some (l, u :: r)
  | _, 0, _, h, _, _ => absurd h (Nat.not_lt_zero _)
  | [], n + 1, _, _, u, r => by
    simp only [List.flatMap_nil, List.map_nil, List.nil_append, tMany]
    rw [take_K (.inl (by decide))]
    rfl
  | a :: l, n + 1, hp, hl, u, r => by
    obtain ⟨w, ws, hw, hne⟩ := hf a (hp a List.mem_cons_self)
    have h1 := hone a (hp a List.mem_cons_self)
    have ih := many_K hone hf l n (fun b hb => hp b (List.mem_cons_of_mem _ hb)) (by simp at hl; omega) u r
    simp only [List.flatMap_cons, List.map_append, List.append_assoc, tMany]
    obtain ⟨v, vs, hv⟩ : ∃ v vs, (l.flatMap f).map kW ++ kW [125] :: u :: r = v :: vs := by
      cases h : (l.flatMap f).map kW with
      | nil => exact ⟨_, _, rfl⟩
      | cons v vs => exact ⟨_, _, rfl⟩
    have e : (f a).map kW ++ ((l.flatMap f).map kW ++ kW [125] :: u :: r) = kW w :: (ws.map kW ++ ((l.flatMap f).map kW ++ kW [125] :: u :: r)) := by rw [hw]; rfl
    rw [e, take_no _ _ _ _ hne, ← e, PT.runK_bind, hv, h1, ← hv]
    simp only [PT.runK_bind, ih]
    rfl
theorem init_K {x : Init} (h : isLocB x.loc = true) (hv : I64 x.value) (u : KT) (r : List KT) : tInit.runK ((initW x).map kW ++ u :: r) = some (x, u :: r) := by
  show tInit.runK (kW (locT x.loc) :: kW [61] :: kW (Lib.itoa x.value) :: kW [59] :: u :: r) = _
  unfold tInit
  simp only [PT.runK_bind, loc_K h, must_W (w := [61]) (.inl (by decide)), num_K hv, must_W (w := [59]) (.inl (by decide))]
  rfl
theorem atom_K {x : Atom} (h : okAtomB x = true) (hv : I64a x) (u : KT) (r : List KT) : tAtom.runK ((atomW x).map kW ++ u :: r) = some (x, u :: r) := by
  obtain ⟨th, rg, lc, vl⟩ := x
  obtain ⟨v1, _, v3⟩ := hv
  simp only at v1 v3
  unfold okAtomB at h
  simp only at h
  by_cases ht : th = -1
  · subst ht
    rw [if_pos rfl] at h
    simp only [Bool.and_eq_true, decide_eq_true_eq] at h
    obtain ⟨rfl, h2⟩ := h
    show tAtom.runK (kW (locT lc) :: kW [61] :: kW (Lib.itoa vl) :: u :: r) = _
    obtain ⟨h0, _, _, h3⟩ := loc_byte h2
    have hk : kdOf (locT lc) = 1 := by rw [h0]; simp [kdOf, h3]
    have h1 : ∀ (u : KT) (r : List KT), tWho.runK (kW (locT lc) :: u :: r) = ((tNamed locN).bind fun l => .ret (⟨-1, 0, l, 0⟩ : Atom)).runK (kW (locT lc) :: u :: r) := by
      intro u r
      simp [tWho, PT.runK, kW, hk]
    unfold tAtom
    simp only [PT.runK_bind, h1, loc_K h2]
    simp only [PT.runK, PT.runK_bind, must_W (w := [61]) (.inl (by decide)), num_K v3]
  · rw [if_neg ht] at h
    simp only [Bool.and_eq_true, decide_eq_true_eq] at h
    obtain ⟨⟨⟨h1, h2⟩, rfl⟩, h4⟩ := h
    have e : atomW ⟨th, rg, 0, vl⟩ = [Lib.itoa th, [58], regT rg, [61], Lib.itoa vl] := by simp [atomW, ht]
    rw [e]
    show tAtom.runK (kW (Lib.itoa th) :: kW [58] :: kW (regT rg) :: kW [61] :: kW (Lib.itoa vl) :: u :: r) = _
    have hp : (parseW (Lib.itoa th)).1 = th := by rw [parseW_itoa v1]
    have h5 : ∀ (u : KT) (r : List KT), tWho.runK (kW (Lib.itoa th) :: u :: r) = ((tMust [58]).bind fun _ => (tNamed regN).bind fun q => .ret (⟨th, q, 0, 0⟩ : Atom)).runK (u :: r) := by
      intro u r
      have hk := kd_num th
      have hc : ¬ (th < 0 ∨ 9 < th) := by omega
      simp only [tWho, PT.runK, kW, hk, if_true, hp, if_neg hc]
    unfold tAtom
    simp only [PT.runK_bind, h5, must_W (w := [58]) (.inl (by decide)), reg_K h4]
    simp only [PT.runK, PT.runK_bind, must_W (w := [61]) (.inl (by decide)), num_K v3]
end Go.Proofs.YtpfbljkfbjjlkaaGreatDoor

/- What the test made of numbers comes to (its reader of numbers), told without a heap. -/
namespace Go.Proofs.YtpfbljkfbjjlkaaGreatDoor
open Go Go.Jq
set_option maxRecDepth 100000
set_option linter.unusedSimpArgs false
def nx (ls : List Int) (a : Nat) : Int := match ls[a]? with
  | some n => bits .and .i64 n 65535
  | none => 0
theorem nx_le (ls : List Int) (a : Nat) : ∃ q : Nat, q ≤ 65535 ∧ nx ls a = (q : Int) := by
  unfold nx
  cases ls[a]? with
  | none => exact ⟨0, by omega, rfl⟩
  | some n => exact bits_and_le n 65535 (by omega)
theorem smNext_calls {ls : List Int} {X : DV} (hX : IsInts ls X) (a : Nat) (ha : a < 9223372036854775807) :
    ACalls Tryz.prog 26 [.ptr 0 0, .dptr [X]] [(0, [.d (.int .i64 a)])] fun r m' => r = .d (.int .i64 (nx ls a)) ∧ m' = [(0, [.d (.int .i64 (a + 1 : Nat))])] := by
  have hsl := hX.sl
  have hbig := hsl.big
  have hw : IntKind.i64.wrap ((a : Int) + 1) = ((a + 1 : Nat) : Int) := by rw [wrap_i64 (by omega) (by omega)]; rfl
  have hw' : IntKind.i64.wrap (((a + 1 : Nat) : Int) - 1) = (a : Int) := by rw [wrap_i64 (by omega) (by omega)]; omega
  refine acalls_of Tryz.func26 ac26_ok Tryz.ntmps26 Tryz.results26 rfl ?_
  unfold ac26
  refine bwp_seq fun K hK => bwp_region rfl ?_
  simp -implicitDefEqProofs only [go_sem, ↓reduceIte]
  refine hK _ ?_; clear hK
  refine bwp_seq fun K hK => bwp_region rfl ?_
  simp -implicitDefEqProofs only [go_sem, ↓reduceIte, hw]
  refine hK _ ?_; clear hK
  refine bwp_seq fun K1 hK1 => ?_
  refine bwp_seq fun K hK => bwp_region rfl ?_
  simp -implicitDefEqProofs only [go_sem, ↓reduceIte, hsl.len]
  refine hK _ ?_; clear hK
  by_cases hlt : a < ls.length
  · have h1 : ¬ (ls.length : Int) < ((a + 1 : Nat) : Int) := by omega
    obtain ⟨cs, hXe, hcs, hld⟩ := hsl.get a hlt
    have hel : (ls.map (DV.int .i64))[a]? = some (.int .i64 ls[a]) := by simp [hlt]
    simp only [eltD, hel, Nat.mul_one] at hld hcs
    have h2 : (a : Int) < ls.length := by omega
    refine bwp_cond false (by simp [ev, fget]; omega) (fun h => nomatch h) (fun _ => ?_)
    refine bwp_skip ?_
    refine hK1 _ ?_; clear hK1
    refine bwp_seq fun K hK => bwp_region rfl ?_
    simp -implicitDefEqProofs only [go_sem, ↓reduceIte, hw', hXe, h2, Int.toNat_natCast, Int.natCast_nonneg, hcs, hld]
    refine hK _ ?_; clear hK
    refine bwp_ret ?_
    simp only [go_sem]
    refine aend_mem (.d (.int .i64 (nx ls a))) [(0, 0)] [(0, [.d (.int .i64 (a + 1 : Nat))])] ?_ rfl rfl ?_ ⟨rfl, rfl⟩
    · simp [resA, resVs, resV, fget, nx, hlt]
    · simp [entM, pinv, mget, renL, AV.ren]
  · have h1 : (ls.length : Int) < ((a + 1 : Nat) : Int) := by omega
    have h2 : ls[a]? = none := List.getElem?_eq_none (by omega)
    refine bwp_cond true (by simp [ev, fget]; omega) (fun _ => ?_) (fun h => nomatch h)
    refine bwp_seq fun K hK => bwp_region rfl ?_
    simp -implicitDefEqProofs only [go_sem, ↓reduceIte]
    refine hK _ ?_; clear hK
    refine bwp_ret ?_
    simp only [go_sem]
    refine aend_mem (.d (.int .i64 (nx ls a))) [(0, 0)] [(0, [.d (.int .i64 (a + 1 : Nat))])] ?_ rfl rfl ?_ ⟨rfl, rfl⟩
    · simp [resA, resVs, resV, fget, nx, h2]
    · simp [entM, pinv, mget, renL, AV.ren]
def nxN (ls : List Int) (a : Nat) : Nat := (nx ls a).toNat
theorem nx_nxN (ls : List Int) (a : Nat) : nx ls a = (nxN ls a : Int) := by
  obtain ⟨q, _, h⟩ := nx_le ls a
  simp [nxN, h]
theorem nxN_le (ls : List Int) (a : Nat) : nxN ls a ≤ 65535 := by
  obtain ⟨q, hq, h⟩ := nx_le ls a
  simp [nxN, h, hq]
theorem smNext_callK {ls : List Int} {X : DV} (hX : IsInts ls X) {a : Nat} (ha : a < 9223372036854775807) {j : Nat} {dst : Option Nat} {r : List AOper} {K : St → Prop} {t : Fr} {m : Mem} {n : Nat} (hm : mget m j = some [.d (.int .i64 a)])
    (hk : runOps Tryz.prog r ⟨putF t dst (.d (.int .i64 (nxN ls a))), mset m j [.d (.int .i64 (a + 1 : Nat))], n + 1⟩ K) : callK Tryz.prog 26 [.ptr j 0, .dptr [X]] dst r K t m n := by
  refine callK_gen [(0, j)] [.ptr 0 0, .dptr [X]] [(0, [.d (.int .i64 a)])] (nb := j + 1) (smNext_calls hX a ha) (by simp [okRen]) (by simp [renL, AV.ren, pget]) (by simp [inL, inB, pget]) ⟨by simp [pget, hm, renL, AV.ren, inL, inB], trivial⟩ (by simp [mget]) ?_
  rintro r0 m' ⟨rfl, rfl⟩
  rw [nx_nxN]
  have e : callMem [(0, j)] [(0, [AV.d (.int .i64 a)])] [(0, [AV.d (.int .i64 (a + 1 : Nat))])] n m = mset m j [.d (.int .i64 (a + 1 : Nat))] := by
    simp [callMem, updNew, updOld, mget, renL, AV.ren]
  rw [e]
  exact hk
theorem smNext_dCallK {ls : List Int} {X : DV} (hX : IsInts ls X) {a : Nat} (ha : a < 9223372036854775807) {j : Nat} {dst : Option Nat} {r : List AOper} {acc : List Foot} {ms : List Nat} {K : St → Prop} {t : Fr} {m : Mem} {n : Nat} (hm : mget m j = some [.d (.int .i64 a)])
    (hk : runDA Tryz.prog r (⟨[j, n], [j]⟩ :: acc) ms ⟨putF t dst (.d (.int .i64 (nxN ls a))), mset m j [.d (.int .i64 (a + 1 : Nat))], n + 1⟩ K) : dCallK Tryz.prog 26 [.ptr j 0, .dptr [X]] dst r acc ms K t m n := by
  refine ⟨[(0, j)], [(0, [.d (.int .i64 a)])], [.ptr 0 0, .dptr [X]], _, _, j + 1, by simp [okRen], by simp [renL, AV.ren, pget], by simp [inL, inB, pget], ⟨by simp [pget, hm, renL, AV.ren, inL, inB], trivial⟩, fun i id h => ?_, smNext_calls hX a ha, ?_⟩
  · simp only [pget] at h
    split at h
    · rename_i e; subst e; rfl
    · cases h
  rw [nx_nxN]
  have e : callMem [(0, j)] [(0, [AV.d (.int .i64 a)])] [(0, [AV.d (.int .i64 (a + 1 : Nat))])] n m = mset m j [.d (.int .i64 (a + 1 : Nat))] := by
    simp [callMem, updNew, updOld, mget, renL, AV.ren]
  rw [e]
  exact hk
end Go.Proofs.YtpfbljkfbjjlkaaGreatDoor

/- What the test made of numbers comes to, told without a heap: its model. -/
namespace Go.Proofs.YtpfbljkfbjjlkaaGreatDoor
open Go Go.Jq
set_option maxRecDepth 100000
set_option linter.unusedSimpArgs false
def smallLoc (locs x : Nat) : Nat := 120 + x / 16 % locs
def smallVal (x : Nat) : Opnd := if x / 256 % 3 = 0 then ⟨(x / 1024 % 2 : Nat), 0⟩ else ⟨-1, (x / 64 % 3 : Nat)⟩
def smallReg (x : Nat) : Nat := x / 2048 % 2
def smallIns (locs x : Nat) : List Ins :=
  if x % 12 < 4 then [⟨1, 0, smallLoc locs x, smallVal x, 0, ⟨0, 0⟩, 0⟩]
  else if x % 12 < 8 then [⟨2, smallReg x, smallLoc locs x, ⟨0, 0⟩, 0, ⟨0, 0⟩, 0⟩]
  else if x % 12 = 8 then [⟨3, 0, 0, ⟨0, 0⟩, 0, ⟨0, 0⟩, 0⟩]
  else if x % 12 = 9 then [⟨4, smallReg x, smallLoc locs x, smallVal x, 0, ⟨-1, 1⟩, 0⟩]
  else if x % 12 = 10 then [⟨5, smallReg x, 0, smallVal x, 6, ⟨-1, 1⟩, 0⟩]
  else [⟨6, 0, 0, smallVal x, 0, ⟨-1, 0⟩, 1⟩, ⟨1, 0, smallLoc locs x, ⟨-1, 2⟩, 0, ⟨0, 0⟩, 0⟩]
def smallMem (x : Nat) : Nat := if x % 12 = 8 ∨ x % 12 = 10 then 0 else 1
def smallThread (ls : List Int) (locs most : Nat) : Nat → Nat → Nat → List Ins → Nat × Nat × List Ins
  | 0, a, mem, s => (a, mem, s)
  | k + 1, a, mem, s => if mem < most then smallThread ls locs most k (a + 1) (mem + smallMem (nxN ls a)) (s ++ smallIns locs (nxN ls a)) else (a, mem, s)
def smallThreads (ls : List Int) (locs most : Nat) : Nat → Nat → Nat → List (List Ins) → Nat × List (List Ins)
  | 0, a, _, ts => (a, ts)
  | n + 1, a, mem, ts =>
    let r := smallThread ls locs most (nxN ls a % 3 + 1) (a + 1) mem []
    smallThreads ls locs most n r.1 r.2.1 (ts ++ [r.2.2])
def smT (X : DV) (n locs most i mem : Nat) (s : List Ins) : Fr :=
  [(1, .d (.int .i64 most)), (4, .ptr 0 0), (5, .ptr 1 0), (7, .fn 26 [.ptr 2 0, .dptr [X]]), (8, .d (.int .i64 n)), (9, .d (.int .i64 locs)), (10, .d (.int .i64 mem)), (11, .d (.int .i64 i)), (12, .sl 4 9 0 s.length)]
def smM (Iv : DV) (ds : List DV) (i a : Nat) (s : List Ins) : Mem :=
  [(0, [.d (.str []), .d .nsl, .d .nsl, .d (.int .i64 0), .d .nsl]), (1, [.d (.str [116]), .d Iv, .sl 3 1 0 i, .d (.int .i64 0), .d .nsl]), (2, [.d (.int .i64 a)]), (3, ds.map .d), (4, (s.flatMap Ins.cells).map .d)]
def smS (X Iv : DV) (ds : List DV) (n locs most i k a mem : Nat) (s : List Ins) : St := ⟨(13, .d (.int .i64 k)) :: smT X n locs most i mem s, smM Iv ds i a s, 5⟩
def smE (X Iv : DV) (ds : List DV) (n locs most i a mem : Nat) (s : List Ins) : St := ⟨smT X n locs most i mem s, smM Iv ds i a s, 5⟩
theorem insLen (s : List Ins) : (s.flatMap Ins.cells).length = s.length * 9 := by
  induction s with
  | nil => rfl
  | cons a l ih => rw [List.flatMap_cons, List.length_append, ih, List.length_cons, Nat.succ_mul, Nat.add_comm]; rfl
set_option maxHeartbeats 4000000 in
theorem small_loop {ls : List Int} {X Iv : DV} (hX : IsInts ls X) {ds : List DV} {n locs most i : Nat} (hl0 : 0 < locs) (hl : locs ≤ 10) (hmost : most ≤ 1000) {Q : Exit → St → Prop} :
    ∀ (k a mem : Nat) (s : List Ins), k ≤ 10 → a + k ≤ 1000000 → mem + k ≤ 1000000 → s.length + 2 * k ≤ 1000000 →
      Q (.exit 2) (smE X Iv ds n locs most i (smallThread ls locs most k a mem s).1 (smallThread ls locs most k a mem s).2.1 (smallThread ls locs most k a mem s).2.2) → BWP Tryz.prog (mbound []) 184 (.loop ac8L0) (smS X Iv ds n locs most i k a mem s) Q := by
  intro k a mem s hk ha hme hs hQ
  refine bwp_loop (fun S => ∃ k' a' mem' s', k' ≤ 10 ∧ a' + k' ≤ 1000000 ∧ mem' + k' ≤ 1000000 ∧ s'.length + 2 * k' ≤ 1000000 ∧ smallThread ls locs most k' a' mem' s' = smallThread ls locs most k a mem s ∧ S = smS X Iv ds n locs most i k' a' mem' s')
    (fun S => match fget S.t 13 with
      | .d (.int _ k) => k.toNat
      | _ => 0) ⟨k, a, mem, s, hk, ha, hme, hs, rfl, rfl⟩ ?_
  rintro S ⟨k, a, mem, s, hk, ha, hme, hs, hrec, rfl⟩
  rw [← hrec] at hQ
  unfold ac8L0 smS smT smM
  have stop : ∀ (t : Fr), fget t 57 = .d (.bool false) → fget t 1 = .d (.int .i64 most) → fget t 4 = .ptr 0 0 → fget t 5 = .ptr 1 0 → fget t 7 = .fn 26 [.ptr 2 0, .dptr [X]] → fget t 8 = .d (.int .i64 n) → fget t 9 = .d (.int .i64 locs) →
      fget t 10 = .d (.int .i64 mem) → fget t 11 = .d (.int .i64 i) → fget t 12 = .sl 4 9 0 s.length → smallThread ls locs most k a mem s = (a, mem, s) → ∀ Q', (∀ S, Q (.exit 2) S → Q' (.exit 2) S) → BWP Tryz.prog (mbound []) 184 (.cond (.t 57) .skip (.exit 2)) ⟨t, smM Iv ds i a s, 5⟩ Q' := by
    intro t h57 h1 h4 h5 h7 h8 h9 h10 h11 h12 he Q' hQ'
    refine bwp_cond false (by simp [ev, fget, h57]) (fun h => nomatch h) (fun _ => ?_)
    rw [he] at hQ
    refine bwp_leads (S' := smE X Iv ds n locs most i a mem s) (Leads.ent [(0, 0), (1, 1), (2, 2), (3, 3), (4, 4)] ⟨?_, ?_, rfl, ?_⟩) (bwp_exit (hQ' _ hQ))
    · simp [smE, smT, entT, AV.ren, renL, pget, h1, h4, h5, h7, h8, h9, h10, h11, h12]
    · simp [smE, smM, entM, pinv, mget, renL, AV.ren, pget]
    · simp [keepRen]
  refine bwp_seq fun K1 hK1 => ?_
  cases k with
  | zero =>
    have h0 : ¬ (0 : Int) < ((0 : Nat) : Int) := by omega
    refine bwp_seq fun K hK => bwp_region rfl ?_
    simp -implicitDefEqProofs only [go_sem, ↓reduceIte, h0]
    refine hK _ ?_; clear hK
    exact stop _ rfl rfl rfl rfl rfl rfl rfl rfl rfl rfl rfl _ fun _ h => h
  | succ k =>
    have h0 : (0 : Int) < ((k + 1 : Nat) : Int) := by omega
    by_cases hmm : mem < most
    · have hmm' : (mem : Int) < most := by omega
      refine bwp_seq fun K hK => bwp_region rfl ?_
      simp -implicitDefEqProofs only [go_sem, ↓reduceIte, h0, hmm']
      refine hK _ ?_; clear hK
      refine bwp_cond true (by simp [ev, fget]) (fun _ => ?_) (fun h => nomatch h)
      refine bwp_skip ?_
      refine hK1 _ ?_; clear hK1
      refine bwp_seq fun K1 hK1 => ?_
      refine bwp_block ?_
      refine bwp_seq fun K hK => bwp_region rfl ?_
      simp -implicitDefEqProofs only [go_sem, ↓reduceIte]
      refine ⟨rfl, smNext_callK hX (by omega) rfl ?_⟩
      simp -implicitDefEqProofs only [go_sem, ↓reduceIte]
      refine hK _ ?_; clear hK
      have hx := nxN_le ls a
      generalize hxe : nxN ls a = x at hx
      have hl0' : ¬ (locs : Int) = 0 := by omega
      have hmod : x / 16 % locs < 10 := Nat.lt_of_lt_of_le (Nat.mod_lt _ hl0) hl
      have hwl : IntKind.i64.wrap (120 + ((x / 16 % locs : Nat) : Int)) = (smallLoc locs x : Int) := by rw [wrap_i64 (by omega) (by omega)]; simp [smallLoc]
      refine bwp_seq fun K hK => bwp_region rfl ?_
      simp -implicitDefEqProofs only [go_sem, ↓reduceIte, fd16 x, hl0', tmod_nat, hwl]
      refine hK _ ?_; clear hK
      refine bwp_seq fun K hK => bwp_region rfl ?_
      simp -implicitDefEqProofs only [go_sem, ↓reduceIte, fd64 x, tm3]
      refine hK _ ?_; clear hK
      refine bwp_seq fun K2 hK2 => ?_
      have mid : ∀ t : Fr, fget t 1 = .d (.int .i64 most) → fget t 4 = .ptr 0 0 → fget t 5 = .ptr 1 0 → fget t 7 = .fn 26 [.ptr 2 0, .dptr [X]] → fget t 8 = .d (.int .i64 n) → fget t 9 = .d (.int .i64 locs) →
          fget t 10 = .d (.int .i64 mem) → fget t 11 = .d (.int .i64 i) → fget t 12 = .sl 4 9 0 s.length → fget t 13 = .d (.int .i64 (k + 1 : Nat)) → fget t 14 = .d (.int .i64 x) → fget t 15 = .d (.int .i64 (smallLoc locs x)) → fget t 16 = .ptr 6 0 →
          K2 ⟨t, [(0, [.d (.str []), .d .nsl, .d .nsl, .d (.int .i64 0), .d .nsl]), (1, [.d (.str [116]), .d Iv, .sl 3 1 0 i, .d (.int .i64 0), .d .nsl]), (2, [.d (.int .i64 (a + 1 : Nat))]), (3, ds.map .d), (4, (s.flatMap Ins.cells).map .d), (6, [.d (.int .i64 (smallVal x).reg), .d (.int .i64 (smallVal x).value)])], 7⟩ := by
        intro t h1 h4 h5 h7 h8 h9 h10 h11 h12 h13 h14 h15 h16
        have back : ∀ (t : Fr) (is : List Ins) (mem' : Nat) (c7 : List AV), fget t 1 = .d (.int .i64 most) → fget t 4 = .ptr 0 0 → fget t 5 = .ptr 1 0 → fget t 7 = .fn 26 [.ptr 2 0, .dptr [X]] → fget t 8 = .d (.int .i64 n) → fget t 9 = .d (.int .i64 locs) →
            fget t 10 = .d (.int .i64 mem') → fget t 11 = .d (.int .i64 i) → fget t 12 = .sl 8 9 0 (s.length + is.length) → fget t 13 = .d (.int .i64 (k + 1 : Nat)) → smallIns locs x = is → is.length ≤ 2 → mem' = mem + smallMem x →
            K1 ⟨t, [(0, [.d (.str []), .d .nsl, .d .nsl, .d (.int .i64 0), .d .nsl]), (1, [.d (.str [116]), .d Iv, .sl 3 1 0 i, .d (.int .i64 0), .d .nsl]), (2, [.d (.int .i64 (a + 1 : Nat))]), (3, ds.map .d), (6, [.d (.int .i64 (smallVal x).reg), .d (.int .i64 (smallVal x).value)]), (7, c7),
              (8, (s.flatMap Ins.cells).map .d ++ (is.flatMap Ins.cells).map .d)], 9⟩ := by
          intro t is mem' c7 h1 h4 h5 h7 h8 h9 h10 h11 h12 h13 his hil hmem
          have hwk : IntKind.i64.wrap (((k + 1 : Nat) : Int) - 1) = (k : Int) := by rw [wrap_i64 (by omega) (by omega)]; omega
          refine hK1 _ ?_; clear hK1
          refine bwp_region rfl ?_
          simp -implicitDefEqProofs only [go_sem, ↓reduceIte, h13, hwk]
          have hrec' : smallThread ls locs most k (a + 1) mem' (s ++ is) = smallThread ls locs most (k + 1) a mem s := by
            simp only [smallThread, hmm, if_true, hxe, his, hmem]
          have hsm : smallMem x ≤ 1 := by unfold smallMem; split <;> omega
          refine ⟨smS X Iv ds n locs most i k (a + 1) mem' (s ++ is), Leads.ent [(0, 0), (1, 1), (2, 2), (3, 3), (8, 4)] ⟨?_, ?_, rfl, rfl⟩, ⟨k, a + 1, mem', s ++ is, by omega, by omega, by omega, by simp; omega, hrec'.trans hrec, rfl⟩, ?_⟩
          · simp [smS, smT, entT, fget, AV.ren, renL, pget, h1, h4, h5, h7, h8, h9, h10, h11, h12]
          · simp [smS, smM, entM, pinv, mget, renL, AV.ren, pget, renL_append]
          · simp only [smS, fget, ↓reduceIte, Nat.reduceEqDiff, Int.toNat_natCast]
            omega
        have hwm : IntKind.i64.wrap ((mem : Int) + 1) = ((mem + 1 : Nat) : Int) := by rw [wrap_i64 (by omega) (by omega)]; rfl
        have hb1 : (s.length + 1) * 72 ≤ 140737488351232 := by omega
        have hb2 : (s.length + 2) * 72 ≤ 140737488351232 := by omega
        have hil := insLen s
        refine hK2 _ ?_; clear hK2
        refine bwp_seq fun K hK => bwp_region rfl ?_
        simp -implicitDefEqProofs only [go_sem, ↓reduceIte, h14, fd2048 x, and1]
        refine hK _ ?_; clear hK
        refine bwp_seq fun K hK => bwp_region rfl ?_
        simp -implicitDefEqProofs only [go_sem, ↓reduceIte, h14, tm12 x]
        refine hK _ ?_; clear hK
        refine bwp_block ?_
        have h12c : x % 12 = 0 ∨ x % 12 = 1 ∨ x % 12 = 2 ∨ x % 12 = 3 ∨ x % 12 = 4 ∨ x % 12 = 5 ∨ x % 12 = 6 ∨ x % 12 = 7 ∨ x % 12 = 8 ∨ x % 12 = 9 ∨ x % 12 = 10 ∨ x % 12 = 11 := by omega
        rcases h12c with h | h | h | h | h | h | h | h | h | h | h | h
        · have hc : ((x % 12 : Nat) : Int) = 0 := by omega
          repeat (first
            | (refine bwp_seq fun K hK => bwp_region rfl ?_; simp -implicitDefEqProofs only [go_sem, ↓reduceIte, h1, h4, h5, h7, h8, h9, h10, h11, h12, h13, h14, h15, h16, hc, hwm, hb1, hb2, hil, List.length_append]; refine hK _ ?_; clear hK)
            | (refine bwp_seq fun K hK => ?_)
            | (refine bwp_cond true ?_ (fun _ => ?_) (fun h => nomatch h); focus (simp [ev, fget, h1, h4, h5, h7, h8, h9, h10, h11, h12, h13, h14, h15, h16, hc, hwm, hb1, hb2, hil, List.length_append]; done))
            | (refine bwp_cond false ?_ (fun h => nomatch h) (fun _ => ?_); focus (simp [ev, fget, h1, h4, h5, h7, h8, h9, h10, h11, h12, h13, h14, h15, h16, hc, hwm, hb1, hb2, hil, List.length_append]; done))
            | (refine bwp_block ?_)
            | (refine bwp_skip ?_; refine hK _ ?_; clear hK)
            | (refine bwp_region rfl ?_; simp -implicitDefEqProofs only [go_sem, ↓reduceIte, h1, h4, h5, h7, h8, h9, h10, h11, h12, h13, h14, h15, h16, hc, hwm, hb1, hb2, hil, List.length_append]; refine hK _ ?_; clear hK))
          refine bwp_region rfl ?_
          simp -implicitDefEqProofs only [go_sem, ↓reduceIte, h1, h4, h5, h7, h8, h9, h10, h11, h12, h13, h14, h15, h16, hc, hwm, hb1, hb2, hil, List.length_append]
          exact back _ [⟨1, 0, smallLoc locs x, smallVal x, 0, ⟨0, 0⟩, 0⟩] (mem + 1) _ h1 h4 h5 h7 h8 h9 rfl h11 rfl h13 (by simp [smallIns, h]) (by simp) (by simp [smallMem, h])
        · have hc : ((x % 12 : Nat) : Int) = 1 := by omega
          repeat (first
            | (refine bwp_seq fun K hK => bwp_region rfl ?_; simp -implicitDefEqProofs only [go_sem, ↓reduceIte, h1, h4, h5, h7, h8, h9, h10, h11, h12, h13, h14, h15, h16, hc, hwm, hb1, hb2, hil, List.length_append]; refine hK _ ?_; clear hK)
            | (refine bwp_seq fun K hK => ?_)
            | (refine bwp_cond true ?_ (fun _ => ?_) (fun h => nomatch h); focus (simp [ev, fget, h1, h4, h5, h7, h8, h9, h10, h11, h12, h13, h14, h15, h16, hc, hwm, hb1, hb2, hil, List.length_append]; done))
            | (refine bwp_cond false ?_ (fun h => nomatch h) (fun _ => ?_); focus (simp [ev, fget, h1, h4, h5, h7, h8, h9, h10, h11, h12, h13, h14, h15, h16, hc, hwm, hb1, hb2, hil, List.length_append]; done))
            | (refine bwp_block ?_)
            | (refine bwp_skip ?_; refine hK _ ?_; clear hK)
            | (refine bwp_region rfl ?_; simp -implicitDefEqProofs only [go_sem, ↓reduceIte, h1, h4, h5, h7, h8, h9, h10, h11, h12, h13, h14, h15, h16, hc, hwm, hb1, hb2, hil, List.length_append]; refine hK _ ?_; clear hK))
          refine bwp_region rfl ?_
          simp -implicitDefEqProofs only [go_sem, ↓reduceIte, h1, h4, h5, h7, h8, h9, h10, h11, h12, h13, h14, h15, h16, hc, hwm, hb1, hb2, hil, List.length_append]
          exact back _ [⟨1, 0, smallLoc locs x, smallVal x, 0, ⟨0, 0⟩, 0⟩] (mem + 1) _ h1 h4 h5 h7 h8 h9 rfl h11 rfl h13 (by simp [smallIns, h]) (by simp) (by simp [smallMem, h])
        · have hc : ((x % 12 : Nat) : Int) = 2 := by omega
          repeat (first
            | (refine bwp_seq fun K hK => bwp_region rfl ?_; simp -implicitDefEqProofs only [go_sem, ↓reduceIte, h1, h4, h5, h7, h8, h9, h10, h11, h12, h13, h14, h15, h16, hc, hwm, hb1, hb2, hil, List.length_append]; refine hK _ ?_; clear hK)
            | (refine bwp_seq fun K hK => ?_)
            | (refine bwp_cond true ?_ (fun _ => ?_) (fun h => nomatch h); focus (simp [ev, fget, h1, h4, h5, h7, h8, h9, h10, h11, h12, h13, h14, h15, h16, hc, hwm, hb1, hb2, hil, List.length_append]; done))
            | (refine bwp_cond false ?_ (fun h => nomatch h) (fun _ => ?_); focus (simp [ev, fget, h1, h4, h5, h7, h8, h9, h10, h11, h12, h13, h14, h15, h16, hc, hwm, hb1, hb2, hil, List.length_append]; done))
            | (refine bwp_block ?_)
            | (refine bwp_skip ?_; refine hK _ ?_; clear hK)
            | (refine bwp_region rfl ?_; simp -implicitDefEqProofs only [go_sem, ↓reduceIte, h1, h4, h5, h7, h8, h9, h10, h11, h12, h13, h14, h15, h16, hc, hwm, hb1, hb2, hil, List.length_append]; refine hK _ ?_; clear hK))
          refine bwp_region rfl ?_
          simp -implicitDefEqProofs only [go_sem, ↓reduceIte, h1, h4, h5, h7, h8, h9, h10, h11, h12, h13, h14, h15, h16, hc, hwm, hb1, hb2, hil, List.length_append]
          exact back _ [⟨1, 0, smallLoc locs x, smallVal x, 0, ⟨0, 0⟩, 0⟩] (mem + 1) _ h1 h4 h5 h7 h8 h9 rfl h11 rfl h13 (by simp [smallIns, h]) (by simp) (by simp [smallMem, h])
        · have hc : ((x % 12 : Nat) : Int) = 3 := by omega
          repeat (first
            | (refine bwp_seq fun K hK => bwp_region rfl ?_; simp -implicitDefEqProofs only [go_sem, ↓reduceIte, h1, h4, h5, h7, h8, h9, h10, h11, h12, h13, h14, h15, h16, hc, hwm, hb1, hb2, hil, List.length_append]; refine hK _ ?_; clear hK)
            | (refine bwp_seq fun K hK => ?_)
            | (refine bwp_cond true ?_ (fun _ => ?_) (fun h => nomatch h); focus (simp [ev, fget, h1, h4, h5, h7, h8, h9, h10, h11, h12, h13, h14, h15, h16, hc, hwm, hb1, hb2, hil, List.length_append]; done))
            | (refine bwp_cond false ?_ (fun h => nomatch h) (fun _ => ?_); focus (simp [ev, fget, h1, h4, h5, h7, h8, h9, h10, h11, h12, h13, h14, h15, h16, hc, hwm, hb1, hb2, hil, List.length_append]; done))
            | (refine bwp_block ?_)
            | (refine bwp_skip ?_; refine hK _ ?_; clear hK)
            | (refine bwp_region rfl ?_; simp -implicitDefEqProofs only [go_sem, ↓reduceIte, h1, h4, h5, h7, h8, h9, h10, h11, h12, h13, h14, h15, h16, hc, hwm, hb1, hb2, hil, List.length_append]; refine hK _ ?_; clear hK))
          refine bwp_region rfl ?_
          simp -implicitDefEqProofs only [go_sem, ↓reduceIte, h1, h4, h5, h7, h8, h9, h10, h11, h12, h13, h14, h15, h16, hc, hwm, hb1, hb2, hil, List.length_append]
          exact back _ [⟨1, 0, smallLoc locs x, smallVal x, 0, ⟨0, 0⟩, 0⟩] (mem + 1) _ h1 h4 h5 h7 h8 h9 rfl h11 rfl h13 (by simp [smallIns, h]) (by simp) (by simp [smallMem, h])
        · have hc : ((x % 12 : Nat) : Int) = 4 := by omega
          repeat (first
            | (refine bwp_seq fun K hK => bwp_region rfl ?_; simp -implicitDefEqProofs only [go_sem, ↓reduceIte, h1, h4, h5, h7, h8, h9, h10, h11, h12, h13, h14, h15, h16, hc, hwm, hb1, hb2, hil, List.length_append]; refine hK _ ?_; clear hK)
            | (refine bwp_seq fun K hK => ?_)
            | (refine bwp_cond true ?_ (fun _ => ?_) (fun h => nomatch h); focus (simp [ev, fget, h1, h4, h5, h7, h8, h9, h10, h11, h12, h13, h14, h15, h16, hc, hwm, hb1, hb2, hil, List.length_append]; done))
            | (refine bwp_cond false ?_ (fun h => nomatch h) (fun _ => ?_); focus (simp [ev, fget, h1, h4, h5, h7, h8, h9, h10, h11, h12, h13, h14, h15, h16, hc, hwm, hb1, hb2, hil, List.length_append]; done))
            | (refine bwp_block ?_)
            | (refine bwp_skip ?_; refine hK _ ?_; clear hK)
            | (refine bwp_region rfl ?_; simp -implicitDefEqProofs only [go_sem, ↓reduceIte, h1, h4, h5, h7, h8, h9, h10, h11, h12, h13, h14, h15, h16, hc, hwm, hb1, hb2, hil, List.length_append]; refine hK _ ?_; clear hK))
          refine bwp_region rfl ?_
          simp -implicitDefEqProofs only [go_sem, ↓reduceIte, h1, h4, h5, h7, h8, h9, h10, h11, h12, h13, h14, h15, h16, hc, hwm, hb1, hb2, hil, List.length_append]
          exact back _ [⟨2, smallReg x, smallLoc locs x, ⟨0, 0⟩, 0, ⟨0, 0⟩, 0⟩] (mem + 1) _ h1 h4 h5 h7 h8 h9 rfl h11 rfl h13 (by simp [smallIns, h]) (by simp) (by simp [smallMem, h])
        · have hc : ((x % 12 : Nat) : Int) = 5 := by omega
          repeat (first
            | (refine bwp_seq fun K hK => bwp_region rfl ?_; simp -implicitDefEqProofs only [go_sem, ↓reduceIte, h1, h4, h5, h7, h8, h9, h10, h11, h12, h13, h14, h15, h16, hc, hwm, hb1, hb2, hil, List.length_append]; refine hK _ ?_; clear hK)
            | (refine bwp_seq fun K hK => ?_)
            | (refine bwp_cond true ?_ (fun _ => ?_) (fun h => nomatch h); focus (simp [ev, fget, h1, h4, h5, h7, h8, h9, h10, h11, h12, h13, h14, h15, h16, hc, hwm, hb1, hb2, hil, List.length_append]; done))
            | (refine bwp_cond false ?_ (fun h => nomatch h) (fun _ => ?_); focus (simp [ev, fget, h1, h4, h5, h7, h8, h9, h10, h11, h12, h13, h14, h15, h16, hc, hwm, hb1, hb2, hil, List.length_append]; done))
            | (refine bwp_block ?_)
            | (refine bwp_skip ?_; refine hK _ ?_; clear hK)
            | (refine bwp_region rfl ?_; simp -implicitDefEqProofs only [go_sem, ↓reduceIte, h1, h4, h5, h7, h8, h9, h10, h11, h12, h13, h14, h15, h16, hc, hwm, hb1, hb2, hil, List.length_append]; refine hK _ ?_; clear hK))
          refine bwp_region rfl ?_
          simp -implicitDefEqProofs only [go_sem, ↓reduceIte, h1, h4, h5, h7, h8, h9, h10, h11, h12, h13, h14, h15, h16, hc, hwm, hb1, hb2, hil, List.length_append]
          exact back _ [⟨2, smallReg x, smallLoc locs x, ⟨0, 0⟩, 0, ⟨0, 0⟩, 0⟩] (mem + 1) _ h1 h4 h5 h7 h8 h9 rfl h11 rfl h13 (by simp [smallIns, h]) (by simp) (by simp [smallMem, h])
        · have hc : ((x % 12 : Nat) : Int) = 6 := by omega
          repeat (first
            | (refine bwp_seq fun K hK => bwp_region rfl ?_; simp -implicitDefEqProofs only [go_sem, ↓reduceIte, h1, h4, h5, h7, h8, h9, h10, h11, h12, h13, h14, h15, h16, hc, hwm, hb1, hb2, hil, List.length_append]; refine hK _ ?_; clear hK)
            | (refine bwp_seq fun K hK => ?_)
            | (refine bwp_cond true ?_ (fun _ => ?_) (fun h => nomatch h); focus (simp [ev, fget, h1, h4, h5, h7, h8, h9, h10, h11, h12, h13, h14, h15, h16, hc, hwm, hb1, hb2, hil, List.length_append]; done))
            | (refine bwp_cond false ?_ (fun h => nomatch h) (fun _ => ?_); focus (simp [ev, fget, h1, h4, h5, h7, h8, h9, h10, h11, h12, h13, h14, h15, h16, hc, hwm, hb1, hb2, hil, List.length_append]; done))
            | (refine bwp_block ?_)
            | (refine bwp_skip ?_; refine hK _ ?_; clear hK)
            | (refine bwp_region rfl ?_; simp -implicitDefEqProofs only [go_sem, ↓reduceIte, h1, h4, h5, h7, h8, h9, h10, h11, h12, h13, h14, h15, h16, hc, hwm, hb1, hb2, hil, List.length_append]; refine hK _ ?_; clear hK))
          refine bwp_region rfl ?_
          simp -implicitDefEqProofs only [go_sem, ↓reduceIte, h1, h4, h5, h7, h8, h9, h10, h11, h12, h13, h14, h15, h16, hc, hwm, hb1, hb2, hil, List.length_append]
          exact back _ [⟨2, smallReg x, smallLoc locs x, ⟨0, 0⟩, 0, ⟨0, 0⟩, 0⟩] (mem + 1) _ h1 h4 h5 h7 h8 h9 rfl h11 rfl h13 (by simp [smallIns, h]) (by simp) (by simp [smallMem, h])
        · have hc : ((x % 12 : Nat) : Int) = 7 := by omega
          repeat (first
            | (refine bwp_seq fun K hK => bwp_region rfl ?_; simp -implicitDefEqProofs only [go_sem, ↓reduceIte, h1, h4, h5, h7, h8, h9, h10, h11, h12, h13, h14, h15, h16, hc, hwm, hb1, hb2, hil, List.length_append]; refine hK _ ?_; clear hK)
            | (refine bwp_seq fun K hK => ?_)
            | (refine bwp_cond true ?_ (fun _ => ?_) (fun h => nomatch h); focus (simp [ev, fget, h1, h4, h5, h7, h8, h9, h10, h11, h12, h13, h14, h15, h16, hc, hwm, hb1, hb2, hil, List.length_append]; done))
            | (refine bwp_cond false ?_ (fun h => nomatch h) (fun _ => ?_); focus (simp [ev, fget, h1, h4, h5, h7, h8, h9, h10, h11, h12, h13, h14, h15, h16, hc, hwm, hb1, hb2, hil, List.length_append]; done))
            | (refine bwp_block ?_)
            | (refine bwp_skip ?_; refine hK _ ?_; clear hK)
            | (refine bwp_region rfl ?_; simp -implicitDefEqProofs only [go_sem, ↓reduceIte, h1, h4, h5, h7, h8, h9, h10, h11, h12, h13, h14, h15, h16, hc, hwm, hb1, hb2, hil, List.length_append]; refine hK _ ?_; clear hK))
          refine bwp_region rfl ?_
          simp -implicitDefEqProofs only [go_sem, ↓reduceIte, h1, h4, h5, h7, h8, h9, h10, h11, h12, h13, h14, h15, h16, hc, hwm, hb1, hb2, hil, List.length_append]
          exact back _ [⟨2, smallReg x, smallLoc locs x, ⟨0, 0⟩, 0, ⟨0, 0⟩, 0⟩] (mem + 1) _ h1 h4 h5 h7 h8 h9 rfl h11 rfl h13 (by simp [smallIns, h]) (by simp) (by simp [smallMem, h])
        · have hc : ((x % 12 : Nat) : Int) = 8 := by omega
          repeat (first
            | (refine bwp_seq fun K hK => bwp_region rfl ?_; simp -implicitDefEqProofs only [go_sem, ↓reduceIte, h1, h4, h5, h7, h8, h9, h10, h11, h12, h13, h14, h15, h16, hc, hwm, hb1, hb2, hil, List.length_append]; refine hK _ ?_; clear hK)
            | (refine bwp_seq fun K hK => ?_)
            | (refine bwp_cond true ?_ (fun _ => ?_) (fun h => nomatch h); focus (simp [ev, fget, h1, h4, h5, h7, h8, h9, h10, h11, h12, h13, h14, h15, h16, hc, hwm, hb1, hb2, hil, List.length_append]; done))
            | (refine bwp_cond false ?_ (fun h => nomatch h) (fun _ => ?_); focus (simp [ev, fget, h1, h4, h5, h7, h8, h9, h10, h11, h12, h13, h14, h15, h16, hc, hwm, hb1, hb2, hil, List.length_append]; done))
            | (refine bwp_block ?_)
            | (refine bwp_skip ?_; refine hK _ ?_; clear hK)
            | (refine bwp_region rfl ?_; simp -implicitDefEqProofs only [go_sem, ↓reduceIte, h1, h4, h5, h7, h8, h9, h10, h11, h12, h13, h14, h15, h16, hc, hwm, hb1, hb2, hil, List.length_append]; refine hK _ ?_; clear hK))
          refine bwp_region rfl ?_
          simp -implicitDefEqProofs only [go_sem, ↓reduceIte, h1, h4, h5, h7, h8, h9, h10, h11, h12, h13, h14, h15, h16, hc, hwm, hb1, hb2, hil, List.length_append]
          exact back _ [⟨3, 0, 0, ⟨0, 0⟩, 0, ⟨0, 0⟩, 0⟩] mem _ h1 h4 h5 h7 h8 h9 h10 h11 rfl h13 (by simp [smallIns, h]) (by simp) (by simp [smallMem, h])
        · have hc : ((x % 12 : Nat) : Int) = 9 := by omega
          repeat (first
            | (refine bwp_seq fun K hK => bwp_region rfl ?_; simp -implicitDefEqProofs only [go_sem, ↓reduceIte, h1, h4, h5, h7, h8, h9, h10, h11, h12, h13, h14, h15, h16, hc, hwm, hb1, hb2, hil, List.length_append]; refine hK _ ?_; clear hK)
            | (refine bwp_seq fun K hK => ?_)
            | (refine bwp_cond true ?_ (fun _ => ?_) (fun h => nomatch h); focus (simp [ev, fget, h1, h4, h5, h7, h8, h9, h10, h11, h12, h13, h14, h15, h16, hc, hwm, hb1, hb2, hil, List.length_append]; done))
            | (refine bwp_cond false ?_ (fun h => nomatch h) (fun _ => ?_); focus (simp [ev, fget, h1, h4, h5, h7, h8, h9, h10, h11, h12, h13, h14, h15, h16, hc, hwm, hb1, hb2, hil, List.length_append]; done))
            | (refine bwp_block ?_)
            | (refine bwp_skip ?_; refine hK _ ?_; clear hK)
            | (refine bwp_region rfl ?_; simp -implicitDefEqProofs only [go_sem, ↓reduceIte, h1, h4, h5, h7, h8, h9, h10, h11, h12, h13, h14, h15, h16, hc, hwm, hb1, hb2, hil, List.length_append]; refine hK _ ?_; clear hK))
          refine bwp_region rfl ?_
          simp -implicitDefEqProofs only [go_sem, ↓reduceIte, h1, h4, h5, h7, h8, h9, h10, h11, h12, h13, h14, h15, h16, hc, hwm, hb1, hb2, hil, List.length_append]
          exact back _ [⟨4, smallReg x, smallLoc locs x, smallVal x, 0, ⟨-1, 1⟩, 0⟩] (mem + 1) _ h1 h4 h5 h7 h8 h9 rfl h11 rfl h13 (by simp [smallIns, h]) (by simp) (by simp [smallMem, h])
        · have hc : ((x % 12 : Nat) : Int) = 10 := by omega
          repeat (first
            | (refine bwp_seq fun K hK => bwp_region rfl ?_; simp -implicitDefEqProofs only [go_sem, ↓reduceIte, h1, h4, h5, h7, h8, h9, h10, h11, h12, h13, h14, h15, h16, hc, hwm, hb1, hb2, hil, List.length_append]; refine hK _ ?_; clear hK)
            | (refine bwp_seq fun K hK => ?_)
            | (refine bwp_cond true ?_ (fun _ => ?_) (fun h => nomatch h); focus (simp [ev, fget, h1, h4, h5, h7, h8, h9, h10, h11, h12, h13, h14, h15, h16, hc, hwm, hb1, hb2, hil, List.length_append]; done))
            | (refine bwp_cond false ?_ (fun h => nomatch h) (fun _ => ?_); focus (simp [ev, fget, h1, h4, h5, h7, h8, h9, h10, h11, h12, h13, h14, h15, h16, hc, hwm, hb1, hb2, hil, List.length_append]; done))
            | (refine bwp_block ?_)
            | (refine bwp_skip ?_; refine hK _ ?_; clear hK)
            | (refine bwp_region rfl ?_; simp -implicitDefEqProofs only [go_sem, ↓reduceIte, h1, h4, h5, h7, h8, h9, h10, h11, h12, h13, h14, h15, h16, hc, hwm, hb1, hb2, hil, List.length_append]; refine hK _ ?_; clear hK))
          refine bwp_region rfl ?_
          simp -implicitDefEqProofs only [go_sem, ↓reduceIte, h1, h4, h5, h7, h8, h9, h10, h11, h12, h13, h14, h15, h16, hc, hwm, hb1, hb2, hil, List.length_append]
          exact back _ [⟨5, smallReg x, 0, smallVal x, 6, ⟨-1, 1⟩, 0⟩] mem _ h1 h4 h5 h7 h8 h9 h10 h11 rfl h13 (by simp [smallIns, h]) (by simp) (by simp [smallMem, h])
        · have hc : ((x % 12 : Nat) : Int) = 11 := by omega
          repeat (first
            | (refine bwp_seq fun K hK => bwp_region rfl ?_; simp -implicitDefEqProofs only [go_sem, ↓reduceIte, h1, h4, h5, h7, h8, h9, h10, h11, h12, h13, h14, h15, h16, hc, hwm, hb1, hb2, hil, List.length_append]; refine hK _ ?_; clear hK)
            | (refine bwp_seq fun K hK => ?_)
            | (refine bwp_cond true ?_ (fun _ => ?_) (fun h => nomatch h); focus (simp [ev, fget, h1, h4, h5, h7, h8, h9, h10, h11, h12, h13, h14, h15, h16, hc, hwm, hb1, hb2, hil, List.length_append]; done))
            | (refine bwp_cond false ?_ (fun h => nomatch h) (fun _ => ?_); focus (simp [ev, fget, h1, h4, h5, h7, h8, h9, h10, h11, h12, h13, h14, h15, h16, hc, hwm, hb1, hb2, hil, List.length_append]; done))
            | (refine bwp_block ?_)
            | (refine bwp_skip ?_; refine hK _ ?_; clear hK)
            | (refine bwp_region rfl ?_; simp -implicitDefEqProofs only [go_sem, ↓reduceIte, h1, h4, h5, h7, h8, h9, h10, h11, h12, h13, h14, h15, h16, hc, hwm, hb1, hb2, hil, List.length_append]; refine hK _ ?_; clear hK))
          refine bwp_region rfl ?_
          simp -implicitDefEqProofs only [go_sem, ↓reduceIte, h1, h4, h5, h7, h8, h9, h10, h11, h12, h13, h14, h15, h16, hc, hwm, hb1, hb2, hil, List.length_append]
          exact back _ [⟨6, 0, 0, smallVal x, 0, ⟨-1, 0⟩, 1⟩, ⟨1, 0, smallLoc locs x, ⟨-1, 2⟩, 0, ⟨0, 0⟩, 0⟩] (mem + 1) _ h1 h4 h5 h7 h8 h9 rfl h11 rfl h13 (by simp [smallIns, h]) (by simp) (by simp [smallMem, h])
      refine bwp_seq fun K hK => bwp_region rfl ?_
      simp -implicitDefEqProofs only [go_sem, ↓reduceIte, fd256 x, tm3]
      refine hK _ ?_; clear hK
      by_cases hv : x / 256 % 3 = 0
      · have hv' : ((x / 256 % 3 : Nat) : Int) = 0 := by omega
        refine bwp_cond true (by simp [ev, fget, hv]) (fun _ => ?_) (fun h => nomatch h)
        refine bwp_region rfl ?_
        simp -implicitDefEqProofs only [go_sem, ↓reduceIte, fd1024 x, and1]
        have := mid
        simp only [smallVal, hv, if_true] at this
        exact this _ rfl rfl rfl rfl rfl rfl rfl rfl rfl rfl rfl rfl rfl
      · refine bwp_cond false (by simp [ev, fget]; omega) (fun h => nomatch h) (fun _ => ?_)
        refine bwp_skip ?_
        have := mid
        simp only [smallVal, hv, if_false] at this
        exact this _ rfl rfl rfl rfl rfl rfl rfl rfl rfl rfl rfl rfl rfl
    · have hmm' : ¬ (mem : Int) < most := by omega
      refine bwp_seq fun K hK => bwp_region rfl ?_
      simp -implicitDefEqProofs only [go_sem, ↓reduceIte, h0, hmm']
      refine hK _ ?_; clear hK
      exact stop _ rfl rfl rfl rfl rfl rfl rfl rfl rfl rfl (by simp [smallThread, hmm]) _ fun _ h => h
end Go.Proofs.YtpfbljkfbjjlkaaGreatDoor

/- What the test made of numbers comes to, told without a heap: its threads. -/
namespace Go.Proofs.YtpfbljkfbjjlkaaGreatDoor
open Go Go.Jq
set_option maxRecDepth 100000
set_option linter.unusedSimpArgs false
theorem smallIns_len (locs x : Nat) : (smallIns locs x).length ≤ 2 := by
  unfold smallIns
  repeat' split
  all_goals simp
theorem smallMem_le (x : Nat) : smallMem x ≤ 1 := by unfold smallMem; split <;> omega
theorem smallThread_bounds (ls : List Int) (locs most : Nat) : ∀ (k a mem : Nat) (s : List Ins), (smallThread ls locs most k a mem s).1 ≤ a + k ∧ (smallThread ls locs most k a mem s).2.1 ≤ mem + k ∧ (smallThread ls locs most k a mem s).2.2.length ≤ s.length + 2 * k
  | 0, a, mem, s => by simp [smallThread]
  | k + 1, a, mem, s => by
    simp only [smallThread]
    split
    · have h := smallThread_bounds ls locs most k (a + 1) (mem + smallMem (nxN ls a)) (s ++ smallIns locs (nxN ls a))
      have h1 := smallIns_len locs (nxN ls a)
      have h2 := smallMem_le (nxN ls a)
      simp only [List.length_append] at h
      omega
    · simp only; omega
def smO (X Iv : DV) (ds : List DV) (n locs most i a mem : Nat) : St :=
  ⟨[(1, .d (.int .i64 most)), (4, .ptr 0 0), (5, .ptr 1 0), (7, .fn 26 [.ptr 2 0, .dptr [X]]), (8, .d (.int .i64 n)), (9, .d (.int .i64 locs)), (10, .d (.int .i64 mem)), (11, .d (.int .i64 i))],
    [(0, [.d (.str []), .d .nsl, .d .nsl, .d (.int .i64 0), .d .nsl]), (1, [.d (.str [116]), .d Iv, .sl 3 1 0 i, .d (.int .i64 0), .d .nsl]), (2, [.d (.int .i64 a)]), (3, ds.map .d)], 4⟩
set_option maxHeartbeats 4000000 in
theorem small_threads {ls : List Int} {X Iv : DV} (hX : IsInts ls X) {n locs most : Nat} (hn : n ≤ 3) (hl0 : 0 < locs) (hl : locs ≤ 10) (hmost : most ≤ 1000) {Q : Exit → St → Prop} {a0 : Nat} (ha0 : a0 ≤ 10)
    (hQ : ∀ ds, IsSls Ins.cells (smallThreads ls locs most n a0 0 []).2 ds → ds.length = n → (smallThreads ls locs most n a0 0 []).1 ≤ 100 → ∀ mem, Q (.exit 0) (smO X Iv ds n locs most n (smallThreads ls locs most n a0 0 []).1 mem)) :
    BWP Tryz.prog (mbound []) 184 (.loop ac8L1) (smO X Iv [] n locs most 0 a0 0) Q := by
  refine bwp_loop (fun S => ∃ i a mem ts ds, IsSls Ins.cells ts ds ∧ ts.length = i ∧ i ≤ n ∧ a ≤ 10 + 10 * i ∧ mem ≤ 10 * i ∧ smallThreads ls locs most (n - i) a mem ts = smallThreads ls locs most n a0 0 [] ∧ S = smO X Iv ds n locs most i a mem)
    (fun S => match fget S.t 11 with
      | .d (.int _ i) => n - i.toNat
      | _ => 0) ⟨0, a0, 0, [], [], trivial, rfl, Nat.zero_le _, by omega, by omega, rfl, rfl⟩ ?_
  rintro S ⟨i, a, mem, ts, ds, hds, htl, hi, ha, hme, hrec, rfl⟩
  have hdl : ds.length = i := by rw [hds.length, htl]
  unfold ac8L1
  refine bwp_seq fun K1 hK1 => ?_
  by_cases hlt : i < n
  · have hlt' : (i : Int) < n := by omega
    unfold smO
    refine bwp_seq fun K hK => bwp_region rfl ?_
    simp -implicitDefEqProofs only [go_sem, ↓reduceIte, hlt']
    refine hK _ ?_; clear hK
    refine bwp_cond true (by simp [ev, fget]) (fun _ => ?_) (fun h => nomatch h)
    refine bwp_skip ?_
    refine hK1 _ ?_; clear hK1
    refine bwp_seq fun K1 hK1 => ?_
    refine bwp_block ?_
    refine bwp_seq fun K hK => bwp_region rfl ?_
    simp -implicitDefEqProofs only [go_sem, ↓reduceIte]
    refine hK _ ?_; clear hK
    refine bwp_seq fun K2 hK2 => ?_
    refine bwp_seq fun K hK => bwp_region rfl ?_
    simp -implicitDefEqProofs only [go_sem, ↓reduceIte]
    refine ⟨rfl, smNext_callK hX (by omega) rfl ?_⟩
    have hk4 : nxN ls a % 3 + 1 ≤ 10 := by omega
    have hw3 : IntKind.i64.wrap (((nxN ls a % 3 : Nat) : Int) + 1) = ((nxN ls a % 3 + 1 : Nat) : Int) := by rw [wrap_i64 (by omega) (by omega)]; rfl
    simp -implicitDefEqProofs only [go_sem, ↓reduceIte, tm3, hw3]
    refine hK _ ?_; clear hK
    refine bwp_block ?_
    refine bwp_leads (S' := ⟨[(12, .d .nsl), (13, .d (.int .i64 (nxN ls a % 3 + 1 : Nat))), (1, .d (.int .i64 most)), (4, .ptr 0 0), (5, .ptr 1 0), (7, .fn 26 [.ptr 2 0, .dptr [X]]), (8, .d (.int .i64 n)), (9, .d (.int .i64 locs)), (10, .d (.int .i64 mem)), (11, .d (.int .i64 i))],
      [(0, [.d (.str []), .d .nsl, .d .nsl, .d (.int .i64 0), .d .nsl]), (1, [.d (.str [116]), .d Iv, .sl 3 1 0 i, .d (.int .i64 0), .d .nsl]), (2, [.d (.int .i64 (a + 1 : Nat))]), (3, ds.map .d)], 4⟩) (Leads.ent [(0, 0), (1, 1), (2, 2), (3, 3)] ⟨?_, ?_, rfl, rfl⟩) ?_
    · simp [entT, fget, AV.ren, renL, pget]
    · simp [entM, pinv, mget, renL, AV.ren, pget]
    refine bwp_leads (Leads.nil 12 9 rfl rfl) ?_
    refine bwp_leads (S' := smS X Iv ds n locs most i (nxN ls a % 3 + 1) (a + 1) mem []) (Leads.ent [(0, 0), (1, 1), (2, 2), (3, 3), (4, 4)] ⟨?_, ?_, rfl, rfl⟩) ?_
    · simp [smS, smT, entT, fget, AV.ren, renL, pget]
    · simp [smS, smM, entM, pinv, mget, mset, renL, AV.ren, pget]
    refine small_loop hX hl0 hl hmost _ _ _ _ hk4 (by omega) (by omega) (by simp; omega) ?_
    have hb := smallThread_bounds ls locs most (nxN ls a % 3 + 1) (a + 1) mem []
    have hrec2 : smallThreads ls locs most (n - i) a mem ts = smallThreads ls locs most (n - (i + 1)) (smallThread ls locs most (nxN ls a % 3 + 1) (a + 1) mem []).1 (smallThread ls locs most (nxN ls a % 3 + 1) (a + 1) mem []).2.1 (ts ++ [(smallThread ls locs most (nxN ls a % 3 + 1) (a + 1) mem []).2.2]) := by
      rw [show n - i = (n - (i + 1)) + 1 by omega]
      rfl
    generalize smallThread ls locs most (nxN ls a % 3 + 1) (a + 1) mem [] = r at hb hrec2
    obtain ⟨a', mem', s'⟩ := r
    simp only [List.length_nil, Nat.zero_add] at hb
    simp -implicitDefEqProofs only [go_sem, ↓reduceIte]
    refine hK2 _ ?_; clear hK2
    have htk : (s'.flatMap Ins.cells).take (s'.length * 9) = s'.flatMap Ins.cells := List.take_of_length_le (by rw [insLen]; omega)
    refine bwp_leads (Leads.frz (S' := ⟨[(12, .d (.sl s'.length (s'.flatMap Ins.cells))), (1, .d (.int .i64 most)), (4, .ptr 0 0), (5, .ptr 1 0), (7, .fn 26 [.ptr 2 0, .dptr [X]]), (8, .d (.int .i64 n)), (9, .d (.int .i64 locs)), (10, .d (.int .i64 mem')), (11, .d (.int .i64 i))],
      [(0, [.d (.str []), .d .nsl, .d .nsl, .d (.int .i64 0), .d .nsl]), (1, [.d (.str [116]), .d Iv, .sl 3 1 0 i, .d (.int .i64 0), .d .nsl]), (2, [.d (.int .i64 a')]), (3, ds.map .d)], 4⟩) [(0, 0), (1, 1), (2, 2), (3, 3)] [(4, s'.flatMap Ins.cells)] ⟨?_, ?_, rfl, rfl, ?_⟩) ?_
    · simp [smE, smT, frzT, fget, AV.cv, cvL, zget, pget, htk]
    · simp [smE, smM, frzM, pinv, zget, mget, cvL, AV.cv, pget, cvL_d]
    · simp [smE, smM, zokFrom, mget, cvL_d]
    have hi24 : (i + 1) * 24 ≤ 140737488351232 := by omega
    refine bwp_region rfl ?_
    simp -implicitDefEqProofs only [go_sem, ↓reduceIte, List.length_append, hdl, hi24]
    refine hK1 _ ?_; clear hK1
    have hwi : IntKind.i64.wrap ((i : Int) + 1) = ((i + 1 : Nat) : Int) := by rw [wrap_i64 (by omega) (by omega)]; rfl
    refine bwp_region rfl ?_
    simp -implicitDefEqProofs only [go_sem, ↓reduceIte, hwi]
    refine ⟨smO X Iv (ds ++ [.sl s'.length (s'.flatMap Ins.cells)]) n locs most (i + 1) a' mem', Leads.ent [(0, 0), (1, 1), (2, 2), (5, 3)] ⟨?_, ?_, rfl, rfl⟩, ⟨i + 1, a', mem', ts ++ [s'], _, hds.append ⟨by omega, .inr rfl⟩, by simp [htl], by omega, by omega, by omega, hrec2.symm.trans hrec, rfl⟩, ?_⟩
    · simp [smO, entT, fget, AV.ren, renL, pget]
    · simp [smO, entM, pinv, mget, renL, AV.ren, pget, renL_append]
    · simp only [smO, fget, ↓reduceIte, Nat.reduceEqDiff, Int.toNat_natCast]
      omega
  · have hlt' : ¬ (i : Int) < n := by omega
    have hin : i = n := by omega
    unfold smO
    refine bwp_seq fun K hK => bwp_region rfl ?_
    simp -implicitDefEqProofs only [go_sem, ↓reduceIte, hlt']
    refine hK _ ?_; clear hK
    refine bwp_cond false (by simp [ev, fget]) (fun h => nomatch h) (fun _ => ?_)
    subst hin
    refine bwp_leads (S' := smO X Iv ds i locs most i a mem) (Leads.ent [(0, 0), (1, 1), (2, 2), (3, 3)] ⟨?_, ?_, rfl, rfl⟩) (bwp_exit ?_)
    · simp [smO, entT, fget, AV.ren, renL, pget]
    · simp [smO, entM, pinv, mget, renL, AV.ren, pget]
    · rw [Nat.sub_self] at hrec
      simp only [smallThreads] at hrec
      simp -implicitDefEqProofs only [go_sem, ↓reduceIte]
      rw [← hrec] at hQ
      exact hQ ds hds hdl (by simp only; omega) mem
end Go.Proofs.YtpfbljkfbjjlkaaGreatDoor

/- What the test made of numbers comes to, told without a heap. -/
namespace Go.Proofs.YtpfbljkfbjjlkaaGreatDoor
open Go Go.Jq
set_option maxRecDepth 100000
set_option linter.unusedSimpArgs false
def smallN (ls : List Int) : Nat := nxN ls 0 % 2 + 2
def smallLocs (ls : List Int) : Nat := nxN ls 1 % 2 + 2
def smallInits (ls : List Int) : List Init := if nxN ls 2 % 4 = 0 then [⟨120, (nxN ls 3 % 3 : Nat)⟩] else []
def smallAt (ls : List Int) : Nat := if nxN ls 2 % 4 = 0 then 4 else 3
def smallTs (ls : List Int) (most : Nat) : Nat × List (List Ins) := smallThreads ls (smallLocs ls) most (smallN ls) (smallAt ls) 0 []
def smallC (ls : List Int) (most : Nat) : Nat := nxN ls (smallTs ls most).1
def smallRows (x : Nat) : List (List Atom) := if x % 3 = 0 then [[⟨0, (x / 8 % 2 : Nat), 0, (x / 16 % 2 : Nat)⟩], [⟨-1, 0, 120, (x / 32 % 3 : Nat)⟩, ⟨1, 0, 0, (x / 128 % 2 : Nat)⟩]] else []
def smallKind (x : Nat) : Int := if x % 3 = 0 then ((x / 3 % 2 + 1 : Nat) : Int) else 0
def small (ls : List Int) (most : Nat) : Test := ⟨[116], smallInits ls, (smallTs ls most).2, smallKind (smallC ls most), smallRows (smallC ls most)⟩
def smL (X Iv : DV) (ds : List DV) (n a : Nat) : St :=
  ⟨[(4, .ptr 0 0), (5, .ptr 1 0), (7, .fn 26 [.ptr 2 0, .dptr [X]])],
    [(0, [.d (.str []), .d .nsl, .d .nsl, .d (.int .i64 0), .d .nsl]), (1, [.d (.str [116]), .d Iv, .d (.sl n ds), .d (.int .i64 0), .d .nsl]), (2, [.d (.int .i64 a)])], 3⟩
def smEnd (Iv : DV) (ds : List DV) (n : Nat) (kind : Int) (Av : DV) : St :=
  ⟨[(4, .ptr 0 0), (5, .ptr 1 0)], [(0, [.d (.str []), .d .nsl, .d .nsl, .d (.int .i64 0), .d .nsl]), (1, [.d (.str [116]), .d Iv, .d (.sl n ds), .d (.int .i64 kind), .d Av])], 2⟩
theorem small_end {Iv Av : DV} {ds : List DV} {n : Nat} {kind : Int} {Q : AV → Mem → Prop} (hQ : Q (.agg [.d (.str [116]), .d Iv, .d (.sl n ds), .d (.int .i64 kind), .d Av]) []) :
    BWP Tryz.prog (mbound []) 184 (.seq (.region false [⟨(some 183), .load (some 5) (.t 5), none⟩, ⟨none, .store 5 (.t 4) (.t 183), none⟩] []) .ret) (smEnd Iv ds n kind Av) (AEnd Tryz.prog #[.cell 4 30] (mbound []) Q) := by
  have hld : ldk Tryz.prog 30 = some (some 5) := by kernel_rfl
  unfold smEnd
  refine bwp_seq fun K hK => bwp_region rfl ?_
  simp -implicitDefEqProofs only [go_sem, ↓reduceIte]
  refine hK _ ?_; clear hK
  refine bwp_ret ?_
  simp only [go_sem]
  refine aend_mem (.agg [.d (.str [116]), .d Iv, .d (.sl n ds), .d (.int .i64 kind), .d Av]) [] [] ?_ rfl rfl trivial ?_
  · simp [resA, resVs, resV, fget, hld, mget, loadA]
  · simpa [AV.ren, renL] using hQ
def smSeq : Nat → ACode → ACode
  | 0, c => c
  | n + 1, .seq _ b => smSeq n b
  | _, c => c
theorem small_tail {ls : List Int} {X : DV} (hX : IsInts ls X) {Iv : DV} {ds : List DV} {n a x : Nat} (ha : a ≤ 1000) (hxe : nxN ls a = x) (hdl : ds.length = n) {Q : AV → Mem → Prop}
    (hQ : ∀ Av, IsSl2 Atom.cells (smallRows x) Av → Q (.agg [.d (.str [116]), .d Iv, .d (.sl n ds), .d (.int .i64 (smallKind x)), .d Av]) []) :
    BWP Tryz.prog (mbound []) 184 (smSeq 9 ac8) (smL X Iv ds n a) (AEnd Tryz.prog #[.cell 4 30] (mbound []) Q) := by
  have hx := nxN_le ls a
  rw [hxe] at hx
  unfold ac8 smL
  simp only [smSeq]
  refine bwp_seq fun K1 hK1 => ?_
  refine bwp_seq fun K hK => bwp_region rfl ?_
  simp -implicitDefEqProofs only [go_sem, ↓reduceIte]
  refine ⟨rfl, smNext_callK (a := a) hX (by omega) rfl ?_⟩
  simp -implicitDefEqProofs only [go_sem, ↓reduceIte, hxe]
  refine hK _ ?_; clear hK
  have fin : ∀ (S : St) (Av : DV), Leads (mbound []) 184 S (smEnd Iv ds n (smallKind x) Av) → IsSl2 Atom.cells (smallRows x) Av → K1 S := by
    intro S Av hS hAv
    refine hK1 _ ?_; clear hK1
    exact bwp_leads hS (small_end (hQ Av hAv))
  refine bwp_seq fun K hK => bwp_region rfl ?_
  simp -implicitDefEqProofs only [go_sem, ↓reduceIte, tm3]
  refine hK _ ?_; clear hK
  have htk : ds.take n = ds := List.take_of_length_le (by omega)
  by_cases hz : x % 3 = 0
  · refine bwp_cond true (by simp [ev, fget, hz]) (fun _ => ?_) (fun h => nomatch h)
    have hwk : IntKind.i64.wrap (((x / 3 % 2 : Nat) : Int) + 1) = ((x / 3 % 2 + 1 : Nat) : Int) := by rw [wrap_i64 (by omega) (by omega)]; rfl
    have hw3 : IntKind.i64.wrap ((x / 3 : Nat) : Int) = ((x / 3 : Nat) : Int) := Go.Jq.wrap_small (by omega)
    refine bwp_region rfl ?_
    simp -implicitDefEqProofs only [go_sem, ↓reduceIte, td3, hw3, tm2, tm3, hwk, fd8, fd16, fd32, fd128, and1]
    refine fin _ (.sl 2 [.sl 1 (Atom.cells ⟨0, (x / 8 % 2 : Nat), 0, (x / 16 % 2 : Nat)⟩), .sl 2 (Atom.cells ⟨-1, 0, 120, (x / 32 % 3 : Nat)⟩ ++ Atom.cells ⟨1, 0, 0, (x / 128 % 2 : Nat)⟩)])
      (Leads.frz [(0, 0), (1, 1)] [(4, Atom.cells ⟨0, (x / 8 % 2 : Nat), 0, (x / 16 % 2 : Nat)⟩), (5, Atom.cells ⟨-1, 0, 120, (x / 32 % 3 : Nat)⟩ ++ Atom.cells ⟨1, 0, 0, (x / 128 % 2 : Nat)⟩),
        (6, [.sl 1 (Atom.cells ⟨0, (x / 8 % 2 : Nat), 0, (x / 16 % 2 : Nat)⟩), .sl 2 (Atom.cells ⟨-1, 0, 120, (x / 32 % 3 : Nat)⟩ ++ Atom.cells ⟨1, 0, 0, (x / 128 % 2 : Nat)⟩)])] ⟨?_, ?_, rfl, rfl, ?_⟩) ?_
    · simp [smEnd, frzT, fget, AV.cv, zget, pget]
    · simp [smEnd, frzM, pinv, zget, mget, cvL, AV.cv, smallKind, hz]
    · simp [zokFrom, zget, mget, cvL, AV.cv, Atom.cells]
    · simp only [smallRows, hz, if_true]
      refine ⟨[.sl 1 (Atom.cells ⟨0, (x / 8 % 2 : Nat), 0, (x / 16 % 2 : Nat)⟩), .sl 2 (Atom.cells ⟨-1, 0, 120, (x / 32 % 3 : Nat)⟩ ++ Atom.cells ⟨1, 0, 0, (x / 128 % 2 : Nat)⟩)], ⟨by simp, .inr ?_⟩, ?_⟩
      · rfl
      · exact ⟨⟨by simp, .inr rfl⟩, ⟨by simp, .inr rfl⟩, trivial⟩
  · refine bwp_cond false (by simp [ev, fget]; omega) (fun h => nomatch h) (fun _ => ?_)
    refine bwp_skip ?_
    refine fin _ .nsl (Leads.ent [(0, 0), (1, 1)] ⟨?_, ?_, rfl, rfl⟩) ?_
    · simp [smEnd, entT, fget, AV.ren, pget]
    · simp [smEnd, entM, pinv, mget, renL, AV.ren, smallKind, hz]
    · simp only [smallRows, hz, if_false]
      exact ⟨[], ⟨by decide, .inl ⟨rfl, rfl⟩⟩, trivial⟩
end Go.Proofs.YtpfbljkfbjjlkaaGreatDoor

/- The test made of numbers is a good one: plain Lean, no program in sight. -/
namespace Go.Proofs.YtpfbljkfbjjlkaaGreatDoor
open Go Go.Jq
def JumpOk (l : List Ins) : Prop := ∀ (i : Nat) (x : Ins), l[i]? = some x → x.kind = 6 → x.n = 1 ∧ i + 1 < l.length
theorem JumpOk.append {l l' : List Ins} (h : JumpOk l) (h' : JumpOk l') : JumpOk (l ++ l') := by
  intro i x hx hk
  rcases Nat.lt_or_ge i l.length with hi | hi
  · rw [List.getElem?_append_left hi] at hx
    have := h i x hx hk
    rw [List.length_append]; omega
  · rw [List.getElem?_append_right hi] at hx
    have := h' _ x hx hk
    rw [List.length_append]; omega
structure GoodThread (l : List Ins) : Prop where
  len : l.length ≤ 6
  ok : ∀ x ∈ l, okInsB x = true
  loc : ∀ x ∈ l, x.loc = 0 ∨ (120 ≤ x.loc ∧ x.loc ≤ 122)
  jump : JumpOk l
theorem smallVal_ok (x : Nat) : isOpB (smallVal x) = true := by
  unfold smallVal
  split
  · have : x / 1024 % 2 < 2 := Nat.mod_lt _ (by omega)
    have h1 : isRegB ((x / 1024 % 2 : Nat) : Int) = true := by
      generalize x / 1024 % 2 = q at this
      simp only [isRegB, Bool.and_eq_true, decide_eq_true_eq]; omega
    simp only [isOpB, h1, Bool.true_and, Bool.or_eq_true]
    exact .inr rfl
  · simp [isOpB]
theorem smallReg_ok (x : Nat) : isRegB (smallReg x : Nat) = true := by
  have : smallReg x < 2 := Nat.mod_lt _ (by omega)
  simp only [isRegB, Bool.and_eq_true, decide_eq_true_eq]
  omega
theorem smallLoc_ok {locs : Nat} (h0 : 0 < locs) (h3 : locs ≤ 3) (x : Nat) : 120 ≤ smallLoc locs x ∧ smallLoc locs x ≤ 122 := by
  have : x / 16 % locs < locs := Nat.mod_lt _ h0
  unfold smallLoc
  omega
theorem smallIns_ok {locs : Nat} (h0 : 0 < locs) (h3 : locs ≤ 3) (x : Nat) : (∀ i ∈ smallIns locs x, okInsB i = true ∧ (i.loc = 0 ∨ (120 ≤ i.loc ∧ i.loc ≤ 122))) ∧ JumpOk (smallIns locs x) := by
  have hv := smallVal_ok x
  have hr := smallReg_ok x
  have hl := smallLoc_ok h0 h3 x
  have hlB : isLocB (smallLoc locs x : Nat) = true := (isLocB_iff _).2 (by omega)
  have hlI : (120 : Int) ≤ (smallLoc locs x : Nat) ∧ ((smallLoc locs x : Nat) : Int) ≤ 122 := by omega
  unfold smallIns
  generalize smallLoc locs x = L at *
  generalize smallReg x = R at *
  generalize smallVal x = V at *
  have hop1 : isOpB ⟨-1, 1⟩ = true := rfl
  have hop0 : isOpB ⟨-1, 0⟩ = true := rfl
  have hop2 : isOpB ⟨-1, 2⟩ = true := rfl
  have one : ∀ y : Ins, y.kind ≠ 6 → JumpOk [y] := by
    intro y hy i x hx hk
    cases i with
    | zero => simp at hx; subst hx; exact absurd hk hy
    | succ i => simp at hx
  split
  · refine ⟨?_, one _ (by simp)⟩
    intro i hi
    simp only [List.mem_singleton] at hi
    subst hi
    exact ⟨by simp [okInsB, eqIns, hlB, hv], .inr hlI⟩
  · split
    · refine ⟨?_, one _ (by simp)⟩
      intro i hi
      simp only [List.mem_singleton] at hi
      subst hi
      exact ⟨by simp [okInsB, eqIns, hlB, hr], .inr hlI⟩
    · split
      · refine ⟨?_, one _ (by simp)⟩
        intro i hi
        simp only [List.mem_singleton] at hi
        subst hi
        exact ⟨by decide, .inl rfl⟩
      · split
        · refine ⟨?_, one _ (by simp)⟩
          intro i hi
          simp only [List.mem_singleton] at hi
          subst hi
          exact ⟨by simp [okInsB, eqIns, hlB, hr, hv, hop1], .inr hlI⟩
        · split
          · refine ⟨?_, one _ (by simp)⟩
            intro i hi
            simp only [List.mem_singleton] at hi
            subst hi
            exact ⟨by simp [okInsB, eqIns, hr, hv, hop1], .inl rfl⟩
          · refine ⟨?_, ?_⟩
            · intro i hi
              simp only [List.mem_cons, List.not_mem_nil, or_false] at hi
              rcases hi with rfl | rfl
              · exact ⟨by simp [okInsB, eqIns, hv, hop0], .inl rfl⟩
              · exact ⟨by simp [okInsB, eqIns, hlB, hop2], .inr hlI⟩
            · intro i x hx hk
              match i with
              | 0 => simp at hx; subst hx; exact ⟨rfl, by simp⟩
              | 1 => simp at hx; subst hx; simp at hk
              | i + 2 => simp at hx
theorem smallThread_ok (ls : List Int) {locs : Nat} (h0 : 0 < locs) (h3 : locs ≤ 3) (most : Nat) : ∀ (k a mem : Nat) (s : List Ins), (∀ i ∈ s, okInsB i = true ∧ (i.loc = 0 ∨ (120 ≤ i.loc ∧ i.loc ≤ 122))) → JumpOk s →
    (∀ i ∈ (smallThread ls locs most k a mem s).2.2, okInsB i = true ∧ (i.loc = 0 ∨ (120 ≤ i.loc ∧ i.loc ≤ 122))) ∧ JumpOk (smallThread ls locs most k a mem s).2.2
  | 0, a, mem, s, h, hj => ⟨h, hj⟩
  | k + 1, a, mem, s, h, hj => by
    simp only [smallThread]
    split
    · have hi := smallIns_ok h0 h3 (nxN ls a)
      refine smallThread_ok ls h0 h3 most k _ _ _ ?_ (hj.append hi.2)
      intro i him
      rcases List.mem_append.1 him with him | him
      · exact h i him
      · exact hi.1 i him
    · exact ⟨h, hj⟩
theorem smallThreads_ok (ls : List Int) {locs : Nat} (h0 : 0 < locs) (h3 : locs ≤ 3) (most : Nat) : ∀ (n a mem : Nat) (ts : List (List Ins)), (∀ l ∈ ts, GoodThread l) → ∀ l ∈ (smallThreads ls locs most n a mem ts).2, GoodThread l
  | 0, a, mem, ts, h => h
  | n + 1, a, mem, ts, h => by
    simp only [smallThreads]
    refine smallThreads_ok ls h0 h3 most n _ _ _ ?_
    intro l hl
    rw [List.mem_append] at hl
    rcases hl with hl | hl
    · exact h l hl
    · simp only [List.mem_singleton] at hl
      subst hl
      have hb := smallThread_bounds ls locs most (nxN ls a % 3 + 1) (a + 1) mem []
      have hk := smallThread_ok ls h0 h3 most (nxN ls a % 3 + 1) (a + 1) mem [] (by simp) (fun i x hx => by simp at hx)
      simp only [List.length_nil] at hb
      exact ⟨by omega, fun x hx => (hk.1 x hx).1, fun x hx => (hk.1 x hx).2, hk.2⟩
theorem small_good (ls : List Int) (most : Nat) : ∀ l ∈ (small ls most).threads, GoodThread l := by
  simp only [small, smallTs]
  exact smallThreads_ok ls (by unfold smallLocs; omega) (by unfold smallLocs; omega) most _ _ _ [] (by simp)
structure GoodTest (t : Test) : Prop where
  name : isWordB t.name = true
  short : t.name.length ≤ 20
  threads : ∀ l ∈ t.threads, GoodThread l
  inits : ∀ x ∈ t.inits, x.loc = 120
  once : t.inits.length ≤ 1
  cond : okCondB t.kind t.rows = true
  rows : t.rows.length ≤ 8
  row : ∀ l ∈ t.rows, l.length ≤ 8
  rloc : ∀ l ∈ t.rows, ∀ a ∈ l, a.loc = 0 ∨ a.loc = 120
theorem GoodTest.ok {t : Test} (h : GoodTest t) : okB t = true := by
  have h1 : badInitB t.inits = false := by
    unfold badInitB
    rw [List.any_eq_false]
    intro x hx
    rw [h.inits x hx]
    decide
  have h2 : t.threads.any badThreadB = false := by
    rw [List.any_eq_false]
    intro l hl
    unfold badThreadB
    rw [Bool.not_eq_true, List.any_eq_false]
    intro x hx
    rw [(h.threads l hl).ok x hx]
    decide
  simp [okB, h.name, h1, h2, h.cond]
theorem small_goodTest (ls : List Int) (most : Nat) : GoodTest (small ls most) := by
  refine ⟨by show isWordB [116] = true; decide +kernel, by simp [small], small_good ls most, ?_, ?_, ?_, ?_, ?_, ?_⟩
  · intro x hx
    simp only [small, smallInits] at hx
    split at hx
    · simp only [List.mem_singleton] at hx; subst hx; rfl
    · simp at hx
  · simp only [small, smallInits]; split <;> simp
  · simp only [small]
    generalize smallC ls most = x
    unfold okCondB smallKind smallRows
    by_cases hz : x % 3 = 0
    · have h2 : x / 3 % 2 < 2 := Nat.mod_lt _ (by omega)
      have h8 : x / 8 % 2 < 2 := Nat.mod_lt _ (by omega)
      have hk : ((x / 3 % 2 + 1 : Nat) : Int) = 1 ∨ ((x / 3 % 2 + 1 : Nat) : Int) = 2 := by omega
      have hr8 : isRegB ((x / 8 % 2 : Nat) : Int) = true := by simp only [isRegB, Bool.and_eq_true, decide_eq_true_eq]; omega
      have hr0 : isRegB 0 = true := rfl
      have hl : isLocB 120 = true := rfl
      simp only [hz, if_true]
      generalize ((x / 3 % 2 + 1 : Nat) : Int) = kd at hk
      generalize ((x / 8 % 2 : Nat) : Int) = r8 at hr8
      rcases hk with rfl | rfl
      · simp [badRowB, okAtomB, hr8, hr0, hl]
      · simp [badRowB, okAtomB, hr8, hr0, hl]
    · simp [hz]
  · simp only [small, smallRows]; split <;> simp
  · intro l hl
    simp only [small, smallRows] at hl
    split at hl
    · simp only [List.mem_cons, List.not_mem_nil, or_false] at hl
      rcases hl with rfl | rfl <;> simp
    · simp at hl
  · intro l hl a ha
    simp only [small, smallRows] at hl
    split at hl
    · simp only [List.mem_cons, List.not_mem_nil, or_false] at hl
      rcases hl with rfl | rfl
      · simp only [List.mem_singleton] at ha; subst ha; exact .inl rfl
      · simp only [List.mem_cons, List.not_mem_nil, or_false] at ha
        rcases ha with rfl | rfl
        · exact .inr rfl
        · exact .inl rfl
    · simp at hl
end Go.Proofs.YtpfbljkfbjjlkaaGreatDoor

/- The test made of numbers has a short text. -/
namespace Go.Proofs.YtpfbljkfbjjlkaaGreatDoor
open Go Go.Jq
theorem smallIns_i64 {locs x : Nat} (hl : locs ≤ 3) (h0 : 0 < locs) : ∀ i ∈ smallIns locs x, I64i i := by
  have hv : I64 (smallVal x).reg ∧ I64 (smallVal x).value := by
    unfold smallVal
    split
    · have := Nat.mod_lt (x / 1024) (by omega : 0 < 2)
      simp only [I64]
      omega
    · have := Nat.mod_lt (x / 64) (by omega : 0 < 3)
      simp only [I64]
      omega
  have hr : I64 (smallReg x : Nat) := by
    have : smallReg x < 2 := Nat.mod_lt _ (by omega)
    simp only [I64]
    omega
  have z : I64 0 := by simp [I64]
  have o : I64 1 := by simp [I64]
  have w : I64 2 := by simp [I64]
  have mo : I64 (-1) := by simp [I64]
  intro i hi
  unfold smallIns at hi
  repeat' split at hi
  all_goals simp only [List.mem_cons, List.not_mem_nil, or_false] at hi
  · subst hi; exact ⟨z, hv.1, hv.2, z, z, z⟩
  · subst hi; exact ⟨hr, z, z, z, z, z⟩
  · subst hi; exact ⟨z, z, z, z, z, z⟩
  · subst hi; exact ⟨hr, hv.1, hv.2, mo, o, z⟩
  · subst hi; exact ⟨hr, hv.1, hv.2, mo, o, z⟩
  · rcases hi with rfl | rfl
    · exact ⟨z, hv.1, hv.2, mo, z, o⟩
    · exact ⟨z, mo, w, z, z, z⟩
theorem smallThread_i64 (ls : List Int) {locs : Nat} (h0 : 0 < locs) (h3 : locs ≤ 3) (most : Nat) : ∀ (k a mem : Nat) (s : List Ins), (∀ i ∈ s, I64i i) → ∀ i ∈ (smallThread ls locs most k a mem s).2.2, I64i i
  | 0, a, mem, s, h => h
  | k + 1, a, mem, s, h => by
    simp only [smallThread]
    split
    · refine smallThread_i64 ls h0 h3 most k _ _ _ ?_
      intro i him
      rcases List.mem_append.1 him with him | him
      · exact h i him
      · exact smallIns_i64 h3 h0 i him
    · exact h
theorem smallThreads_i64 (ls : List Int) {locs : Nat} (h0 : 0 < locs) (h3 : locs ≤ 3) (most : Nat) : ∀ (n a mem : Nat) (ts : List (List Ins)), (∀ l ∈ ts, ∀ i ∈ l, I64i i) → ∀ l ∈ (smallThreads ls locs most n a mem ts).2, ∀ i ∈ l, I64i i
  | 0, a, mem, ts, h => h
  | n + 1, a, mem, ts, h => by
    simp only [smallThreads]
    refine smallThreads_i64 ls h0 h3 most n _ _ _ ?_
    intro l hl
    rw [List.mem_append] at hl
    rcases hl with hl | hl
    · exact h l hl
    · simp only [List.mem_singleton] at hl
      subst hl
      exact smallThread_i64 ls h0 h3 most _ _ _ [] (by simp)
theorem smallThreads_len (ls : List Int) (locs most : Nat) : ∀ (n a mem : Nat) (ts : List (List Ins)), (smallThreads ls locs most n a mem ts).2.length = ts.length + n
  | 0, a, mem, ts => rfl
  | n + 1, a, mem, ts => by
    simp only [smallThreads]
    rw [smallThreads_len, List.length_append, List.length_singleton]
    omega
theorem small_len (ls : List Int) (most : Nat) : (small ls most).threads.length = smallN ls := by
  simp only [small, smallTs]
  rw [smallThreads_len]
  simp
theorem smallN_le (ls : List Int) : smallN ls ≤ 3 := by unfold smallN; omega
theorem small_few (ls : List Int) (most : Nat) : FewT (small ls most) := by
  have hg := small_goodTest ls most
  refine ⟨by simp [small], Nat.le_trans hg.once (by omega), ?_, by rw [small_len]; have := smallN_le ls; omega, fun l hl => ⟨by have := (hg.threads l hl).len; omega, ?_⟩, by have := hg.rows; omega, fun l hl => ⟨by have := hg.row l hl; omega, ?_⟩⟩
  · intro x hx
    simp only [small, smallInits] at hx
    split at hx
    · simp only [List.mem_singleton] at hx
      subst hx
      have := Nat.mod_lt (nxN ls 3) (by omega : 0 < 3)
      simp only [I64]
      omega
    · simp at hx
  · simp only [small, smallTs] at hl
    exact smallThreads_i64 ls (by unfold smallLocs; omega) (by unfold smallLocs; omega) most _ _ _ [] (by simp) l hl
  · simp only [small] at hl
    generalize smallC ls most = x at hl
    unfold smallRows at hl
    have b1 := Nat.mod_lt (x / 8) (by omega : 0 < 2)
    have b2 := Nat.mod_lt (x / 16) (by omega : 0 < 2)
    have b3 := Nat.mod_lt (x / 32) (by omega : 0 < 3)
    have b4 := Nat.mod_lt (x / 128) (by omega : 0 < 2)
    intro a ha
    split at hl
    · simp only [List.mem_cons, List.not_mem_nil, or_false] at hl
      rcases hl with rfl | rfl
      · simp only [List.mem_singleton] at ha; subst ha; simp only [I64a, I64]; omega
      · simp only [List.mem_cons, List.not_mem_nil, or_false] at ha
        rcases ha with rfl | rfl
        · simp only [I64a, I64]; omega
        · simp only [I64a, I64]; omega
    · simp at hl
end Go.Proofs.YtpfbljkfbjjlkaaGreatDoor

/- A test's text: what stands where. -/
namespace Go.Proofs.YtpfbljkfbjjlkaaGreatDoor
open Go Go.Jq
def isEnd (b : UInt8) : Bool := b == 123 || b == 59 || b == 125
def GoodRow (r : List (List UInt8)) : Prop := ∃ ws e, r = ws ++ [[e]] ∧ (∀ w ∈ ws, Clean w) ∧ isEnd e = true
theorem word_clean {s : List UInt8} (h : isWordB s = true) : Clean s := by
  unfold isWordB at h
  simp only [Bool.and_eq_true, List.all_eq_true, List.mem_range, decide_eq_true_eq] at h
  refine ⟨h.2, List.all_eq_true.2 fun b hb => ?_⟩
  obtain ⟨i, hi, rfl⟩ := List.getElem_of_mem hb
  have := h.1 i hi
  simp only [wordAt, Bool.or_eq_true, Bool.and_eq_true, decide_eq_true_eq] at this
  have e : s.getD i 0 = s[i] := by simp [hi]
  rw [e] at this
  exact cleanC_of (by omega)
theorem atomW_clean {a : Atom} (h : okAtomB a = true) : ∀ w ∈ atomW a, Clean w := by
  have w1 : Clean [58] := ⟨by simp, by decide⟩
  have w2 : Clean [61] := ⟨by simp, by decide⟩
  unfold atomW
  unfold okAtomB at h
  split
  · rename_i ht
    rw [if_pos ht] at h
    simp only [Bool.and_eq_true] at h
    simp only [List.cons_append, List.nil_append, List.forall_mem_cons]
    exact ⟨locT_clean h.2, w2, itoa_clean _, by simp⟩
  · simp only [List.cons_append, List.nil_append, List.forall_mem_cons]
    exact ⟨itoa_clean _, w1, regT_clean _, w2, itoa_clean _, by simp⟩
theorem sepW_clean {s : List UInt8} (hs : Clean s) : ∀ {l : List (List (List UInt8))}, (∀ r ∈ l, ∀ w ∈ r, Clean w) → ∀ w ∈ sepW s l, Clean w
  | [], _ => by simp [sepW]
  | [r], h => by simpa [sepW] using h
  | r :: r' :: l, h => by
    intro w hw
    simp only [sepW, List.mem_append, List.mem_singleton] at hw
    rcases hw with (hw | rfl) | hw
    · exact h r (by simp) w hw
    · exact hs
    · exact sepW_clean hs (fun x hx => h x (List.mem_cons_of_mem _ hx)) w hw
theorem testW_good {t : Test} (h : okB t = true) : ∀ r ∈ testW t, GoodRow r := by
  simp only [okB, Bool.and_eq_true, Bool.not_eq_true', List.any_eq_false] at h
  have hth : ∀ l ∈ t.threads, ∀ x ∈ l, okInsB x = true := fun l hl x hx => by
    have := h.1.2 l hl
    simp only [badThreadB, List.any_eq_true, not_exists, not_and, Bool.not_eq_true', Bool.not_eq_false] at this
    exact this x hx
  have hin : ∀ x ∈ t.inits, isLocB x.loc = true := fun x hx => by
    have := h.1.1.2
    simp only [badInitB, List.any_eq_false, Bool.not_eq_true', Bool.not_eq_false] at this
    exact this x hx
  have w1 : Clean [116, 101, 115, 116] := ⟨by simp, by decide⟩
  have w2 : Clean [105, 110, 105, 116] := ⟨by simp, by decide⟩
  have w3 : Clean [116, 104, 114, 101, 97, 100] := ⟨by simp, by decide⟩
  have w4 : Clean [61] := ⟨by simp, by decide⟩
  have gE : GoodRow [[125]] := ⟨[], 125, rfl, by simp, rfl⟩
  intro r hr
  simp only [testW, List.mem_cons, List.mem_append, List.mem_flatMap, List.not_mem_nil, or_false] at hr
  rcases hr with rfl | ((hr | ⟨l, hl, hr⟩) | hr) | rfl
  · exact ⟨[[116, 101, 115, 116], t.name], 123, rfl, by simp only [List.forall_mem_cons]; exact ⟨w1, word_clean h.1.1.1, by simp⟩, rfl⟩
  · split at hr
    · simp at hr
    · simp only [List.mem_cons, List.mem_append, List.mem_map, List.not_mem_nil, or_false] at hr
      rcases hr with rfl | ⟨x, hx, rfl⟩ | rfl
      · exact ⟨[[105, 110, 105, 116]], 123, rfl, by simp only [List.forall_mem_cons]; exact ⟨w2, by simp⟩, rfl⟩
      · exact ⟨[locT x.loc, [61], Lib.itoa x.value], 59, rfl, by simp only [List.forall_mem_cons]; exact ⟨locT_clean (hin x hx), w4, itoa_clean _, by simp⟩, rfl⟩
      · exact gE
  · simp only [threadW, List.mem_cons, List.mem_append, List.mem_map, List.not_mem_nil, or_false] at hr
    rcases hr with rfl | ⟨x, hx, rfl⟩ | rfl
    · exact ⟨[[116, 104, 114, 101, 97, 100]], 123, rfl, by simp only [List.forall_mem_cons]; exact ⟨w3, by simp⟩, rfl⟩
    · exact ⟨partsI x, 59, rfl, parts_clean (hth l hl x hx), rfl⟩
    · exact gE
  · split at hr
    · simp at hr
    · rename_i hk
      simp only [List.mem_cons, List.not_mem_nil, or_false] at hr
      subst hr
      obtain ⟨_, h1, h2⟩ := rows_ok hk h.2
      refine ⟨[askW t.kind] ++ sepW [124] (t.rows.map rowW), 59, rfl, ?_, rfl⟩
      intro w hw
      rcases List.mem_append.1 hw with hw | hw
      · simp only [List.mem_singleton] at hw
        subst hw
        unfold askW
        split <;> exact ⟨by simp, by decide⟩
      · refine sepW_clean (s := [124]) ⟨by simp, by decide⟩ ?_ w hw
        intro r hr
        obtain ⟨l, hl, rfl⟩ := List.mem_map.1 hr
        refine sepW_clean (s := [38]) ⟨by simp, by decide⟩ ?_
        intro r hr
        obtain ⟨a, ha, rfl⟩ := List.mem_map.1 hr
        exact atomW_clean ((h2 l hl).2 a ha)
  · exact gE
end Go.Proofs.YtpfbljkfbjjlkaaGreatDoor

/- A printed test's words are read as it is. -/
namespace Go.Proofs.YtpfbljkfbjjlkaaGreatDoor
open Go Go.Jq
set_option maxRecDepth 100000
set_option linter.unusedSimpArgs false
theorem sepW_cons (s : List UInt8) (w : List (List UInt8)) : ∀ ws : List (List (List UInt8)), sepW s (w :: ws) = w ++ ws.flatMap fun v => s :: v
  | [] => by simp [sepW]
  | v :: ws => by
    have ih := sepW_cons s v ws
    simp only [sepW, ih, List.flatMap_cons, List.append_assoc, List.cons_append, List.nil_append]
theorem app_K {α : Type} (t : PT α) (ws : List (List UInt8)) (u : KT) (r : List KT) {x : α} (h : ∀ u r, t.runK (ws.map kW ++ u :: r) = some (x, u :: r)) (vs : List (List UInt8)) : ∃ v w, vs.map kW ++ u :: r = v :: w ∧ t.runK ((ws ++ vs).map kW ++ u :: r) = some (x, vs.map kW ++ u :: r) := by
  obtain ⟨v, w, hv⟩ : ∃ v w, vs.map kW ++ u :: r = v :: w := by
    cases vs with
    | nil => exact ⟨_, _, rfl⟩
    | cons v vs => exact ⟨_, _, rfl⟩
  refine ⟨v, w, hv, ?_⟩
  rw [List.map_append, List.append_assoc, hv]
  exact h v w
theorem row_K : ∀ (l : List Atom) (n : Nat), (∀ a ∈ l, okAtomB a = true ∧ I64a a) → l.length < n → ∀ (u : KT) (r : List KT), u.2 ≠ [38] →
    (tRow n).runK ((l.flatMap fun a => [38] :: atomW a).map kW ++ u :: r) = some (l, u :: r)
  | _, 0, _, h, _, _, _ => absurd h (Nat.not_lt_zero _)
  | [], n + 1, _, _, u, r, hu => by
    simp only [List.flatMap_nil, List.map_nil, List.nil_append, tRow]
    rw [take_no _ _ _ _ hu]
    rfl
  | a :: l, n + 1, hp, hl, u, r, hu => by
    have ih := row_K l n (fun b hb => hp b (List.mem_cons_of_mem _ hb)) (by simp at hl; omega) u r hu
    obtain ⟨ha, hv⟩ := hp a List.mem_cons_self
    obtain ⟨v, w, hvw, h1⟩ := app_K tAtom (atomW a) u r (atom_K ha hv) (l.flatMap fun a => [38] :: atomW a)
    have e : ((a :: l).flatMap fun a => [38] :: atomW a).map kW ++ u :: r = kW [38] :: ((atomW a ++ l.flatMap fun a => [38] :: atomW a).map kW ++ u :: r) := by simp
    obtain ⟨v', w', hvw'⟩ : ∃ v' w', (atomW a ++ l.flatMap fun a => [38] :: atomW a).map kW ++ u :: r = v' :: w' := by
      obtain ⟨y, ys, hy⟩ := List.exists_cons_of_ne_nil (atomW_ne a)
      rw [hy]
      exact ⟨_, _, rfl⟩
    rw [e, tRow, hvw', take_K (.inl (by decide)), ← hvw', PT.runK_bind, h1]
    simp only [PT.runK_bind, ih]
    rfl
theorem rowW_cons (a : Atom) (l : List Atom) : rowW (a :: l) = atomW a ++ l.flatMap fun a => [38] :: atomW a := by
  unfold rowW
  rw [List.map_cons, sepW_cons, List.flatMap_map]
theorem rows_K : ∀ (l : List Atom) (ls : List (List Atom)) (n : Nat), (∀ l' ∈ l :: ls, l' ≠ [] ∧ l'.length ≤ fuelP ∧ ∀ a ∈ l', okAtomB a = true ∧ I64a a) → ls.length < n → ∀ (u : KT) (r : List KT), u.2 ≠ [38] → u.2 ≠ [124] →
    (tRows n).runK ((rowW l ++ ls.flatMap fun l => [124] :: rowW l).map kW ++ u :: r) = some (l :: ls, u :: r)
  | _, _, 0, _, h, _, _, _, _ => absurd h (Nat.not_lt_zero _)
  | l, ls, n + 1, hp, hl, u, r, h38, h124 => by
    obtain ⟨hne, hlen, hok⟩ := hp l List.mem_cons_self
    obtain ⟨a, l', rfl⟩ := List.exists_cons_of_ne_nil hne
    obtain ⟨ha, hv⟩ := hok a List.mem_cons_self
    have hrow := row_K l' fuelP (fun b hb => hok b (List.mem_cons_of_mem _ hb)) (by simp at hlen; omega)
    rw [rowW_cons, List.append_assoc]
    obtain ⟨v, w, hvw, h1⟩ := app_K tAtom (atomW a) u r (atom_K ha hv) ((l'.flatMap fun a => [38] :: atomW a) ++ ls.flatMap fun l => [124] :: rowW l)
    rw [tRows, PT.runK_bind, h1]
    simp only [PT.runK_bind]
    rw [List.map_append, List.append_assoc]
    cases ls with
    | nil =>
      simp only [List.flatMap_nil, List.map_nil, List.nil_append]
      rw [hrow u r h38]
      simp only
      rw [take_no _ _ _ _ h124]
      rfl
    | cons l2 ls =>
      have ih := rows_K l2 ls n (fun x hx => hp x (List.mem_cons_of_mem _ hx)) (by simp at hl; omega) u r h38 h124
      have e : (((l2 :: ls).flatMap fun l => [124] :: rowW l)).map kW ++ u :: r = kW [124] :: ((rowW l2 ++ ls.flatMap fun l => [124] :: rowW l).map kW ++ u :: r) := by simp
      rw [e, hrow (kW [124]) _ (by decide)]
      simp only
      obtain ⟨v', w', hvw'⟩ : ∃ v' w', (rowW l2 ++ ls.flatMap fun l => [124] :: rowW l).map kW ++ u :: r = v' :: w' := by
        obtain ⟨y, ys, hy⟩ := List.exists_cons_of_ne_nil (rowW_ne (hp l2 (by simp)).1)
        rw [hy]
        exact ⟨_, _, rfl⟩
      rw [hvw', take_K (.inl (by decide)), ← hvw', PT.runK_bind, ih]
      rfl
structure FitT (t : Test) : Prop where
  ok : okB t = true
  inits : ∀ x ∈ t.inits, I64 x.value
  ins : ∀ l ∈ t.threads, ∀ x ∈ l, I64i x
  atoms : ∀ l ∈ t.rows, ∀ a ∈ l, I64a a
  ni : t.inits.length < fuelP
  nt : t.threads.length < fuelP
  nl : ∀ l ∈ t.threads, l.length < fuelP
  nr : t.rows.length < fuelP
  na : ∀ l ∈ t.rows, l.length < fuelP
theorem FitT.parts {t : Test} (h : FitT t) : isWordB t.name = true ∧ (∀ x ∈ t.inits, isLocB x.loc = true) ∧ (∀ l ∈ t.threads, ∀ x ∈ l, okInsB x = true) ∧ okCondB t.kind t.rows = true := by
  have h := h.ok
  simp only [okB, Bool.and_eq_true, Bool.not_eq_true', List.any_eq_false] at h
  refine ⟨h.1.1.1, fun x hx => ?_, fun l hl x hx => ?_, h.2⟩
  · have := h.1.1.2
    simp only [badInitB, List.any_eq_false, Bool.not_eq_true', Bool.not_eq_false] at this
    exact this x hx
  · have := h.1.2 l hl
    simp only [badThreadB, List.any_eq_true, not_exists, not_and, Bool.not_eq_true', Bool.not_eq_false] at this
    exact this x hx
theorem insW_head {x : Ins} (h : okInsB x = true) : ∃ w ws, insW x = w :: ws ∧ w ≠ [125] := by
  have hc := parts_clean h
  unfold insW
  cases hp : partsI x with
  | nil => exact ⟨[59], [], rfl, by decide⟩
  | cons w ws =>
    refine ⟨w, ws ++ [[59]], rfl, ?_⟩
    rintro rfl
    have := (hc [125] (by rw [hp]; simp)).2
    revert this
    decide
theorem threads_K : ∀ (ls : List (List Ins)) (n : Nat), (∀ l ∈ ls, l.length < fuelP ∧ ∀ x ∈ l, okInsB x = true ∧ I64i x) → ls.length < n → ∀ (u : KT) (r : List KT), u.2 ≠ wThread →
    (tThreads n).runK ((ls.flatMap fun l => (threadW l).flatten).map kW ++ u :: r) = some (ls, u :: r)
  | _, 0, _, h, _, _, _ => absurd h (Nat.not_lt_zero _)
  | [], n + 1, _, _, u, r, hu => by
    simp only [List.flatMap_nil, List.map_nil, List.nil_append, tThreads]
    rw [take_no _ _ _ _ hu]
    rfl
  | l :: ls, n + 1, hp, hl, u, r, hu => by
    have ih := threads_K ls n (fun b hb => hp b (List.mem_cons_of_mem _ hb)) (by simp at hl; omega) u r hu
    obtain ⟨hlen, hok⟩ := hp l List.mem_cons_self
    have hm := many_K (one := tInsE) (f := insW) (p := fun x => okInsB x = true ∧ I64i x) (fun a ha u r => ins_K ha.1 ha.2 u r) (fun a ha => insW_head ha.1) l fuelP hok hlen
    have e : ((l :: ls).flatMap fun l => (threadW l).flatten).map kW ++ u :: r = kW wThread :: kW [123] :: ((l.flatMap insW).map kW ++ kW [125] :: ((ls.flatMap fun l => (threadW l).flatten).map kW ++ u :: r)) := by
      simp [threadW, wThread, List.flatMap]
    obtain ⟨v, w, hv⟩ : ∃ v w, (ls.flatMap fun l => (threadW l).flatten).map kW ++ u :: r = v :: w := by
      cases h : (ls.flatMap fun l => (threadW l).flatten).map kW with
      | nil => exact ⟨_, _, rfl⟩
      | cons v vs => exact ⟨_, _, rfl⟩
    obtain ⟨v', w', hv'⟩ : ∃ v' w', (l.flatMap insW).map kW ++ kW [125] :: ((ls.flatMap fun l => (threadW l).flatten).map kW ++ u :: r) = v' :: w' := by
      cases h : (l.flatMap insW).map kW with
      | nil => exact ⟨_, _, rfl⟩
      | cons v vs => exact ⟨_, _, rfl⟩
    rw [e, tThreads, take_K (.inr (by decide)), PT.runK_bind]
    unfold tThread
    rw [hv', PT.runK_bind, must_K (.inl (by decide))]
    simp only
    rw [← hv', hv, hm, ← hv]
    simp only [PT.runK_bind, ih]
    rfl
theorem name_K {s : List UInt8} (h : isWordB s = true) (u : KT) (r : List KT) : tWord.runK (kW s :: u :: r) = some (s, u :: r) := by
  have hk : kdOf s = 1 := by
    unfold isWordB at h
    simp only [Bool.and_eq_true, List.all_eq_true, List.mem_range, decide_eq_true_eq] at h
    cases s with
    | nil => exact absurd rfl h.2
    | cons c r =>
      have := h.1 0 (by simp)
      simp only [wordAt, List.getD_cons_zero, Bool.or_eq_true, Bool.and_eq_true, decide_eq_true_eq] at this
      have hl : letB c = true := by
        simp only [letB, Bool.and_eq_true, decide_eq_true_eq]
        rcases this with h1 | h1
        · exact h1
        · exact absurd rfl h1.1.1
      simp [kdOf, hl]
  simp [tWord, PT.runK, kW, hk]
theorem cond_K {kind : Int} {rows : List (List Atom)} (h : okCondB kind rows = true) (hv : ∀ l ∈ rows, ∀ a ∈ l, I64a a) (hn : rows.length < fuelP) (hl : ∀ l ∈ rows, l.length < fuelP) (r : List KT) :
    tCond.runK (((if kind = 0 then [] else [condW kind rows]).flatten).map kW ++ kW [125] :: r) = some ((kind, rows), kW [125] :: r) := by
  by_cases h0 : kind = 0
  · subst h0
    have : rows = [] := by
      unfold okCondB at h
      rw [if_pos rfl] at h
      simpa using h
    subst this
    simp only [if_true, List.flatten_nil, List.map_nil, List.nil_append]
    unfold tCond
    rw [take_no _ _ _ _ (by decide), take_no _ _ _ _ (by decide)]
    rfl
  · obtain ⟨hk, hne, hrows⟩ := rows_ok h0 h
    obtain ⟨l, ls, rfl⟩ := List.exists_cons_of_ne_nil hne
    have hr := rows_K l ls fuelP (fun l' hl' => ⟨(hrows l' hl').1, Nat.le_of_lt (hl l' hl'), fun a ha => ⟨(hrows l' hl').2 a ha, hv l' hl' a ha⟩⟩) (by simp at hn; omega) (kW [59]) (kW [125] :: r) (by decide) (by decide)
    have e : ((if kind = 0 then [] else [condW kind (l :: ls)]).flatten).map kW ++ kW [125] :: r = kW (askW kind) :: ((rowW l ++ ls.flatMap fun l => [124] :: rowW l).map kW ++ kW [59] :: kW [125] :: r) := by
      rw [if_neg h0]
      simp [condW, sepW_cons, List.flatMap_map]
    obtain ⟨v, w, hvw⟩ : ∃ v w, (rowW l ++ ls.flatMap fun l => [124] :: rowW l).map kW ++ kW [59] :: kW [125] :: r = v :: w := by
      obtain ⟨y, ys, hy⟩ := List.exists_cons_of_ne_nil (rowW_ne (hrows l (by simp)).1)
      rw [hy]
      exact ⟨_, _, rfl⟩
    rw [e]
    unfold tCond
    rcases hk with rfl | rfl
    · have : askW 1 = wExists := rfl
      rw [this, hvw, take_K (.inr (by decide)), ← hvw]
      unfold tAsk
      rw [PT.runK_bind, hr]
      simp only [PT.runK_bind, must_W (w := [59]) (.inl (by decide))]
      rfl
    · have : askW 2 = wForall := rfl
      rw [this, take_no _ _ _ _ (by decide), hvw, take_K (.inr (by decide)), ← hvw]
      unfold tAsk
      rw [PT.runK_bind, hr]
      simp only [PT.runK_bind, must_W (w := [59]) (.inl (by decide))]
      rfl
def wordsT (t : Test) : List (List UInt8) := (testW t).flatten
theorem head_cons (vs : List (List UInt8)) (u : KT) (r : List KT) : ∃ v w, vs.map kW ++ u :: r = v :: w := by
  cases vs with
  | nil => exact ⟨_, _, rfl⟩
  | cons v vs => exact ⟨_, _, rfl⟩
theorem first_not {P : List UInt8 → Prop} (ws : List (List UInt8)) (h : ∀ w ∈ ws.head?, P w) (u : KT) (hu : P u.2) (r : List KT) : ∃ v w, ws.map kW ++ u :: r = v :: w ∧ P v.2 := by
  cases ws with
  | nil => exact ⟨u, r, rfl, hu⟩
  | cons w ws => exact ⟨kW w, _, rfl, h w rfl⟩
set_option maxHeartbeats 1000000 in
theorem test_K {t : Test} (h : FitT t) : tTest.runK ((wordsT t).map kW ++ [endK]) = some (t, [endK]) := by
  obtain ⟨hn, hi, hx, hc⟩ := h.parts
  have k1 := threads_K t.threads fuelP (fun l hl => ⟨h.nl l hl, fun x hxl => ⟨hx l hl x hxl, h.ins l hl x hxl⟩⟩) h.nt
  have k2 := cond_K hc h.atoms h.nr h.na [endK]
  have k3 := many_K (one := tInit) (f := initW) (p := fun x => isLocB x.loc = true ∧ I64 x.value) (fun a ha u r => init_K ha.1 ha.2 u r) (fun a ha => ⟨locT a.loc, _, rfl, by
    obtain ⟨h0, h1, _, _⟩ := loc_byte ha.1
    rw [h0]
    intro e
    have e1 : UInt8.ofNat a.loc.toNat = 125 := by simpa using e
    have h2 := ha.1
    simp only [isLocB, Bool.and_eq_true, decide_eq_true_eq] at h2
    rw [e1] at h1
    have e2 : (125 : UInt8).toNat = 125 := rfl
    rw [e2] at h1
    omega⟩) t.inits fuelP (fun x hx => ⟨hi x hx, h.inits x hx⟩) h.ni
  -- the parts, from behind
  generalize hC : (if t.kind = 0 then [] else [condW t.kind t.rows]).flatten = C at k2
  generalize hT : (t.threads.flatMap fun l => (threadW l).flatten) = T at k1
  have hCh : ∀ w ∈ C.head?, w ≠ wThread ∧ w ≠ wInit := by
    rw [← hC]
    split
    · simp
    · rename_i h0
      intro w hw
      have : w = askW t.kind := by
        simp [condW] at hw
        exact hw.symm
      rw [this]
      unfold askW
      split <;> decide
  have hTh : ∀ w ∈ T.head?, w ≠ wInit := by
    rw [← hT]
    cases t.threads with
    | nil => simp
    | cons l ls =>
      intro w hw
      have : w = wThread := by
        simp [threadW, wThread] at hw
        exact hw.symm
      rw [this]
      decide
  obtain ⟨c1, cr, hcr, hc1⟩ := first_not (P := fun w => w ≠ wThread ∧ w ≠ wInit) C hCh (kW [125]) (by decide) [endK]
  have k1' : (tThreads fuelP).runK (T.map kW ++ (C.map kW ++ kW [125] :: [endK])) = some (t.threads, C.map kW ++ kW [125] :: [endK]) := by
    rw [hcr]
    exact k1 c1 cr hc1.1
  obtain ⟨d1, dr, hdr, hd1⟩ := first_not (P := fun w => w ≠ wInit) T hTh c1 hc1.2 cr
  rw [← hcr] at hdr
  have kI : (tTake wInit tInits (.ret [])).runK (((if t.inits = [] then [] else [[105, 110, 105, 116], [123]] :: (t.inits.map initW ++ [[[125]]])).flatten).map kW ++ (T.map kW ++ (C.map kW ++ kW [125] :: [endK]))) = some (t.inits, T.map kW ++ (C.map kW ++ kW [125] :: [endK])) := by
    by_cases h0 : t.inits = []
    · rw [if_pos h0, h0]
      simp only [List.flatten_nil, List.map_nil, List.nil_append]
      rw [hdr, take_no _ _ _ _ hd1]
      rfl
    · rw [if_neg h0]
      have e : (([[105, 110, 105, 116], [123]] :: (t.inits.map initW ++ [[[125]]])).flatten).map kW ++ (T.map kW ++ (C.map kW ++ kW [125] :: [endK])) = kW wInit :: kW [123] :: ((t.inits.flatMap initW).map kW ++ kW [125] :: (T.map kW ++ (C.map kW ++ kW [125] :: [endK]))) := by
        simp [wInit, List.flatMap]
      obtain ⟨e1, er, her⟩ : ∃ v w, (t.inits.flatMap initW).map kW ++ kW [125] :: (T.map kW ++ (C.map kW ++ kW [125] :: [endK])) = v :: w := by
        cases hh : (t.inits.flatMap initW).map kW with
        | nil => exact ⟨_, _, rfl⟩
        | cons v vs => exact ⟨_, _, rfl⟩
      rw [e, take_K (.inr (by decide))]
      unfold tInits
      rw [her, PT.runK_bind, must_K (.inl (by decide))]
      simp only
      rw [← her, hdr, k3]
  generalize hI : (if t.inits = [] then [] else [[105, 110, 105, 116], [123]] :: (t.inits.map initW ++ [[[125]]])).flatten = I at kI
  obtain ⟨i1, ir, hir⟩ : ∃ v w, I.map kW ++ (T.map kW ++ (C.map kW ++ kW [125] :: [endK])) = v :: w := by
    rw [hdr]
    exact head_cons I d1 dr
  have e : (wordsT t).map kW ++ [endK] = kW wTest :: kW t.name :: kW [123] :: (I.map kW ++ (T.map kW ++ (C.map kW ++ kW [125] :: [endK]))) := by
    unfold wordsT testW
    rw [← hI, ← hT, ← hC]
    simp [wTest, List.flatMap, List.flatten_append, Function.comp_def]
    rw [List.flatten_flatten, List.map_map]
    rfl
  rw [e]
  unfold tTest
  rw [PT.runK_bind, must_K (.inr (by decide))]
  simp only
  rw [PT.runK_bind, name_K hn]
  simp only
  rw [hir, PT.runK_bind, must_K (.inl (by decide))]
  simp only
  rw [← hir, PT.runK_bind, kI]
  simp only
  rw [PT.runK_bind, k1']
  simp only
  rw [PT.runK_bind, k2]
  simp only
  rw [PT.runK_bind, must_K (.inl (by decide))]
  simp only [PT.runK, endK, if_true]
end Go.Proofs.YtpfbljkfbjjlkaaGreatDoor

/- A text of words with blanks between them is read as its words. -/
namespace Go.Proofs.YtpfbljkfbjjlkaaGreatDoor
open Go Go.Jq
set_option maxRecDepth 100000
set_option linter.unusedSimpArgs false
def GoodTk (w : List UInt8) : Prop := (∃ c r, w = c :: r ∧ blankB c = false ∧ c ≠ 35) ∧ ∀ a, tokAt a w = (⟨kdOf w, w, a⟩, a + w.length, 0)
def Blanks (z : List UInt8) : Prop := z.all blankB = true
def laceT : List (List UInt8 × List UInt8) → List UInt8
  | [] => []
  | p :: l => p.1 ++ p.2 ++ laceT l
def GoodLace (l : List (List UInt8 × List UInt8)) : Prop := ∀ p ∈ l, GoodTk p.1 ∧ p.2 ≠ [] ∧ Blanks p.2
theorem skipN_blanks : ∀ (z l : List UInt8), Blanks z → skipN false (z ++ l) = z.length + skipN false l
  | [], l, _ => by simp
  | c :: z, l, h => by
    unfold Blanks at h
    rw [List.all_cons, Bool.and_eq_true] at h
    rw [List.cons_append, skipN, if_pos h.1, skipN_blanks z l h.2, List.length_cons]
    omega
theorem kdOf_ne {w : List UInt8} : kdOf w ≠ 4 := by
  unfold kdOf
  split
  · decide
  · split
    · decide
    · split <;> decide
theorem tl_lace : ∀ (l : List (List UInt8 × List UInt8)) (pre z : List UInt8), GoodLace l → Blanks z → ∃ toks, TL (pre ++ z ++ laceT l) pre.length toks ∧ toks.map ktT = l.map (fun p => kW p.1) ++ [endK]
  | [], pre, z, _, hz => by
    have hd : (pre ++ z ++ laceT []).drop pre.length = z := by simp [laceT]
    have hs : skipA (pre ++ z ++ laceT []) pre.length = pre.length + z.length := by
      unfold skipA
      rw [hd]
      have := skipN_blanks z [] hz
      rw [List.append_nil] at this
      rw [this]; rfl
    have hn : nextW (pre ++ z ++ laceT []) pre.length = (⟨4, [], pre.length + z.length⟩, pre.length + z.length, 0) := by
      unfold nextW
      rw [hs, List.drop_of_length_le (by simp [laceT])]
      rfl
    exact ⟨[⟨4, [], pre.length + z.length⟩], ⟨_, hn, by rw [if_pos rfl]⟩, rfl⟩
  | p :: l, pre, z, hg, hz => by
    obtain ⟨w, y⟩ := p
    obtain ⟨⟨⟨c, r, hw, hc, h35⟩, ht⟩, hy, hyb⟩ := hg _ List.mem_cons_self
    simp only at hw ht hy hyb
    obtain ⟨toks, h1, h2⟩ := tl_lace l (pre ++ z ++ w) y (fun q hq => hg q (List.mem_cons_of_mem _ hq)) hyb
    obtain ⟨x, y', rfl⟩ := List.exists_cons_of_ne_nil hy
    have hx : blankB x = true := by
      simp only [Blanks, List.all_cons, Bool.and_eq_true] at hyb
      exact hyb.1
    have hd : (pre ++ z ++ laceT ((w, x :: y') :: l)).drop pre.length = z ++ (w ++ x :: (y' ++ laceT l)) := by simp [laceT]
    have hsk : skipN false (w ++ x :: (y' ++ laceT l)) = 0 := by
      rw [hw, List.cons_append, skipN, if_neg (by rw [hc]; decide), if_neg h35]
    have hs : skipA (pre ++ z ++ laceT ((w, x :: y') :: l)) pre.length = pre.length + z.length := by
      unfold skipA
      rw [hd, skipN_blanks z _ hz, hsk]
      rfl
    have hn : nextW (pre ++ z ++ laceT ((w, x :: y') :: l)) pre.length = (⟨kdOf w, w, pre.length + z.length⟩, pre.length + z.length + w.length, 0) := by
      unfold nextW
      have hd2 : (pre ++ z ++ laceT ((w, x :: y') :: l)).drop (pre.length + z.length) = w ++ x :: (y' ++ laceT l) := by
        rw [← List.drop_drop, hd, List.drop_left]
      rw [hs, hd2]
      have := tokAt_cut hx (pre.length + z.length) (l := w) (m := w.length) (by rw [hw]; simp) (Nat.le_refl _) (.inl rfl) (y' ++ laceT l)
      rw [List.take_length] at this
      rw [this, ht]
    refine ⟨⟨kdOf w, w, pre.length + z.length⟩ :: toks, ⟨_, hn, ?_⟩, ?_⟩
    · rw [if_neg kdOf_ne]
      have e1 : pre ++ z ++ w ++ (x :: y') ++ laceT l = pre ++ z ++ laceT ((w, x :: y') :: l) := by simp [laceT]
      have e2 : (pre ++ z ++ w).length = pre.length + z.length + w.length := by simp only [List.length_append]
      rw [← e1, ← e2]
      exact h1
    · rw [List.map_cons, h2]
      rfl
theorem lace_reads {t : Test} (h : FitT t) {l : List (List UInt8 × List UInt8)} (hg : GoodLace l) (hl : l.map (·.1) = wordsT t) (hlen : (laceT l).length ≤ 4000) : pTest (laceT l) = .ok t := by
  obtain ⟨toks, h1, h2⟩ := tl_lace l [] [] hg rfl
  simp only [List.nil_append, List.length_nil] at h1
  have hk := test_K h
  have e : l.map (fun p => kW p.1) = (wordsT t).map kW := by rw [← hl, List.map_map]; rfl
  rw [e] at h2
  rw [← h2] at hk
  obtain ⟨b, l', hr, _⟩ := tTest.run_of_runK (Nat.zero_le _) h1 hk
  have hgo : goW (laceT l) 0 = .ok 0 := by
    cases toks with
    | nil => cases h1
    | cons d r =>
      obtain ⟨e, he, _⟩ := h1
      unfold goW
      rw [he]; rfl
  unfold pTest
  rw [if_neg (by omega), hgo]
  simp only [hr]
theorem tk_word {c : UInt8} {r : List UInt8} (hc : letB c = true) (hr : r.all alnB = true) : GoodTk (c :: r) := by
  refine ⟨⟨c, r, rfl, ?_, ?_⟩, fun a => ?_⟩
  · cases hb : blankB c with
    | false => rfl
    | true =>
      have := (blank_nots hb).1
      simp [alnB, hc] at this
  · rintro rfl
    revert hc
    decide
  · have h1 := runL_all r hr
    have hk : kdOf (c :: r) = 1 := by simp only [kdOf]; rw [if_pos hc]
    rw [tokAt, if_pos hc, h1, List.take_length, hk]
    simp only [List.length_cons]
    rw [Nat.add_comm 1]
theorem tk_num {n : Int} (h : I64 n) : GoodTk (Lib.itoa n) := by
  obtain ⟨c, r, h1, h2, h3⟩ := itoa_form n
  refine ⟨⟨c, r, h1, ?_, ?_⟩, fun a => ?_⟩
  · rcases h3 with h3 | ⟨rfl, _⟩
    · cases hb : blankB c with
      | false => rfl
      | true => rw [(blank_nots hb).2.1] at h3; cases h3
    · rfl
  · rintro rfl
    rcases h3 with h3 | ⟨h3, _⟩
    · revert h3; decide
    · revert h3; decide
  · have := num_tok a n [] rfl
    rw [List.append_nil] at this
    rw [this, parseW_itoa h, if_pos rfl, kd_num]
theorem tk_const {w : List UInt8} (h : w ∈ ([[123], [125], [59], [58], [61], [43], [45], [42], [38], [124], [94], [60, 60], [62, 62], [61, 61], [33, 61], [60]] : List (List UInt8))) : GoodTk w := by
  simp only [List.mem_cons, List.not_mem_nil, or_false] at h
  rcases h with rfl | rfl | rfl | rfl | rfl | rfl | rfl | rfl | rfl | rfl | rfl | rfl | rfl | rfl | rfl | rfl
  all_goals exact ⟨⟨_, _, rfl, rfl, by decide⟩, fun a => rfl⟩
end Go.Proofs.YtpfbljkfbjjlkaaGreatDoor
