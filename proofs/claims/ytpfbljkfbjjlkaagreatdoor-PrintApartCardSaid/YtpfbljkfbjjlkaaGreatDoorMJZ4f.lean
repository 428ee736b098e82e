/- What the statement's proof leans on, part 6: the layer, the walks, the plain laws. -/
import Derived.Test.YtpfbljkfbjjlkaaGreatDoorMJZ4e
import Derived.Test.YtpfbljkfbjjlkaaGreatDoorMJZ4c
import Derived.Test.YtpfbljkfbjjlkaaGreatDoorMJZ4d
set_option linter.unusedSimpArgs false
set_option linter.unusedVariables false

/- A condition's text, told without a heap. -/
namespace Go.Proofs.YtpfbljkfbjjlkaaGreatDoor
open Go Go.Jq
set_option maxRecDepth 100000
set_option linter.unusedSimpArgs false
def strs (l : List (List UInt8)) : List AV := (l.map DV.str).map AV.d
@[simp] theorem strs_length (l : List (List UInt8)) : (strs l).length = l.length := by simp [strs]
@[simp] theorem renL_strs (π : Nat → Option Nat) (l : List (List UInt8)) : renL π (strs l) = strs l := renL_d π _
theorem strs_append (l l' : List (List UInt8)) : strs (l ++ l') = strs l ++ strs l' := by simp [strs]
theorem strs_one (s : List UInt8) : strs [s] = [.d (.str s)] := rfl
def cdS (kind : Int) (A X : DV) (n len i k : Nat) (Rs As : List (List UInt8)) : St :=
  ⟨[(28, .d (.int .i64 k)), (26, .d X), (27, .d (.int .i64 len)), (6, .sl 2 1 0 As.length), (22, .d (.int .i64 i)), (20, .d A), (21, .d (.int .i64 n)), (3, .sl 1 1 0 Rs.length), (1, .ptr 0 0)],
    [(0, [.d (.int .i64 kind), .d A]), (1, strs Rs), (2, strs As)], 3⟩
set_option maxHeartbeats 2000000 in
theorem cond_row {kind : Int} {A X : DV} {l : List Atom} (hX : IsSl Atom.cells l X) (h12 : l.length ≤ 4001) (ha : ∀ a ∈ l, I64a a) {n i : Nat} {Rs : List (List UInt8)} {Q : Exit → St → Prop}
    (hQ : Q (.exit 2) (cdS kind A X n l.length i l.length Rs (l.map atomT))) : BWP Tryz.prog (mbound []) 70 (.loop ac62L0) (cdS kind A X n l.length i 0 Rs []) Q := by
  refine bwp_count (fun k => cdS kind A X n l.length i k Rs ((l.take k).map atomT)) l.length ?_
  intro k hk
  have hlen : ((l.take k).map atomT).length = k := by simp; omega
  unfold ac62L0 cdS
  rw [hlen]
  generalize hAs : (l.take k).map atomT = As at hlen
  have hsl : (strs As).length = k := by rw [strs_length, hlen]
  by_cases hlt : k < l.length
  · have hlt' : (k : Int) < l.length := by omega
    obtain ⟨cs, rest, hXe, hdrop, hcs⟩ := hX.at atom_len (by omega) k hlt
    obtain ⟨a1, a2, a3⟩ := ha l[k] (List.getElem_mem hlt)
    generalize hael : l[k] = a at hcs hdrop a1 a2 a3
    have hnx : (l.take (k + 1)).map atomT = As ++ [atomT a] := by
      rw [← hAs, List.take_succ_eq_append_getElem hlt, List.map_append, hael]; rfl
    have l1 := itoa_len a1
    have l2 := regT_len a2
    have l3 := itoa_len a3
    have l4 : (locT a.loc).length ≤ 4 := utf8_len _
    refine bwp_seq fun K hK => bwp_region rfl ?_
    simp only [go_sem, ↓reduceIte, hlt']
    refine hK _ ?_; clear hK
    refine bwp_seq fun K1 hK1 => ?_
    refine bwp_cond true (by simp [ev, fget]) (fun _ => ?_) (fun h => nomatch h)
    refine bwp_skip ?_
    refine hK1 _ ?_; clear hK1
    refine bwp_seq fun K1 hK1 => ?_
    refine bwp_block ?_
    refine bwp_seq fun K hK => bwp_region rfl ?_
    simp only [go_sem, ↓reduceIte, hXe, hlt', Int.natCast_nonneg, Int.toNat_natCast, hcs, hdrop, Atom.cells]
    refine hK _ ?_; clear hK
    refine bwp_seq fun K hK => bwp_region rfl ?_
    simp only [go_sem, ↓reduceIte]
    refine callK_pure (loc_pure a.loc) rfl rfl ?_
    simp only [go_sem, ↓reduceIte]
    refine hK _ ?_; clear hK
    refine bwp_seq fun K2 hK2 => ?_
    have fin : ∀ (S : St) (s : List UInt8), s.length ≤ 44 → atomT a = s ++ [32, 61, 32] ++ Lib.itoa a.value →
        Leads (mbound []) 70 S ⟨[(9, .d (.str s)), (8, .ptr 3 0), (28, .d (.int .i64 k)), (26, .d X), (27, .d (.int .i64 l.length)), (6, .sl 2 1 0 k), (22, .d (.int .i64 i)), (20, .d A), (21, .d (.int .i64 n)), (3, .sl 1 1 0 Rs.length), (1, .ptr 0 0)],
          [(0, [.d (.int .i64 kind), .d A]), (1, strs Rs), (2, strs As), (3, (Atom.cells a).map .d)], 4⟩ → K2 S := by
      intro S s hs hat hS
      refine hK2 _ ?_; clear hK2
      refine bwp_leads hS ?_
      refine bwp_region rfl ?_
      have b1 : s.length + 3 ≤ 9223372036854775807 := by omega
      have b2 : s.length + 3 + (Lib.itoa a.value).length ≤ 9223372036854775807 := by omega
      have b3 : (k + 1) * 16 ≤ 140737488351232 := by omega
      simp only [go_sem, ↓reduceIte, Atom.cells, List.map_cons, List.map_nil, b1]
      refine callK_pure (text_pure a3) rfl rfl ?_
      simp only [go_sem, ↓reduceIte, List.length_append, List.length_cons, List.length_nil, b1, b2, b3, hsl, Nat.mul_one, Nat.zero_add]
      refine hK1 _ ?_; clear hK1
      have hw : IntKind.i64.wrap ((k : Int) + 1) = ((k + 1 : Nat) : Int) := by rw [wrap_i64 (by omega) (by omega)]; rfl
      refine bwp_region rfl ?_
      simp only [go_sem, ↓reduceIte, hw]
      have hlen2 : (l.take (k + 1)).length = k + 1 := by simp; omega
      have hfe : strs ((l.take (k + 1)).map atomT) = strs As ++ [AV.d (.str (s ++ [32, 61, 32] ++ Lib.itoa a.value))] := by rw [hnx, strs_append, strs_one, hat]
      rw [hlen2, hfe]
      exact ⟨hlt, (Leads.ent [(0, 0), (1, 1), (5, 2)] ⟨by simp [entT, fget, AV.ren, renL, pget, hXe], by simp [entM, pinv, mget, mset, renL, AV.ren, pget, renL_append, -List.map_map, hXe], rfl, rfl⟩)⟩
    by_cases hth : a.thread = -1
    · refine bwp_seq fun K hK => bwp_region rfl ?_
      simp only [go_sem, ↓reduceIte, Atom.cells, List.map_cons, List.map_nil, hth]
      refine hK _ ?_; clear hK
      refine bwp_cond false (by simp [ev, fget]) (fun h => nomatch h) (fun _ => ?_)
      refine bwp_skip ?_
      refine fin _ (locT a.loc) (by omega) (by simp [atomT, hth]) ?_
      exact Leads.ent [(0, 0), (1, 1), (2, 2), (3, 3)] ⟨by simp [entT, fget, AV.ren, renL, pget, hXe], by simp [entM, pinv, mget, mset, renL, AV.ren, pget, hth, Atom.cells], rfl, rfl⟩
    · refine bwp_seq fun K hK => bwp_region rfl ?_
      simp only [go_sem, ↓reduceIte, Atom.cells, List.map_cons, List.map_nil, hth]
      refine hK _ ?_; clear hK
      refine bwp_cond true (by simp [ev, fget, hth]) (fun _ => ?_) (fun h => nomatch h)
      have b1 : (Lib.itoa a.thread).length + 3 ≤ 9223372036854775807 := by omega
      have b2 : (Lib.itoa a.thread).length + 3 + (regT a.reg).length ≤ 9223372036854775807 := by omega
      refine bwp_region_draw rfl rfl ?_
      simp only [go_sem, ↓reduceIte]
      repeat' (first
        | (refine gateK_split (fun hb => ?_) (fun hb => ?_) <;> simp only [go_sem, ↓reduceIte, hb, List.length_append, List.length_cons, List.length_nil, Nat.zero_add, b1, b2])
        | (refine dGateK_split (fun hb => ?_) (fun hb => ?_) <;> simp only [go_sem, ↓reduceIte, hb, List.length_append, List.length_cons, List.length_nil, Nat.zero_add, b1, b2])
        | (refine callK_pure (text_pure a1) rfl rfl ?_; simp only [go_sem, ↓reduceIte, List.length_append, List.length_cons, List.length_nil, Nat.zero_add, b1, b2])
        | (refine dCallK_pure (text_pure a1) rfl rfl ?_; simp only [go_sem, ↓reduceIte, List.length_append, List.length_cons, List.length_nil, Nat.zero_add, b1, b2])
        | (refine callK_pure (reg_pure a2) rfl rfl ?_; simp only [go_sem, ↓reduceIte, List.length_append, List.length_cons, List.length_nil, Nat.zero_add, b1, b2])
        | (refine dCallK_pure (reg_pure a2) rfl rfl ?_; simp only [go_sem, ↓reduceIte, List.length_append, List.length_cons, List.length_nil, Nat.zero_add, b1, b2])
        | (rw [if_pos (by (try simp only [List.length_append, List.length_cons, List.length_nil, List.length_map]); omega)]; simp only [go_sem, ↓reduceIte, List.length_append, List.length_cons, List.length_nil, Nat.zero_add, b1, b2]))
      refine ⟨rfl, ?_⟩
      refine fin _ (Lib.itoa a.thread ++ [32, 58, 32] ++ regT a.reg) (by simp; omega) (by simp [atomT, hth]) ?_
      exact Leads.ent [(0, 0), (1, 1), (2, 2), (3, 3)] ⟨by simp [entT, fget, AV.ren, renL, pget, hXe], by simp [entM, pinv, mget, mset, renL, AV.ren, pget, Atom.cells], rfl, rfl⟩
  · have hlt' : ¬ (k : Int) < l.length := by omega
    have hin : k = l.length := by omega
    subst hin
    refine bwp_seq fun K hK => bwp_region rfl ?_
    simp only [go_sem, ↓reduceIte, hlt']
    refine hK _ ?_; clear hK
    refine bwp_seq fun K1 hK1 => ?_
    refine bwp_cond false (by simp [ev, fget]) (fun h => nomatch h) (fun _ => ?_)
    refine bwp_leads (S' := cdS kind A X n l.length i l.length Rs (l.map atomT)) (Leads.ent [(0, 0), (1, 1), (2, 2)] ⟨by simp [entT, fget, AV.ren, renL, pget, cdS, ← hAs], by simp [entM, pinv, mget, mset, renL, AV.ren, pget, renL_append, -List.map_map, cdS, ← hAs], rfl, rfl⟩) ?_
    exact bwp_exit hQ
def cdR (kind : Int) (A : DV) (n i : Nat) (Rs : List (List UInt8)) : St :=
  ⟨[(22, .d (.int .i64 i)), (20, .d A), (21, .d (.int .i64 n)), (3, .sl 1 1 0 Rs.length), (1, .ptr 0 0)], [(0, [.d (.int .i64 kind), .d A]), (1, strs Rs)], 2⟩
set_option maxHeartbeats 2000000 in
theorem cond_rows {kind : Int} {A : DV} {rows : List (List Atom)} (hA : IsSl2 Atom.cells rows A) (hf : FewC3 rows) {Q : Exit → St → Prop}
    (hQ : Q (.exit 0) (cdR kind A rows.length rows.length (rows.map rowT))) : BWP Tryz.prog (mbound []) 70 (.loop ac62L1) (cdR kind A rows.length 0 []) Q := by
  refine bwp_count (fun i => cdR kind A rows.length i ((rows.take i).map rowT)) rows.length ?_
  intro i hi
  have h12 := hf.1
  have hlen : ((rows.take i).map rowT).length = i := by simp; omega
  unfold ac62L1 cdR
  rw [hlen]
  generalize hRs : (rows.take i).map rowT = Rs at hlen
  have hsl : (strs Rs).length = i := by rw [strs_length, hlen]
  by_cases hlt : i < rows.length
  · have hlt' : (i : Int) < rows.length := by omega
    obtain ⟨cs2, d, rest2, hTe, hd, hjc, hD⟩ := hA.at i hlt
    have hrow := hf.2 rows[i] (List.getElem_mem hlt)
    have hrl := rowT_len3 hrow
    generalize hael : rows[i] = l at hD hrow hrl
    have hnx : (rows.take (i + 1)).map rowT = Rs ++ [rowT l] := by
      rw [← hRs, List.take_succ_eq_append_getElem hlt, List.map_append, hael]; rfl
    have hlen2 : (rows.take (i + 1)).length = i + 1 := by simp; omega
    refine bwp_seq fun K hK => bwp_region rfl ?_
    simp only [go_sem, ↓reduceIte, hlt']
    refine hK _ ?_; clear hK
    refine bwp_seq fun K1 hK1 => ?_
    refine bwp_cond true (by simp [ev, fget]) (fun _ => ?_) (fun h => nomatch h)
    refine bwp_skip ?_
    refine hK1 _ ?_; clear hK1
    refine bwp_seq fun K1 hK1 => ?_
    refine bwp_block ?_
    refine bwp_seq fun K hK => bwp_region rfl ?_
    simp only [go_sem, ↓reduceIte, hTe, hlt', Int.natCast_nonneg, Int.toNat_natCast, hd, hjc]
    refine hK _ ?_; clear hK
    refine bwp_seq fun K hK => bwp_region rfl ?_
    simp only [go_sem, ↓reduceIte]
    refine hK _ ?_; clear hK
    refine bwp_seq fun K2 hK2 => ?_
    refine bwp_seq fun K hK => bwp_region rfl ?_
    simp only [go_sem, ↓reduceIte, hD.len]
    refine hK _ ?_; clear hK
    refine bwp_block ?_
    refine bwp_leads (Leads.nil 6 1 rfl rfl) ?_
    refine bwp_leads (S' := cdS kind A d rows.length l.length i 0 Rs []) (Leads.ent [(0, 0), (1, 1), (2, 2)] ⟨by simp [entT, fget, AV.ren, renL, pget, cdS, strs, mset, hTe, hlen], by simp [entM, pinv, mget, mset, renL, AV.ren, pget, renL_append, -List.map_map, cdS, strs, mset, hTe, hlen], rfl, rfl⟩) ?_
    refine cond_row hD hrow.1 hrow.2 ?_
    simp only [go_sem, ↓reduceIte]
    refine hK2 _ ?_; clear hK2
    have hstr : IsStrs (l.map atomT) (.sl l.length ((l.map atomT).map DV.str)) := ⟨by simp; omega, .inr (by rw [flatMap_one]; simp)⟩
    have b3 : (i + 1) * 16 ≤ 140737488351232 := by omega
    unfold cdS
    refine bwp_region rfl ?_
    simp only [go_sem, ↓reduceIte]
    refine callK_lend [(2, (l.map atomT).map DV.str)] _ (join_pure hstr [32, 38, 32] (by simp; omega) (by show (rowT l).length ≤ _; omega)) ?_ ?_ (fun v h => by subst h; rfl) ?_
    · simp [zokFrom, mget, mset, mdel, cvL, strs, cvL_d, -List.map_map]
    · have htk : (((l.map atomT).map DV.str).take l.length) = (l.map atomT).map DV.str := List.take_of_length_le (by simp)
      simp only [cvL, AV.cv, zget, if_true, Nat.mul_one, Nat.zero_add, List.drop_zero, List.length_map]
      rw [htk]
    rintro v rfl
    simp only [go_sem, ↓reduceIte, hsl, hlen, Nat.mul_one, Nat.zero_add, b3]
    refine hK1 _ ?_; clear hK1
    have hw : IntKind.i64.wrap ((i : Int) + 1) = ((i + 1 : Nat) : Int) := by rw [wrap_i64 (by omega) (by omega)]; rfl
    refine bwp_region rfl ?_
    simp only [go_sem, ↓reduceIte, hw]
    have hfe : strs ((rows.take (i + 1)).map rowT) = strs Rs ++ [AV.d (.str (Lib.join (l.map atomT) [32, 38, 32]))] := by rw [hnx, strs_append, strs_one]; rfl
    rw [hlen2, hfe]
    exact ⟨hlt, (Leads.ent [(0, 0), (4, 1)] ⟨by simp [entT, fget, AV.ren, renL, pget, hTe], by simp [entM, pinv, mget, mset, renL, AV.ren, pget, renL_append, -List.map_map, hTe], rfl, rfl⟩)⟩
  · have hlt' : ¬ (i : Int) < rows.length := by omega
    have hin : i = rows.length := by omega
    subst hin
    refine bwp_seq fun K hK => bwp_region rfl ?_
    simp only [go_sem, ↓reduceIte, hlt']
    refine hK _ ?_; clear hK
    refine bwp_seq fun K1 hK1 => ?_
    refine bwp_cond false (by simp [ev, fget]) (fun h => nomatch h) (fun _ => ?_)
    refine bwp_leads (S' := cdR kind A rows.length rows.length (rows.map rowT)) (Leads.ent [(0, 0), (1, 1)] ⟨by simp [entT, fget, AV.ren, renL, pget, cdR, ← hRs], by simp [entM, pinv, mget, mset, renL, AV.ren, pget, renL_append, -List.map_map, cdR, ← hRs], rfl, rfl⟩) ?_
    exact bwp_exit hQ
set_option maxHeartbeats 2000000 in
theorem cond3_pure {kind : Int} {A : DV} {rows : List (List Atom)} (hA : IsSl2 Atom.cells rows A) (hf : FewC3 rows) : Pure Tryz.prog 62 [.agg [.d (.int .i64 kind), .d A]] (.d (.str (condT kind rows))) := by
  have hok := okCond_pure hA kind
  have hln := hA.len
  have hrl := rowsT_len3 hf
  have h12 := hf.1
  refine acalls_of Tryz.func62 ac62_ok Tryz.ntmps62 Tryz.results62 rfl ?_
  unfold ac62
  refine bwp_seq fun K hK => bwp_region rfl ?_
  simp only [go_sem, ↓reduceIte]
  refine hK _ ?_; clear hK
  refine bwp_seq fun K1 hK1 => ?_
  have early : ∀ S : St, condT kind rows = [] → (∀ h : Unit, fget S.t 18 = .d (.bool true)) → decide (mbound [] ≤ S.n) = true → BWP Tryz.prog (mbound []) 70 ((ACode.region false [⟨some 2, .mv (.c (.d (.str []))), none⟩] []).seq ACode.ret) S (Exit.thenA K1 (AEnd Tryz.prog #[.tmp 2] (mbound []) fun r m' => r = .d (.str (condT kind rows)) ∧ m' = [])) := by
    intro S h0 _ hn
    rw [h0]
    refine bwp_seq fun K hK => bwp_region hn ?_
    simp only [go_sem, ↓reduceIte]
    refine hK _ ?_; clear hK
    refine bwp_ret ?_
    simp only [go_sem]
    refine aend_ret _ rfl rfl ⟨?_, rfl⟩
    simp [fget]
  by_cases h0 : kind = 0
  · refine bwp_seq fun K hK => bwp_region rfl ?_
    simp only [go_sem, ↓reduceIte, h0]
    refine hK _ ?_; clear hK
    refine bwp_cond true (by simp [ev, fget]) (fun _ => ?_) (fun h => nomatch h)
    exact early _ (by simp [condT, h0]) (fun _ => by simp [fget]) rfl
  · refine bwp_seq fun K hK => bwp_region rfl ?_
    simp only [go_sem, ↓reduceIte, h0]
    refine callK_pure hok rfl rfl ?_
    simp only [go_sem, ↓reduceIte]
    cases hc : okCondB kind rows with
    | false =>
      refine hK _ ?_; clear hK
      refine bwp_cond true (by simp [ev, fget, hc]) (fun _ => ?_) (fun h => nomatch h)
      exact early _ (by simp [condT, hc]) (fun _ => by simp [fget]) rfl
    | true =>
      refine hK _ ?_; clear hK
      refine bwp_cond false (by simp [ev, fget, hc]) (fun h => nomatch h) (fun _ => ?_)
      refine bwp_skip ?_
      refine hK1 _ ?_; clear hK1
      have hct : condT kind rows = wordT kind ++ Lib.join (rows.map rowT) [32, 124, 32] ++ [32, 59] := by simp [condT, h0, hc]
      refine bwp_seq fun K hK => bwp_region rfl ?_
      simp only [go_sem, ↓reduceIte]
      refine hK _ ?_; clear hK
      refine bwp_seq fun K2 hK2 => ?_
      refine bwp_seq fun K hK => bwp_region rfl ?_
      simp only [go_sem, ↓reduceIte, hln]
      refine hK _ ?_; clear hK
      refine bwp_block ?_
      refine bwp_leads (Leads.nil 3 1 rfl rfl) ?_
      refine bwp_leads (S' := cdR kind A rows.length 0 []) (Leads.ent [(0, 0), (1, 1)] ⟨by simp [entT, fget, AV.ren, renL, pget, cdR, strs, mset], by simp [entM, pinv, mget, mset, renL, AV.ren, pget, renL_append, -List.map_map, cdR, strs, mset], rfl, rfl⟩) ?_
      refine cond_rows hA hf ?_
      simp only [go_sem, ↓reduceIte]
      refine hK2 _ ?_; clear hK2
      unfold cdR
      have hstr : IsStrs (rows.map rowT) (.sl rows.length ((rows.map rowT).map DV.str)) := ⟨by simp; omega, .inr (by rw [flatMap_one]; simp)⟩
      refine bwp_seq fun K hK => bwp_region rfl ?_
      simp only [go_sem, ↓reduceIte]
      refine hK _ ?_; clear hK
      refine bwp_seq fun K3 hK3 => ?_
      have b1 : 7 + (Lib.join (rows.map rowT) [32, 124, 32]).length ≤ 9223372036854775807 := by omega
      have b2 : 7 + (Lib.join (rows.map rowT) [32, 124, 32]).length + 2 ≤ 9223372036854775807 := by omega
      have wl : (wordT kind).length = 7 := by unfold wordT; split <;> rfl
      have fin : ∀ S : St, Leads (mbound []) 70 S ⟨[(10, .d (.str (wordT kind))), (3, .sl 1 1 0 rows.length)], [(1, strs (rows.map rowT))], 2⟩ → K3 S := by
        intro S hS
        refine hK3 _ ?_; clear hK3
        refine bwp_leads hS ?_
        refine bwp_seq fun K hK => bwp_region rfl ?_
        simp only [go_sem, ↓reduceIte]
        refine callK_lend [(1, (rows.map rowT).map DV.str)] _ (join_pure hstr [32, 124, 32] (by simp; omega) (by omega)) ?_ ?_ (fun v h => by subst h; rfl) ?_
        · simp [zokFrom, mget, mset, mdel, cvL, strs, cvL_d, -List.map_map]
        · have htk : (((rows.map rowT).map DV.str).take rows.length) = (rows.map rowT).map DV.str := List.take_of_length_le (by simp)
          simp only [cvL, AV.cv, zget, if_true, Nat.mul_one, Nat.zero_add, List.drop_zero, List.length_map]
          rw [htk]
        rintro v rfl
        simp only [go_sem, ↓reduceIte, List.length_append, List.length_cons, List.length_nil, wl, b1, b2]
        refine hK _ ?_; clear hK
        refine bwp_ret ?_
        simp only [go_sem]
        refine aend_ret _ rfl rfl ⟨?_, rfl⟩
        simp [fget, hct]
      by_cases h2 : kind = 2
      · refine bwp_seq fun K hK => bwp_region rfl ?_
        simp only [go_sem, ↓reduceIte, h2]
        refine hK _ ?_; clear hK
        refine bwp_cond true (by simp [ev, fget, h2]) (fun _ => ?_) (fun h => nomatch h)
        refine bwp_region rfl ?_
        simp only [go_sem, ↓reduceIte]
        exact fin _ (Leads.ent [(1, 1)] ⟨by simp [entT, fget, AV.ren, renL, pget, wordT, h2], by simp [entM, pinv, mget, mset, mdel, renL, AV.ren, pget, renL_append, -List.map_map, wordT, h2], rfl, rfl⟩)
      · refine bwp_seq fun K hK => bwp_region rfl ?_
        simp only [go_sem, ↓reduceIte, h2]
        refine hK _ ?_; clear hK
        refine bwp_cond false (by simp [ev, fget, h2]) (fun h => nomatch h) (fun _ => ?_)
        refine bwp_skip ?_
        exact fin _ (Leads.ent [(1, 1)] ⟨by simp [entT, fget, AV.ren, renL, pget, wordT, h2], by simp [entM, pinv, mget, mset, mdel, renL, AV.ren, pget, renL_append, -List.map_map, wordT, h2], rfl, rfl⟩)
end Go.Proofs.YtpfbljkfbjjlkaaGreatDoor

/- A test's text: its loops. -/
namespace Go.Proofs.YtpfbljkfbjjlkaaGreatDoor
open Go Go.Jq
set_option maxRecDepth 100000
set_option linter.unusedSimpArgs false
def tsS (cs : List DV) (s : List UInt8) (ex : Fr) : St :=
  ⟨ex ++ [(1, .ptr 0 0), (3, .ptr 1 0), (4, .fn 58 [.ptr 1 0])], [(0, cs.map .d), (1, [.ptr 1 0, .slT 2 5 s.length]), (2, bytesAV s)], 3⟩
set_option maxHeartbeats 2000000 in
theorem ts_inits {cs : List DV} {l : List Init} {D : DV} (hD : IsSl Init.cells l D) (hv : ∀ x ∈ l, I64 x.value) (h41 : l.length ≤ 4001) {s : List UInt8} (hs : s.length ≤ 8000000000) {Q : Exit → St → Prop}
    (hQ : Q (.exit 0) (tsS cs (s ++ l.flatMap initL) [(31, .d (.int .i64 l.length)), (29, .d D), (30, .d (.int .i64 l.length))])) :
    BWP Tryz.prog (mbound []) 83 (.loop ac18L0) (tsS cs s [(31, .d (.int .i64 (0 : Nat))), (29, .d D), (30, .d (.int .i64 l.length))]) Q := by
  have e0 : s = s ++ (l.take 0).flatMap initL := by simp
  rw [e0]
  refine bwp_count (fun i => tsS cs (s ++ (l.take i).flatMap initL) [(31, .d (.int .i64 i)), (29, .d D), (30, .d (.int .i64 l.length))]) l.length ?_
  intro i hi
  have hbl : ((l.take i).flatMap initL).length ≤ 4001 * 30 := by
    have := flat_len initL 30 (l.take i) (fun x hx => initL_len (hv x (List.mem_of_mem_take hx)))
    have h2 : (l.take i).length * 30 ≤ 4001 * 30 := Nat.mul_le_mul_right _ (by simp; omega)
    omega
  generalize hX : s ++ (l.take i).flatMap initL = X
  have hXl : X.length ≤ 8100000000 := by rw [← hX]; simp only [List.length_append]; omega
  unfold ac18L0 tsS
  simp only [List.cons_append, List.nil_append]
  by_cases hlt : i < l.length
  · have hlt' : (i : Int) < l.length := by omega
    obtain ⟨cs', rest, hXe, hdrop, hcs⟩ := hD.at init_len (by omega) i hlt
    have hva := hv l[i] (List.getElem_mem hlt)
    have hnx : s ++ (l.take (i + 1)).flatMap initL = X ++ initL l[i] := by rw [flat_take initL hlt, ← hX, List.append_assoc]
    generalize l[i] = x at hcs hdrop hva hnx
    have l1 := itoa_len hva
    have l4 : (locT x.loc).length ≤ 4 := utf8_len _
    refine bwp_seq fun K hK => bwp_region rfl ?_
    simp only [go_sem, ↓reduceIte, hlt']
    refine hK _ ?_; clear hK
    refine bwp_seq fun K1 hK1 => ?_
    refine bwp_cond true (by simp [ev, fget]) (fun _ => ?_) (fun h => nomatch h)
    refine bwp_skip ?_
    refine hK1 _ ?_; clear hK1
    refine bwp_seq fun K1 hK1 => ?_
    refine bwp_block ?_
    refine bwp_seq fun K hK => bwp_region rfl ?_
    simp only [go_sem, ↓reduceIte, hXe, hlt', Int.natCast_nonneg, Int.toNat_natCast, hcs, hdrop, Init.cells]
    refine hK _ ?_; clear hK
    refine bwp_region_draw rfl rfl ?_
    have b1 : (locT x.loc).length + 3 ≤ 9223372036854775807 := by omega
    have b2 : (locT x.loc).length + 3 + (Lib.itoa x.value).length ≤ 9223372036854775807 := by omega
    have b3 : (locT x.loc).length + 3 + (Lib.itoa x.value).length + 2 ≤ 9223372036854775807 := by omega
    simp only [go_sem, ↓reduceIte]
    repeat' (first
      | (refine gateK_split (fun hb => ?_) (fun hb => ?_) <;> simp only [go_sem, ↓reduceIte, hb, List.length_append, List.length_cons, List.length_nil, Nat.zero_add, b1, b2, b3])
      | (refine dGateK_split (fun hb => ?_) (fun hb => ?_) <;> simp only [go_sem, ↓reduceIte, hb, List.length_append, List.length_cons, List.length_nil, Nat.zero_add, b1, b2, b3])
      | (refine callK_pure (loc_pure x.loc) rfl rfl ?_; simp only [go_sem, ↓reduceIte, List.length_append, List.length_cons, List.length_nil, Nat.zero_add, b1, b2, b3])
      | (refine dCallK_pure (loc_pure x.loc) rfl rfl ?_; simp only [go_sem, ↓reduceIte, List.length_append, List.length_cons, List.length_nil, Nat.zero_add, b1, b2, b3])
      | (refine callK_pure (text_pure hva) rfl rfl ?_; simp only [go_sem, ↓reduceIte, List.length_append, List.length_cons, List.length_nil, Nat.zero_add, b1, b2, b3])
      | (refine dCallK_pure (text_pure hva) rfl rfl ?_; simp only [go_sem, ↓reduceIte, List.length_append, List.length_cons, List.length_nil, Nat.zero_add, b1, b2, b3])
      | (rw [if_pos (by (try simp only [List.length_append, List.length_cons, List.length_nil, List.length_map]); omega)]; simp only [go_sem, ↓reduceIte, List.length_append, List.length_cons, List.length_nil, Nat.zero_add, b1, b2, b3]))
    refine ⟨rfl, ?_⟩
    refine line_used_dCallK (s := X) (i := 1) (j := 2) (by simp only [List.length_append, List.length_cons, List.length_nil]; omega) rfl rfl (by decide) ?_
    simp only [go_sem, ↓reduceIte]
    refine ⟨rfl, hK1 _ ?_⟩; clear hK1
    have hw : IntKind.i64.wrap ((i : Int) + 1) = ((i + 1 : Nat) : Int) := by rw [wrap_i64 (by omega) (by omega)]; rfl
    refine bwp_region rfl ?_
    simp only [go_sem, ↓reduceIte, hw]
    rw [hnx]
    exact ⟨hlt, (Leads.ent [(0, 0), (1, 1), (14, 2)] ⟨by simp [entT, fget, AV.ren, renL, pget, hXe, initL, bytesAV, renB, List.append_assoc], by simp [entM, pinv, mget, mset, renL, AV.ren, pget, renL_append, -List.map_map, hXe, initL, bytesAV, renB, List.append_assoc], rfl, rfl⟩)⟩
  · have hlt' : ¬ (i : Int) < l.length := by omega
    have hin : i = l.length := by omega
    subst hin
    refine bwp_seq fun K hK => bwp_region rfl ?_
    simp only [go_sem, ↓reduceIte, hlt']
    refine hK _ ?_; clear hK
    refine bwp_seq fun K1 hK1 => ?_
    refine bwp_cond false (by simp [ev, fget]) (fun h => nomatch h) (fun _ => ?_)
    rw [List.take_length] at hX
    refine bwp_leads (S' := tsS cs (s ++ l.flatMap initL) [(31, .d (.int .i64 l.length)), (29, .d D), (30, .d (.int .i64 l.length))]) (Leads.ent [(0, 0), (1, 1), (2, 2)] ⟨by simp [entT, fget, AV.ren, renL, pget, tsS, bytesAV, renB, hX], by simp [entM, pinv, mget, mset, renL, AV.ren, pget, renL_append, -List.map_map, tsS, bytesAV, renB, hX], rfl, rfl⟩) ?_
    exact bwp_exit hQ
set_option maxHeartbeats 2000000 in
theorem ts_thread {cs : List DV} {l : List Ins} {D T : DV} {n i : Int} (hD : IsSl Ins.cells l D) (hv : ∀ x ∈ l, I64i x) (h30 : l.length ≤ 4001) {s : List UInt8} (hs : s.length ≤ 8100000000) {Q : Exit → St → Prop}
    (hQ : Q (.exit 4) (tsS cs (s ++ l.flatMap insL) [(60, .d (.int .i64 l.length)), (58, .d D), (59, .d (.int .i64 l.length)), (52, .d (.int .i64 i)), (50, .d T), (51, .d (.int .i64 n))])) :
    BWP Tryz.prog (mbound []) 83 (.loop ac18L1) (tsS cs s [(60, .d (.int .i64 (0 : Nat))), (58, .d D), (59, .d (.int .i64 l.length)), (52, .d (.int .i64 i)), (50, .d T), (51, .d (.int .i64 n))]) Q := by
  have e0 : s = s ++ (l.take 0).flatMap insL := by simp
  rw [e0]
  refine bwp_count (fun k => tsS cs (s ++ (l.take k).flatMap insL) [(60, .d (.int .i64 k)), (58, .d D), (59, .d (.int .i64 l.length)), (52, .d (.int .i64 i)), (50, .d T), (51, .d (.int .i64 n))]) l.length ?_
  intro k hk
  have hbl : ((l.take k).flatMap insL).length ≤ 4001 * 155 := by
    have := flat_len insL 155 (l.take k) (fun x hx => insL_len (hv x (List.mem_of_mem_take hx)))
    have h2 : (l.take k).length * 155 ≤ 4001 * 155 := Nat.mul_le_mul_right _ (by simp; omega)
    omega
  generalize hX : s ++ (l.take k).flatMap insL = X
  have hXl : X.length ≤ 8200000000 := by rw [← hX]; simp only [List.length_append]; omega
  unfold ac18L1 tsS
  simp only [List.cons_append, List.nil_append]
  by_cases hlt : k < l.length
  · have hlt' : (k : Int) < l.length := by omega
    obtain ⟨cs', rest, hXe, hdrop, hcs⟩ := hD.at ins_len (by omega) k hlt
    have hva := hv l[k] (List.getElem_mem hlt)
    have hnx : s ++ (l.take (k + 1)).flatMap insL = X ++ insL l[k] := by rw [flat_take insL hlt, ← hX, List.append_assoc]
    generalize l[k] = x at hcs hdrop hva hnx
    have hil := insT_len hva
    have hip := ins_pure hva
    unfold Ins.cells at hip
    simp only [List.map_cons, List.map_nil] at hip
    refine bwp_seq fun K hK => bwp_region rfl ?_
    simp only [go_sem, ↓reduceIte, hlt']
    refine hK _ ?_; clear hK
    refine bwp_seq fun K1 hK1 => ?_
    refine bwp_cond true (by simp [ev, fget]) (fun _ => ?_) (fun h => nomatch h)
    refine bwp_skip ?_
    refine hK1 _ ?_; clear hK1
    refine bwp_seq fun K1 hK1 => ?_
    refine bwp_block ?_
    refine bwp_seq fun K hK => bwp_region rfl ?_
    simp only [go_sem, ↓reduceIte, hXe, hlt', Int.natCast_nonneg, Int.toNat_natCast, hcs, hdrop, Ins.cells]
    refine hK _ ?_; clear hK
    refine bwp_region rfl ?_
    simp only [go_sem, ↓reduceIte]
    refine callK_pure hip rfl rfl ?_
    simp only [go_sem, ↓reduceIte]
    refine ⟨rfl, ?_⟩
    refine line_used_callK (s := X) (i := 1) (j := 2) (by omega) rfl rfl (by decide) ?_
    simp only [go_sem, ↓reduceIte]
    refine hK1 _ ?_; clear hK1
    have hw : IntKind.i64.wrap ((k : Int) + 1) = ((k + 1 : Nat) : Int) := by rw [wrap_i64 (by omega) (by omega)]; rfl
    refine bwp_region rfl ?_
    simp only [go_sem, ↓reduceIte, hw]
    rw [hnx]
    exact ⟨hlt, (Leads.ent [(0, 0), (1, 1), (6, 2)] ⟨by simp [entT, fget, AV.ren, renL, pget, hXe, insL, bytesAV, renB, List.append_assoc], by simp [entM, pinv, mget, mset, renL, AV.ren, pget, renL_append, -List.map_map, hXe, insL, bytesAV, renB, List.append_assoc], rfl, rfl⟩)⟩
  · have hlt' : ¬ (k : Int) < l.length := by omega
    have hin : k = l.length := by omega
    subst hin
    refine bwp_seq fun K hK => bwp_region rfl ?_
    simp only [go_sem, ↓reduceIte, hlt']
    refine hK _ ?_; clear hK
    refine bwp_seq fun K1 hK1 => ?_
    refine bwp_cond false (by simp [ev, fget]) (fun h => nomatch h) (fun _ => ?_)
    rw [List.take_length] at hX
    refine bwp_leads (S' := tsS cs (s ++ l.flatMap insL) [(60, .d (.int .i64 l.length)), (58, .d D), (59, .d (.int .i64 l.length)), (52, .d (.int .i64 i)), (50, .d T), (51, .d (.int .i64 n))]) (Leads.ent [(0, 0), (1, 1), (2, 2)] ⟨by simp [entT, fget, AV.ren, renL, pget, tsS, bytesAV, renB, hX], by simp [entM, pinv, mget, mset, renL, AV.ren, pget, renL_append, -List.map_map, tsS, bytesAV, renB, hX], rfl, rfl⟩) ?_
    exact bwp_exit hQ
end Go.Proofs.YtpfbljkfbjjlkaaGreatDoor

/- A test's text. -/
namespace Go.Proofs.YtpfbljkfbjjlkaaGreatDoor
open Go Go.Jq
set_option maxRecDepth 100000
set_option linter.unusedSimpArgs false
set_option maxHeartbeats 2000000 in
theorem ts_threads {cs : List DV} {ls : List (List Ins)} {T : DV} (hT : IsSl2 Ins.cells ls T) (hv : ∀ l ∈ ls, l.length ≤ 4001 ∧ ∀ x ∈ l, I64i x) (h7 : ls.length ≤ 4001) {s : List UInt8} (hs : s.length ≤ 4000000000) {Q : Exit → St → Prop}
    (hQ : Q (.exit 2) (tsS cs (s ++ ls.flatMap threadL) [(52, .d (.int .i64 ls.length)), (50, .d T), (51, .d (.int .i64 ls.length))])) :
    BWP Tryz.prog (mbound []) 83 (.loop ac18L2) (tsS cs s [(52, .d (.int .i64 (0 : Nat))), (50, .d T), (51, .d (.int .i64 ls.length))]) Q := by
  have e0 : s = s ++ (ls.take 0).flatMap threadL := by simp
  rw [e0]
  refine bwp_count (fun k => tsS cs (s ++ (ls.take k).flatMap threadL) [(52, .d (.int .i64 k)), (50, .d T), (51, .d (.int .i64 ls.length))]) ls.length ?_
  intro k hk
  have hbl : ((ls.take k).flatMap threadL).length ≤ 2520630000 := by
    have := flat_len threadL 630000 (ls.take k) (fun l hl => threadL_len3 (hv l (List.mem_of_mem_take hl)).1 (hv l (List.mem_of_mem_take hl)).2)
    have h2 : (ls.take k).length ≤ 4001 := by simp; omega
    omega
  generalize hX : s ++ (ls.take k).flatMap threadL = X
  have hXl : X.length ≤ 8000000000 := by rw [← hX]; simp only [List.length_append]; omega
  unfold ac18L2 tsS
  simp only [List.cons_append, List.nil_append]
  by_cases hlt : k < ls.length
  · have hlt' : (k : Int) < ls.length := by omega
    obtain ⟨cs', d, rest, hTe, hd, hjc, hD⟩ := hT.at k hlt
    have hva := hv ls[k] (List.getElem_mem hlt)
    have hnx : s ++ (ls.take (k + 1)).flatMap threadL = X ++ threadL ls[k] := by rw [flat_take threadL hlt, ← hX, List.append_assoc]
    generalize ls[k] = l at hD hva hnx
    refine bwp_seq fun K hK => bwp_region rfl ?_
    simp only [go_sem, ↓reduceIte, hlt']
    refine hK _ ?_; clear hK
    refine bwp_seq fun K1 hK1 => ?_
    refine bwp_cond true (by simp [ev, fget]) (fun _ => ?_) (fun h => nomatch h)
    refine bwp_skip ?_
    refine hK1 _ ?_; clear hK1
    refine bwp_seq fun K1 hK1 => ?_
    refine bwp_block ?_
    refine bwp_seq fun K hK => bwp_region rfl ?_
    simp only [go_sem, ↓reduceIte, hTe, hlt', Int.natCast_nonneg, Int.toNat_natCast, hd, hjc]
    refine hK _ ?_; clear hK
    refine bwp_seq fun K hK => bwp_region rfl ?_
    simp only [go_sem, ↓reduceIte]
    refine ⟨rfl, ?_⟩
    refine line_used_callK (s := X) (i := 1) (j := 2) (by simp only [List.length_cons, List.length_nil]; omega) rfl rfl (by decide) ?_
    simp only [go_sem, ↓reduceIte]
    refine hK _ ?_; clear hK
    refine bwp_seq fun K2 hK2 => ?_
    refine bwp_seq fun K hK => bwp_region rfl ?_
    simp only [go_sem, ↓reduceIte, hD.len]
    refine hK _ ?_; clear hK
    refine bwp_block ?_
    have hX2 : (X ++ ([116, 104, 114, 101, 97, 100, 32, 123] ++ [10])).length ≤ 8100000000 := by simp only [List.length_append, List.length_cons, List.length_nil]; omega
    refine bwp_leads (S' := tsS cs (X ++ ([116, 104, 114, 101, 97, 100, 32, 123] ++ [10])) [(60, .d (.int .i64 (0 : Nat))), (58, .d d), (59, .d (.int .i64 l.length)), (52, .d (.int .i64 k)), (50, .d T), (51, .d (.int .i64 ls.length))]) (Leads.ent [(0, 0), (1, 1), (5, 2)] ⟨by simp [entT, fget, AV.ren, renL, pget, tsS, bytesAV, renB, hTe], by simp [entM, pinv, mget, mset, renL, AV.ren, pget, renL_append, -List.map_map, tsS, bytesAV, renB, hTe], rfl, rfl⟩) ?_
    refine ts_thread hD hva.2 hva.1 hX2 ?_
    have h1 := flat_len insL 155 l (fun x hx => insL_len (hva.2 x hx))
    have h2 := hva.1
    generalize hY : (X ++ ([116, 104, 114, 101, 97, 100, 32, 123] ++ [10])) ++ l.flatMap insL = Y
    have hYl : Y.length ≤ 8200000000 := by rw [← hY, List.length_append]; omega
    unfold tsS
    simp only [List.cons_append, List.nil_append]
    simp only [go_sem, ↓reduceIte]
    refine hK2 _ ?_; clear hK2
    refine bwp_region rfl ?_
    simp only [go_sem, ↓reduceIte]
    refine ⟨rfl, ?_⟩
    refine line_used_callK (s := Y) (i := 1) (j := 2) (by simp only [List.length_cons, List.length_nil]; omega) rfl rfl (by decide) ?_
    simp only [go_sem, ↓reduceIte]
    refine hK1 _ ?_; clear hK1
    have hw : IntKind.i64.wrap ((k : Int) + 1) = ((k + 1 : Nat) : Int) := by rw [wrap_i64 (by omega) (by omega)]; rfl
    refine bwp_region rfl ?_
    simp only [go_sem, ↓reduceIte, hw]
    have hnx2 : s ++ (ls.take (k + 1)).flatMap threadL = Y ++ ([125] ++ [10]) := by rw [hnx, ← hY]; simp [threadL]
    rw [hnx2]
    exact ⟨hlt, (Leads.ent [(0, 0), (1, 1), (5, 2)] ⟨by simp [entT, fget, AV.ren, renL, pget, bytesAV, renB, List.append_assoc], by simp [entM, pinv, mget, mset, renL, AV.ren, pget, renL_append, -List.map_map, bytesAV, renB, List.append_assoc], rfl, rfl⟩)⟩
  · have hlt' : ¬ (k : Int) < ls.length := by omega
    have hin : k = ls.length := by omega
    subst hin
    refine bwp_seq fun K hK => bwp_region rfl ?_
    simp only [go_sem, ↓reduceIte, hlt']
    refine hK _ ?_; clear hK
    refine bwp_seq fun K1 hK1 => ?_
    refine bwp_cond false (by simp [ev, fget]) (fun h => nomatch h) (fun _ => ?_)
    rw [List.take_length] at hX
    refine bwp_leads (S' := tsS cs (s ++ ls.flatMap threadL) [(52, .d (.int .i64 ls.length)), (50, .d T), (51, .d (.int .i64 ls.length))]) (Leads.ent [(0, 0), (1, 1), (2, 2)] ⟨by simp [entT, fget, AV.ren, renL, pget, tsS, bytesAV, renB, hX], by simp [entM, pinv, mget, mset, renL, AV.ren, pget, renL_append, -List.map_map, tsS, bytesAV, renB, hX], rfl, rfl⟩) ?_
    exact bwp_exit hQ
end Go.Proofs.YtpfbljkfbjjlkaaGreatDoor

/- print.Test's contract. -/
namespace Go.Proofs.YtpfbljkfbjjlkaaGreatDoor
open Go Go.Jq
set_option maxRecDepth 100000
set_option linter.unusedSimpArgs false
set_option maxHeartbeats 4000000 in
theorem test3_pure {t : Test} {cs : List DV} (hT : IsTest t cs) (hf : FewT3 t) : Pure Tryz.prog 18 [.agg (cs.map .d)] (.d (.str (testT t))) := by
  have hn := hf.name
  have hok := ok_pure hT (by omega)
  obtain ⟨I, T, A, rfl, hI, hTh, hA⟩ := hT
  simp only [List.map_cons, List.map_nil] at hok ⊢
  refine acalls_of Tryz.func18 ac18_ok Tryz.ntmps18 Tryz.results18 rfl ?_
  unfold ac18
  refine bwp_seq fun K hK => bwp_region rfl ?_
  simp only [go_sem, ↓reduceIte]
  refine hK _ ?_; clear hK
  refine bwp_seq fun K1 hK1 => ?_
  refine bwp_seq fun K hK => bwp_region rfl ?_
  simp only [go_sem, ↓reduceIte]
  refine callK_pure hok rfl rfl ?_
  cases hokb : okB t with
  | false =>
    simp only [go_sem, ↓reduceIte]
    refine hK _ ?_; clear hK
    refine bwp_cond true (by simp [ev, fget]) (fun _ => ?_) (fun h => nomatch h)
    refine bwp_seq fun K hK => bwp_region rfl ?_
    simp only [go_sem, ↓reduceIte]
    refine hK _ ?_; clear hK
    refine bwp_ret ?_
    simp only [go_sem]
    refine aend_ret _ rfl rfl ⟨?_, rfl⟩
    simp [fget, testT, hokb]
  | true =>
    simp only [go_sem, ↓reduceIte]
    refine hK _ ?_; clear hK
    refine bwp_cond false (by simp [ev, fget]) (fun h => nomatch h) (fun _ => ?_)
    refine bwp_skip ?_
    refine hK1 _ ?_; clear hK1
    refine bwp_seq fun K hK => bwp_region rfl ?_
    simp only [go_sem, ↓reduceIte]
    refine hK _ ?_; clear hK
    refine bwp_seq fun K hK => bwp_region rfl ?_
    simp only [go_sem, ↓reduceIte]
    refine hK _ ?_; clear hK
    refine bwp_leads (Leads.nilCellT 1 1 5 rfl rfl rfl rfl) ?_
    have b1 : 5 + t.name.length ≤ 9223372036854775807 := by omega
    have b2 : 5 + t.name.length + 2 ≤ 9223372036854775807 := by omega
    have b3 : t.name.length ≤ 9223372036854775800 := by omega
    refine bwp_seq fun K hK => bwp_region rfl ?_
    simp only [go_sem, ↓reduceIte, List.length_append, List.length_cons, List.length_nil, Nat.zero_add, b1, b2, b3]
    refine ⟨rfl, ?_⟩
    refine line_fresh_callK (i := 1) (j := 2) (by simp only [List.length_append, List.length_cons, List.length_nil]; omega) rfl rfl (by decide) ?_
    simp only [go_sem, ↓reduceIte]
    refine hK _ ?_; clear hK
    have hh : (headL t).length ≤ 5000 := by simp only [headL, List.length_append, List.length_cons, List.length_nil]; omega
    refine bwp_leads (S' := tsS [.str t.name, I, T, .int .i64 t.kind, A] (headL t) []) (Leads.ent [(0, 0), (1, 1), (5, 2)] ⟨by simp [entT, fget, AV.ren, renL, pget, tsS, bytesAV, renB, headL], by simp [entM, pinv, mget, mset, renL, AV.ren, pget, renL_append, -List.map_map, tsS, bytesAV, renB, headL], rfl, rfl⟩) ?_
    have hil := initsL_len3 hf.inits hf.values
    refine bwp_seq fun K2 hK2 => ?_
    have fin2 : ∀ S : St, Leads (mbound []) 83 S (tsS [.str t.name, I, T, .int .i64 t.kind, A] (headL t ++ initsL t.inits) []) → K2 S := by
      intro S hS
      refine hK2 _ ?_; clear hK2
      refine bwp_leads hS ?_
      generalize hX : headL t ++ initsL t.inits = X
      have hXl : X.length ≤ 4000000000 := by
        rw [← hX, List.length_append]
        unfold initsL
        split
        · simp; omega
        · simp only [List.length_append, List.length_cons, List.length_nil]; omega
      unfold tsS
      simp only [List.nil_append, List.map_cons, List.map_nil]
      refine bwp_seq fun K3 hK3 => ?_
      refine bwp_seq fun K hK => bwp_region rfl ?_
      simp only [go_sem, ↓reduceIte, hTh.len]
      refine hK _ ?_; clear hK
      refine bwp_block ?_
      refine bwp_leads (S' := tsS [.str t.name, I, T, .int .i64 t.kind, A] X [(52, .d (.int .i64 (0 : Nat))), (50, .d T), (51, .d (.int .i64 t.threads.length))]) (Leads.ent [(0, 0), (1, 1), (2, 2)] ⟨by simp [entT, fget, AV.ren, renL, pget, tsS, bytesAV, renB], by simp [entM, pinv, mget, mset, renL, AV.ren, pget, renL_append, -List.map_map, tsS, bytesAV, renB], rfl, rfl⟩) ?_
      refine ts_threads hTh hf.ins hf.threads hXl ?_
      have h1 := flat_len threadL 630000 t.threads (fun l hl => threadL_len3 (hf.ins l hl).1 (hf.ins l hl).2)
      have h2 := hf.threads
      generalize hY : X ++ t.threads.flatMap threadL = Y
      have hYl : Y.length ≤ 7000000000 := by rw [← hY, List.length_append]; omega
      unfold tsS
      simp only [List.cons_append, List.nil_append, List.map_cons, List.map_nil]
      simp only [go_sem, ↓reduceIte]
      refine hK3 _ ?_; clear hK3
      refine bwp_seq fun K4 hK4 => ?_
      have hcl := condT_len3 (kind := t.kind) hf.rows
      have fin4 : ∀ S : St, Leads (mbound []) 83 S (tsS [.str t.name, I, T, .int .i64 t.kind, A] (Y ++ condL t) []) → K4 S := by
        intro S hS
        refine hK4 _ ?_; clear hK4
        refine bwp_leads hS ?_
        generalize hZ : Y ++ condL t = Z
        have hZl : Z.length ≤ 9000000000 := by
          rw [← hZ, List.length_append]
          unfold condL
          split
          · simp; omega
          · simp only [List.length_append, List.length_cons, List.length_nil]; omega
        unfold tsS
        simp only [List.nil_append, List.map_cons, List.map_nil]
        refine bwp_seq fun K hK => bwp_region rfl ?_
        simp only [go_sem, ↓reduceIte]
        refine ⟨rfl, ?_⟩
        refine line_used_callK (s := Z) (i := 1) (j := 2) (by simp only [List.length_cons, List.length_nil]; omega) rfl rfl (by decide) ?_
        simp only [go_sem, ↓reduceIte]
        refine hK _ ?_; clear hK
        have ht : testT t = Z ++ ([125] ++ [10]) := by rw [← hZ, ← hY, ← hX]; simp [testT, hokb]
        generalize hW : Z ++ ([125] ++ [10]) = W at ht
        have hWl : W.length ≤ 9000001000 := by rw [← hW]; simp only [List.length_append, List.length_cons, List.length_nil]; omega
        have hW0 : W ≠ [] := by rw [← hW]; simp
        refine bwp_leads (S' := tsS [.str t.name, I, T, .int .i64 t.kind, A] W []) (Leads.ent [(0, 0), (1, 1), (5, 2)] ⟨by simp [entT, fget, AV.ren, renL, pget, tsS, bytesAV, renB, ← hW], by simp [entM, pinv, mget, mset, renL, AV.ren, pget, renL_append, -List.map_map, tsS, bytesAV, renB, ← hW], rfl, rfl⟩) ?_
        unfold tsS
        simp only [List.nil_append, List.map_cons, List.map_nil]
        refine bwp_seq fun K hK => bwp_region rfl ?_
        simp only [go_sem, ↓reduceIte]
        refine callK_gen [(0, 1), (1, 2)] [.ptr 0 0] (bldM W) (nb := 3) (string_built hW0 (by omega)) (by simp [okRen]) (by simp [renL, AV.ren, pget]) (by simp [inL, inB, pget]) ?_ rfl ?_
        · simp [bldM, handed, pget, mget, renL, AV.ren, inL, inB, renB, bytesAV]
          exact inL_bytes _ W
        rintro r0 m' ⟨rfl, rfl⟩
        simp only [go_sem, ↓reduceIte, AV.ren]
        refine hK _ ?_; clear hK
        refine bwp_ret ?_
        simp only [go_sem]
        refine aend_ret _ rfl rfl ⟨?_, rfl⟩
        simp [fget, ht]
      have hcp := cond3_pure (kind := t.kind) hA hf.rows
      refine bwp_seq fun K hK => bwp_region rfl ?_
      simp only [go_sem, ↓reduceIte]
      refine callK_pure hcp rfl rfl ?_
      simp only [go_sem, ↓reduceIte]
      refine hK _ ?_; clear hK
      by_cases hc : condT t.kind t.rows = []
      · refine bwp_seq fun K hK => bwp_region rfl ?_
        simp only [go_sem, ↓reduceIte, hc]
        refine hK _ ?_; clear hK
        refine bwp_cond false (by simp [ev, fget, hc]) (fun h => nomatch h) (fun _ => ?_)
        refine bwp_skip ?_
        exact fin4 _ (Leads.ent [(0, 0), (1, 1), (2, 2)] ⟨by simp [entT, fget, AV.ren, renL, pget, tsS, bytesAV, renB, condL, hc], by simp [entM, pinv, mget, mset, mdel, renL, AV.ren, pget, renL_append, -List.map_map, tsS, bytesAV, renB, condL, hc], rfl, rfl⟩)
      · refine bwp_seq fun K hK => bwp_region rfl ?_
        simp only [go_sem, ↓reduceIte, hc]
        refine hK _ ?_; clear hK
        refine bwp_cond true (by simp [ev, fget, hc]) (fun _ => ?_) (fun h => nomatch h)
        refine bwp_region rfl ?_
        simp only [go_sem, ↓reduceIte]
        refine ⟨rfl, ?_⟩
        refine line_used_callK (s := Y) (i := 1) (j := 2) (by omega) rfl rfl (by decide) ?_
        simp only [go_sem, ↓reduceIte]
        exact fin4 _ (Leads.ent [(0, 0), (1, 1), (5, 2)] ⟨by simp [entT, fget, AV.ren, renL, pget, tsS, bytesAV, renB, condL, hc], by simp [entM, pinv, mget, mset, mdel, renL, AV.ren, pget, renL_append, -List.map_map, tsS, bytesAV, renB, condL, hc], rfl, rfl⟩)
    by_cases hi : t.inits = []
    · have hl : t.inits.length = 0 := by simp [hi]
      unfold tsS
      simp only [List.nil_append, List.map_cons, List.map_nil]
      refine bwp_seq fun K hK => bwp_region rfl ?_
      simp only [go_sem, ↓reduceIte, hI.len, hl]
      refine hK _ ?_; clear hK
      refine bwp_cond false (by simp [ev, fget, hl]) (fun h => nomatch h) (fun _ => ?_)
      refine bwp_skip ?_
      exact fin2 _ (Leads.ent [(0, 0), (1, 1), (2, 2)] ⟨by simp [entT, fget, AV.ren, renL, pget, tsS, bytesAV, renB, initsL, hi], by simp [entM, pinv, mget, mset, mdel, renL, AV.ren, pget, renL_append, -List.map_map, tsS, bytesAV, renB, initsL, hi], rfl, rfl⟩)
    · have hl : (0 : Int) < t.inits.length := by
        have := List.length_pos_iff.2 hi
        omega
      unfold tsS
      simp only [List.nil_append, List.map_cons, List.map_nil]
      refine bwp_seq fun K hK => bwp_region rfl ?_
      simp only [go_sem, ↓reduceIte, hI.len, hl]
      refine hK _ ?_; clear hK
      refine bwp_cond true (by simp [ev, fget, hl]) (fun _ => ?_) (fun h => nomatch h)
      refine bwp_seq fun K hK => bwp_region rfl ?_
      simp only [go_sem, ↓reduceIte]
      refine ⟨rfl, ?_⟩
      refine line_used_callK (s := headL t) (i := 1) (j := 2) (by simp only [List.length_cons, List.length_nil]; omega) rfl rfl (by decide) ?_
      simp only [go_sem, ↓reduceIte]
      refine hK _ ?_; clear hK
      refine bwp_seq fun K3 hK3 => ?_
      refine bwp_seq fun K hK => bwp_region rfl ?_
      simp only [go_sem, ↓reduceIte, hI.len]
      refine hK _ ?_; clear hK
      refine bwp_block ?_
      refine bwp_leads (S' := tsS [.str t.name, I, T, .int .i64 t.kind, A] (headL t ++ ([105, 110, 105, 116, 32, 123] ++ [10])) [(31, .d (.int .i64 (0 : Nat))), (29, .d I), (30, .d (.int .i64 t.inits.length))]) (Leads.ent [(0, 0), (1, 1), (5, 2)] ⟨by simp [entT, fget, AV.ren, renL, pget, tsS, bytesAV, renB], by simp [entM, pinv, mget, mset, renL, AV.ren, pget, renL_append, -List.map_map, tsS, bytesAV, renB], rfl, rfl⟩) ?_
      refine ts_inits hI hf.values hf.inits (by simp only [List.length_append, List.length_cons, List.length_nil]; omega) ?_
      generalize hY : headL t ++ ([105, 110, 105, 116, 32, 123] ++ [10]) ++ t.inits.flatMap initL = Y
      have hYl : Y.length ≤ 200000 := by rw [← hY]; simp only [List.length_append, List.length_cons, List.length_nil]; omega
      unfold tsS
      simp only [List.cons_append, List.nil_append, List.map_cons, List.map_nil]
      simp only [go_sem, ↓reduceIte]
      refine hK3 _ ?_; clear hK3
      refine bwp_region rfl ?_
      simp only [go_sem, ↓reduceIte]
      refine ⟨rfl, ?_⟩
      refine line_used_callK (s := Y) (i := 1) (j := 2) (by simp only [List.length_cons, List.length_nil]; omega) rfl rfl (by decide) ?_
      simp only [go_sem, ↓reduceIte]
      have he : headL t ++ initsL t.inits = Y ++ ([125] ++ [10]) := by rw [← hY]; simp [initsL, hi]
      rw [he] at fin2
      exact fin2 _ (Leads.ent [(0, 0), (1, 1), (5, 2)] ⟨by simp [entT, fget, AV.ren, renL, pget, tsS, bytesAV, renB], by simp [entM, pinv, mget, mset, mdel, renL, AV.ren, pget, renL_append, -List.map_map, tsS, bytesAV, renB], rfl, rfl⟩)
theorem test_pure {t : Test} {cs : List DV} (hT : IsTest t cs) (hf : FewT t) : Pure Tryz.prog 18 [.agg (cs.map .d)] (.d (.str (testT t))) := test3_pure hT hf.three
end Go.Proofs.YtpfbljkfbjjlkaaGreatDoor

/- print.Same, for seats whose texts have the document's Same by UB. -/
namespace Go.Proofs.YtpfbljkfbjjlkaaGreatDoor
open Go Go.Jq
set_option maxRecDepth 100000
set_option linter.unusedSimpArgs false
set_option maxHeartbeats 2000000 in
theorem equalInit_pure {l l' : List Init} {D D' : DV} (hD : IsSl Init.cells l D) (hD' : IsSl Init.cells l' D') : Pure Tryz.prog 64 [.d D, .d D'] (.d (.bool (eqL eqInit l l'))) := by
  have hb := hD.1
  have hlen := hD.len
  have hlen' := hD'.len
  refine acalls_of Tryz.func64 ac64_ok Tryz.ntmps64 Tryz.results64 rfl ?_
  unfold ac64
  refine bwp_seq fun K hK => bwp_region rfl ?_
  simp only [go_sem, ↓reduceIte]
  refine hK _ ?_; clear hK
  refine bwp_seq fun K1 hK1 => ?_
  by_cases hl : l.length = l'.length
  · have hl1 : ((l.length : Int) = (l'.length : Int)) := by omega
    refine bwp_seq fun K hK => bwp_region rfl ?_
    simp only [go_sem, ↓reduceIte, hlen, hlen', hl1]
    refine hK _ ?_; clear hK
    refine bwp_cond false (by simp [ev, fget, hl1]) (fun h => nomatch h) (fun _ => ?_)
    refine bwp_skip ?_
    refine hK1 _ ?_; clear hK1
    refine bwp_seq fun K2 hK2 => ?_
    refine bwp_seq fun K hK => bwp_region rfl ?_
    simp only [go_sem, ↓reduceIte, hlen]
    refine hK _ ?_; clear hK
    refine bwp_block ?_
    refine bwp_leads (S' := ⟨[(0, .d D), (1, .d D'), (12, .d (.int .i64 l.length)), (13, .d (.int .i64 (0 : Nat)))], [], 0⟩) (Leads.ent [] ⟨by simp [entT, fget, AV.ren, renL, pget], by simp [entM, pinv, mget, mset, renL, AV.ren, pget, renL_append, -List.map_map], rfl, rfl⟩) ?_
    refine bwp_countI (fun i => ⟨[(0, .d D), (1, .d D'), (12, .d (.int .i64 l.length)), (13, .d (.int .i64 i))], [], 0⟩) (fun i => ∀ j (h : j < l.length) (h' : j < l'.length), j < i → eqInit l[j] l'[j] = true) l.length (fun j _ _ h => absurd h (Nat.not_lt_zero _)) ?_
    intro i hi hp
    unfold ac64L0
    by_cases hlt : i < l.length
    · have hlt' : (i : Int) < l.length := by omega
      have hlt2 : (i : Int) < l'.length := by omega
      obtain ⟨cs, rest, hDe, hdrop, hcs⟩ := hD.at init_len (by omega) i hlt
      obtain ⟨cs', rest', hDe', hdrop', hcs'⟩ := hD'.at init_len (by omega) i (by omega)
      have hw : IntKind.i64.wrap ((i : Int) + 1) = ((i + 1 : Nat) : Int) := by rw [wrap_i64 (by omega) (by omega)]; rfl
      have hno := eqL_at eqInit l l' i hlt (by omega)
      have hnext : eqInit l[i] (l'[i]'(by omega)) = true → ∀ j (h : j < l.length) (h' : j < l'.length), j < i + 1 → eqInit l[j] l'[j] = true := fun he j h h' hj => by
        rcases Nat.lt_succ_iff_lt_or_eq.1 hj with h1 | h1
        · exact hp j h h' h1
        · subst h1; exact he
      generalize l[i] = x at hdrop hno hnext
      generalize l'[i]'(by omega) = y at hdrop' hno hnext
      refine bwp_seq fun K hK => bwp_region rfl ?_
      simp only [go_sem, ↓reduceIte, hlt']
      refine hK _ ?_; clear hK
      refine bwp_seq fun K3 hK3 => ?_
      refine bwp_cond true (by simp [ev, fget, hlt']) (fun _ => ?_) (fun h => nomatch h)
      refine bwp_skip ?_
      refine hK3 _ ?_; clear hK3
      refine bwp_seq fun K3 hK3 => ?_
      refine bwp_block ?_
      refine bwp_seq fun K hK => bwp_region rfl ?_
      simp only [go_sem, ↓reduceIte]
      refine hK _ ?_; clear hK
      refine bwp_seq fun K hK => bwp_region_draw rfl rfl ?_
      simp only [go_sem, ↓reduceIte, hDe, hDe', hlt', hlt2, Int.natCast_nonneg, Int.toNat_natCast, hcs, hcs', hdrop, hdrop', Init.cells]
      refine ⟨rfl, hK _ ?_⟩; clear hK
      cases he : eqInit x y with
      | false =>
        have he' : ¬ (x.loc = y.loc ∧ x.value = y.value) := fun h => by
          have : eqInit x y = true := by simp [eqInit, h]
          rw [this] at he
          cases he
        refine bwp_cond true (by simp [ev, fget]; omega) (fun _ => ?_) (fun h => nomatch h)
        refine bwp_seq fun K hK => bwp_region rfl ?_
        simp only [go_sem, ↓reduceIte]
        refine hK _ ?_; clear hK
        refine bwp_ret ?_
        simp only [go_sem, ↓reduceIte]
        refine aend_ret _ rfl rfl ⟨?_, rfl⟩
        simp [fget, hno he]
      | true =>
        have he' : x.loc = y.loc ∧ x.value = y.value := by simpa [eqInit, and_assoc] using he
        refine bwp_cond false (by simp [ev, fget]; omega) (fun h => nomatch h) (fun _ => ?_)
        refine bwp_skip ?_
        simp only [go_sem, ↓reduceIte]
        refine hK3 _ ?_; clear hK3
        refine bwp_region rfl ?_
        simp only [go_sem, ↓reduceIte, hw]
        refine ⟨hlt, hnext he, Leads.ent [] ⟨by simp [entT, fget, AV.ren, renL, pget, hDe, hDe'], by simp [entM], rfl, rfl⟩⟩
    · have hlt' : ¬ (i : Int) < l.length := by omega
      refine bwp_seq fun K hK => bwp_region rfl ?_
      simp only [go_sem, ↓reduceIte, hlt']
      refine hK _ ?_; clear hK
      refine bwp_seq fun K3 hK3 => ?_
      refine bwp_cond false (by simp [ev, fget, hlt']) (fun h => nomatch h) (fun _ => ?_)
      simp only [go_sem, ↓reduceIte]
      refine bwp_exit ?_
      simp only [go_sem, ↓reduceIte]
      refine hK2 _ ?_; clear hK2
      refine bwp_seq fun K hK => bwp_region rfl ?_
      simp only [go_sem, ↓reduceIte]
      refine hK _ ?_; clear hK
      refine bwp_ret ?_
      simp only [go_sem]
      refine aend_ret _ rfl rfl ⟨?_, rfl⟩
      simp [fget, eqL_all eqInit l l' hl fun j h h' => hp j h h' (by omega)]
  · have hl1 : ¬ ((l.length : Int) = (l'.length : Int)) := by omega
    refine bwp_seq fun K hK => bwp_region rfl ?_
    simp only [go_sem, ↓reduceIte, hlen, hlen', hl1]
    refine hK _ ?_; clear hK
    refine bwp_cond true (by simp [ev, fget, hl1]) (fun _ => ?_) (fun h => nomatch h)
    refine bwp_seq fun K hK => bwp_region rfl ?_
    simp only [go_sem, ↓reduceIte]
    refine hK _ ?_; clear hK
    refine bwp_ret ?_
    simp only [go_sem]
    refine aend_ret _ rfl rfl ⟨?_, rfl⟩
    simp [fget, eqL_len eqInit l l' hl]
set_option maxHeartbeats 2000000 in
theorem equalIns_pure {l l' : List Ins} {D D' : DV} (hD : IsSl Ins.cells l D) (hD' : IsSl Ins.cells l' D') : Pure Tryz.prog 66 [.d D, .d D'] (.d (.bool (eqL eqIns l l'))) := by
  have hb := hD.1
  have hlen := hD.len
  have hlen' := hD'.len
  refine acalls_of Tryz.func66 ac66_ok Tryz.ntmps66 Tryz.results66 rfl ?_
  unfold ac66
  refine bwp_seq fun K hK => bwp_region rfl ?_
  simp only [go_sem, ↓reduceIte]
  refine hK _ ?_; clear hK
  refine bwp_seq fun K1 hK1 => ?_
  by_cases hl : l.length = l'.length
  · have hl1 : ((l.length : Int) = (l'.length : Int)) := by omega
    refine bwp_seq fun K hK => bwp_region rfl ?_
    simp only [go_sem, ↓reduceIte, hlen, hlen', hl1]
    refine hK _ ?_; clear hK
    refine bwp_cond false (by simp [ev, fget, hl1]) (fun h => nomatch h) (fun _ => ?_)
    refine bwp_skip ?_
    refine hK1 _ ?_; clear hK1
    refine bwp_seq fun K2 hK2 => ?_
    refine bwp_seq fun K hK => bwp_region rfl ?_
    simp only [go_sem, ↓reduceIte, hlen]
    refine hK _ ?_; clear hK
    refine bwp_block ?_
    refine bwp_leads (S' := ⟨[(0, .d D), (1, .d D'), (12, .d (.int .i64 l.length)), (13, .d (.int .i64 (0 : Nat)))], [], 0⟩) (Leads.ent [] ⟨by simp [entT, fget, AV.ren, renL, pget], by simp [entM, pinv, mget, mset, renL, AV.ren, pget, renL_append, -List.map_map], rfl, rfl⟩) ?_
    refine bwp_countI (fun i => ⟨[(0, .d D), (1, .d D'), (12, .d (.int .i64 l.length)), (13, .d (.int .i64 i))], [], 0⟩) (fun i => ∀ j (h : j < l.length) (h' : j < l'.length), j < i → eqIns l[j] l'[j] = true) l.length (fun j _ _ h => absurd h (Nat.not_lt_zero _)) ?_
    intro i hi hp
    unfold ac66L0
    by_cases hlt : i < l.length
    · have hlt' : (i : Int) < l.length := by omega
      have hlt2 : (i : Int) < l'.length := by omega
      obtain ⟨cs, rest, hDe, hdrop, hcs⟩ := hD.at ins_len (by omega) i hlt
      obtain ⟨cs', rest', hDe', hdrop', hcs'⟩ := hD'.at ins_len (by omega) i (by omega)
      have hw : IntKind.i64.wrap ((i : Int) + 1) = ((i + 1 : Nat) : Int) := by rw [wrap_i64 (by omega) (by omega)]; rfl
      have hno := eqL_at eqIns l l' i hlt (by omega)
      have hnext : eqIns l[i] (l'[i]'(by omega)) = true → ∀ j (h : j < l.length) (h' : j < l'.length), j < i + 1 → eqIns l[j] l'[j] = true := fun he j h h' hj => by
        rcases Nat.lt_succ_iff_lt_or_eq.1 hj with h1 | h1
        · exact hp j h h' h1
        · subst h1; exact he
      generalize l[i] = x at hdrop hno hnext
      generalize l'[i]'(by omega) = y at hdrop' hno hnext
      refine bwp_seq fun K hK => bwp_region rfl ?_
      simp only [go_sem, ↓reduceIte, hlt']
      refine hK _ ?_; clear hK
      refine bwp_seq fun K3 hK3 => ?_
      refine bwp_cond true (by simp [ev, fget, hlt']) (fun _ => ?_) (fun h => nomatch h)
      refine bwp_skip ?_
      refine hK3 _ ?_; clear hK3
      refine bwp_seq fun K3 hK3 => ?_
      refine bwp_block ?_
      refine bwp_seq fun K hK => bwp_region rfl ?_
      simp only [go_sem, ↓reduceIte]
      refine hK _ ?_; clear hK
      refine bwp_seq fun K hK => bwp_region_draw rfl rfl ?_
      simp only [go_sem, ↓reduceIte, hDe, hDe', hlt', hlt2, Int.natCast_nonneg, Int.toNat_natCast, hcs, hcs', hdrop, hdrop', Ins.cells]
      refine ⟨rfl, hK _ ?_⟩; clear hK
      cases he : eqIns x y with
      | false =>
        have he' : ¬ (x.kind = y.kind ∧ x.reg = y.reg ∧ x.loc = y.loc ∧ x.a.reg = y.a.reg ∧ x.a.value = y.a.value ∧ x.op = y.op ∧ x.b.reg = y.b.reg ∧ x.b.value = y.b.value ∧ x.n = y.n) := fun h => by
          have : eqIns x y = true := by simp [eqIns, h]
          rw [this] at he
          cases he
        refine bwp_cond true (by simp [ev, fget]; omega) (fun _ => ?_) (fun h => nomatch h)
        refine bwp_seq fun K hK => bwp_region rfl ?_
        simp only [go_sem, ↓reduceIte]
        refine hK _ ?_; clear hK
        refine bwp_ret ?_
        simp only [go_sem, ↓reduceIte]
        refine aend_ret _ rfl rfl ⟨?_, rfl⟩
        simp [fget, hno he]
      | true =>
        have he' : x.kind = y.kind ∧ x.reg = y.reg ∧ x.loc = y.loc ∧ x.a.reg = y.a.reg ∧ x.a.value = y.a.value ∧ x.op = y.op ∧ x.b.reg = y.b.reg ∧ x.b.value = y.b.value ∧ x.n = y.n := by simpa [eqIns, and_assoc] using he
        refine bwp_cond false (by simp [ev, fget]; omega) (fun h => nomatch h) (fun _ => ?_)
        refine bwp_skip ?_
        simp only [go_sem, ↓reduceIte]
        refine hK3 _ ?_; clear hK3
        refine bwp_region rfl ?_
        simp only [go_sem, ↓reduceIte, hw]
        refine ⟨hlt, hnext he, Leads.ent [] ⟨by simp [entT, fget, AV.ren, renL, pget, hDe, hDe'], by simp [entM], rfl, rfl⟩⟩
    · have hlt' : ¬ (i : Int) < l.length := by omega
      refine bwp_seq fun K hK => bwp_region rfl ?_
      simp only [go_sem, ↓reduceIte, hlt']
      refine hK _ ?_; clear hK
      refine bwp_seq fun K3 hK3 => ?_
      refine bwp_cond false (by simp [ev, fget, hlt']) (fun h => nomatch h) (fun _ => ?_)
      simp only [go_sem, ↓reduceIte]
      refine bwp_exit ?_
      simp only [go_sem, ↓reduceIte]
      refine hK2 _ ?_; clear hK2
      refine bwp_seq fun K hK => bwp_region rfl ?_
      simp only [go_sem, ↓reduceIte]
      refine hK _ ?_; clear hK
      refine bwp_ret ?_
      simp only [go_sem]
      refine aend_ret _ rfl rfl ⟨?_, rfl⟩
      simp [fget, eqL_all eqIns l l' hl fun j h h' => hp j h h' (by omega)]
  · have hl1 : ¬ ((l.length : Int) = (l'.length : Int)) := by omega
    refine bwp_seq fun K hK => bwp_region rfl ?_
    simp only [go_sem, ↓reduceIte, hlen, hlen', hl1]
    refine hK _ ?_; clear hK
    refine bwp_cond true (by simp [ev, fget, hl1]) (fun _ => ?_) (fun h => nomatch h)
    refine bwp_seq fun K hK => bwp_region rfl ?_
    simp only [go_sem, ↓reduceIte]
    refine hK _ ?_; clear hK
    refine bwp_ret ?_
    simp only [go_sem]
    refine aend_ret _ rfl rfl ⟨?_, rfl⟩
    simp [fget, eqL_len eqIns l l' hl]
set_option maxHeartbeats 2000000 in
theorem equalAtom_pure {l l' : List Atom} {D D' : DV} (hD : IsSl Atom.cells l D) (hD' : IsSl Atom.cells l' D') : Pure Tryz.prog 68 [.d D, .d D'] (.d (.bool (eqL eqAtom l l'))) := by
  have hb := hD.1
  have hlen := hD.len
  have hlen' := hD'.len
  refine acalls_of Tryz.func68 ac68_ok Tryz.ntmps68 Tryz.results68 rfl ?_
  unfold ac68
  refine bwp_seq fun K hK => bwp_region rfl ?_
  simp only [go_sem, ↓reduceIte]
  refine hK _ ?_; clear hK
  refine bwp_seq fun K1 hK1 => ?_
  by_cases hl : l.length = l'.length
  · have hl1 : ((l.length : Int) = (l'.length : Int)) := by omega
    refine bwp_seq fun K hK => bwp_region rfl ?_
    simp only [go_sem, ↓reduceIte, hlen, hlen', hl1]
    refine hK _ ?_; clear hK
    refine bwp_cond false (by simp [ev, fget, hl1]) (fun h => nomatch h) (fun _ => ?_)
    refine bwp_skip ?_
    refine hK1 _ ?_; clear hK1
    refine bwp_seq fun K2 hK2 => ?_
    refine bwp_seq fun K hK => bwp_region rfl ?_
    simp only [go_sem, ↓reduceIte, hlen]
    refine hK _ ?_; clear hK
    refine bwp_block ?_
    refine bwp_leads (S' := ⟨[(0, .d D), (1, .d D'), (12, .d (.int .i64 l.length)), (13, .d (.int .i64 (0 : Nat)))], [], 0⟩) (Leads.ent [] ⟨by simp [entT, fget, AV.ren, renL, pget], by simp [entM, pinv, mget, mset, renL, AV.ren, pget, renL_append, -List.map_map], rfl, rfl⟩) ?_
    refine bwp_countI (fun i => ⟨[(0, .d D), (1, .d D'), (12, .d (.int .i64 l.length)), (13, .d (.int .i64 i))], [], 0⟩) (fun i => ∀ j (h : j < l.length) (h' : j < l'.length), j < i → eqAtom l[j] l'[j] = true) l.length (fun j _ _ h => absurd h (Nat.not_lt_zero _)) ?_
    intro i hi hp
    unfold ac68L0
    by_cases hlt : i < l.length
    · have hlt' : (i : Int) < l.length := by omega
      have hlt2 : (i : Int) < l'.length := by omega
      obtain ⟨cs, rest, hDe, hdrop, hcs⟩ := hD.at atom_len (by omega) i hlt
      obtain ⟨cs', rest', hDe', hdrop', hcs'⟩ := hD'.at atom_len (by omega) i (by omega)
      have hw : IntKind.i64.wrap ((i : Int) + 1) = ((i + 1 : Nat) : Int) := by rw [wrap_i64 (by omega) (by omega)]; rfl
      have hno := eqL_at eqAtom l l' i hlt (by omega)
      have hnext : eqAtom l[i] (l'[i]'(by omega)) = true → ∀ j (h : j < l.length) (h' : j < l'.length), j < i + 1 → eqAtom l[j] l'[j] = true := fun he j h h' hj => by
        rcases Nat.lt_succ_iff_lt_or_eq.1 hj with h1 | h1
        · exact hp j h h' h1
        · subst h1; exact he
      generalize l[i] = x at hdrop hno hnext
      generalize l'[i]'(by omega) = y at hdrop' hno hnext
      refine bwp_seq fun K hK => bwp_region rfl ?_
      simp only [go_sem, ↓reduceIte, hlt']
      refine hK _ ?_; clear hK
      refine bwp_seq fun K3 hK3 => ?_
      refine bwp_cond true (by simp [ev, fget, hlt']) (fun _ => ?_) (fun h => nomatch h)
      refine bwp_skip ?_
      refine hK3 _ ?_; clear hK3
      refine bwp_seq fun K3 hK3 => ?_
      refine bwp_block ?_
      refine bwp_seq fun K hK => bwp_region rfl ?_
      simp only [go_sem, ↓reduceIte]
      refine hK _ ?_; clear hK
      refine bwp_seq fun K hK => bwp_region_draw rfl rfl ?_
      simp only [go_sem, ↓reduceIte, hDe, hDe', hlt', hlt2, Int.natCast_nonneg, Int.toNat_natCast, hcs, hcs', hdrop, hdrop', Atom.cells]
      refine ⟨rfl, hK _ ?_⟩; clear hK
      cases he : eqAtom x y with
      | false =>
        have he' : ¬ (x.thread = y.thread ∧ x.reg = y.reg ∧ x.loc = y.loc ∧ x.value = y.value) := fun h => by
          have : eqAtom x y = true := by simp [eqAtom, h]
          rw [this] at he
          cases he
        refine bwp_cond true (by simp [ev, fget]; omega) (fun _ => ?_) (fun h => nomatch h)
        refine bwp_seq fun K hK => bwp_region rfl ?_
        simp only [go_sem, ↓reduceIte]
        refine hK _ ?_; clear hK
        refine bwp_ret ?_
        simp only [go_sem, ↓reduceIte]
        refine aend_ret _ rfl rfl ⟨?_, rfl⟩
        simp [fget, hno he]
      | true =>
        have he' : x.thread = y.thread ∧ x.reg = y.reg ∧ x.loc = y.loc ∧ x.value = y.value := by simpa [eqAtom, and_assoc] using he
        refine bwp_cond false (by simp [ev, fget]; omega) (fun h => nomatch h) (fun _ => ?_)
        refine bwp_skip ?_
        simp only [go_sem, ↓reduceIte]
        refine hK3 _ ?_; clear hK3
        refine bwp_region rfl ?_
        simp only [go_sem, ↓reduceIte, hw]
        refine ⟨hlt, hnext he, Leads.ent [] ⟨by simp [entT, fget, AV.ren, renL, pget, hDe, hDe'], by simp [entM], rfl, rfl⟩⟩
    · have hlt' : ¬ (i : Int) < l.length := by omega
      refine bwp_seq fun K hK => bwp_region rfl ?_
      simp only [go_sem, ↓reduceIte, hlt']
      refine hK _ ?_; clear hK
      refine bwp_seq fun K3 hK3 => ?_
      refine bwp_cond false (by simp [ev, fget, hlt']) (fun h => nomatch h) (fun _ => ?_)
      simp only [go_sem, ↓reduceIte]
      refine bwp_exit ?_
      simp only [go_sem, ↓reduceIte]
      refine hK2 _ ?_; clear hK2
      refine bwp_seq fun K hK => bwp_region rfl ?_
      simp only [go_sem, ↓reduceIte]
      refine hK _ ?_; clear hK
      refine bwp_ret ?_
      simp only [go_sem]
      refine aend_ret _ rfl rfl ⟨?_, rfl⟩
      simp [fget, eqL_all eqAtom l l' hl fun j h h' => hp j h h' (by omega)]
  · have hl1 : ¬ ((l.length : Int) = (l'.length : Int)) := by omega
    refine bwp_seq fun K hK => bwp_region rfl ?_
    simp only [go_sem, ↓reduceIte, hlen, hlen', hl1]
    refine hK _ ?_; clear hK
    refine bwp_cond true (by simp [ev, fget, hl1]) (fun _ => ?_) (fun h => nomatch h)
    refine bwp_seq fun K hK => bwp_region rfl ?_
    simp only [go_sem, ↓reduceIte]
    refine hK _ ?_; clear hK
    refine bwp_ret ?_
    simp only [go_sem]
    refine aend_ret _ rfl rfl ⟨?_, rfl⟩
    simp [fget, eqL_len eqAtom l l' hl]
set_option maxHeartbeats 2000000 in
theorem equalFuncIns_pure {ls ls' : List (List Ins)} {D D' : DV} (hD : IsSl2 Ins.cells ls D) (hD' : IsSl2 Ins.cells ls' D') : Pure Tryz.prog 65 [.d D, .d D', .fn 66 []] (.d (.bool (eqL (eqL eqIns) ls ls'))) := by
  have hb := hD.big
  have hlen := hD.len
  have hlen' := hD'.len
  refine acalls_of Tryz.func65 ac65_ok Tryz.ntmps65 Tryz.results65 rfl ?_
  unfold ac65
  refine bwp_seq fun K hK => bwp_region rfl ?_
  simp only [go_sem, ↓reduceIte]
  refine hK _ ?_; clear hK
  refine bwp_seq fun K1 hK1 => ?_
  by_cases hl : ls.length = ls'.length
  · have hl1 : ((ls.length : Int) = (ls'.length : Int)) := by omega
    refine bwp_seq fun K hK => bwp_region rfl ?_
    simp only [go_sem, ↓reduceIte, hlen, hlen', hl1]
    refine hK _ ?_; clear hK
    refine bwp_cond false (by simp [ev, fget, hl1]) (fun h => nomatch h) (fun _ => ?_)
    refine bwp_skip ?_
    refine hK1 _ ?_; clear hK1
    refine bwp_seq fun K2 hK2 => ?_
    refine bwp_seq fun K hK => bwp_region rfl ?_
    simp only [go_sem, ↓reduceIte, hlen]
    refine hK _ ?_; clear hK
    refine bwp_block ?_
    refine bwp_leads (S' := ⟨[(15, .d D), (1, .d D'), (2, .fn 66 []), (16, .d (.int .i64 ls.length)), (17, .d (.int .i64 (0 : Nat)))], [], 0⟩) (Leads.ent [] ⟨by simp [entT, fget, AV.ren, renL, pget], by simp [entM, pinv, mget, mset, renL, AV.ren, pget, renL_append, -List.map_map], rfl, rfl⟩) ?_
    refine bwp_countI (fun i => ⟨[(15, .d D), (1, .d D'), (2, .fn 66 []), (16, .d (.int .i64 ls.length)), (17, .d (.int .i64 i))], [], 0⟩) (fun i => ∀ j (h : j < ls.length) (h' : j < ls'.length), j < i → eqL eqIns ls[j] ls'[j] = true) ls.length (fun j _ _ h => absurd h (Nat.not_lt_zero _)) ?_
    intro i hi hp
    unfold ac65L0
    by_cases hlt : i < ls.length
    · have hlt' : (i : Int) < ls.length := by omega
      have hlt2 : (i : Int) < ls'.length := by omega
      obtain ⟨cs, d, rest, hDe, hdrop, hcs, hd⟩ := hD.at i hlt
      obtain ⟨cs', d', rest', hDe', hdrop', hcs', hd'⟩ := hD'.at i (by omega)
      have hw : IntKind.i64.wrap ((i : Int) + 1) = ((i + 1 : Nat) : Int) := by rw [wrap_i64 (by omega) (by omega)]; rfl
      have hno := eqL_at (eqL eqIns) ls ls' i hlt (by omega)
      have hnext : eqL eqIns ls[i] (ls'[i]'(by omega)) = true → ∀ j (h : j < ls.length) (h' : j < ls'.length), j < i + 1 → eqL eqIns ls[j] ls'[j] = true := fun he j h h' hj => by
        rcases Nat.lt_succ_iff_lt_or_eq.1 hj with h1 | h1
        · exact hp j h h' h1
        · subst h1; exact he
      generalize ls[i] = x at hd hno hnext
      generalize ls'[i]'(by omega) = y at hd' hno hnext
      refine bwp_seq fun K hK => bwp_region rfl ?_
      simp only [go_sem, ↓reduceIte, hlt']
      refine hK _ ?_; clear hK
      refine bwp_seq fun K3 hK3 => ?_
      refine bwp_cond true (by simp [ev, fget, hlt']) (fun _ => ?_) (fun h => nomatch h)
      refine bwp_skip ?_
      refine hK3 _ ?_; clear hK3
      refine bwp_seq fun K3 hK3 => ?_
      refine bwp_block ?_
      refine bwp_seq fun K hK => bwp_region rfl ?_
      simp only [go_sem, ↓reduceIte, hDe, hlt', Int.natCast_nonneg, Int.toNat_natCast, hcs, hdrop]
      refine hK _ ?_; clear hK
      refine bwp_seq fun K hK => bwp_region rfl ?_
      simp only [go_sem, ↓reduceIte, hDe', hlt2, Int.natCast_nonneg, Int.toNat_natCast, hcs', hdrop']
      refine hK _ ?_; clear hK
      refine bwp_seq fun K hK => bwp_region rfl ?_
      simp only [go_sem, ↓reduceIte]
      refine ⟨rfl, ?_⟩
      refine callK_pure (equalIns_pure hd hd') rfl rfl ?_
      simp only [go_sem, ↓reduceIte]
      refine hK _ ?_; clear hK
      cases he : eqL eqIns x y with
      | false =>
        refine bwp_cond true (by simp [ev, fget, he]) (fun _ => ?_) (fun h => nomatch h)
        refine bwp_seq fun K hK => bwp_region rfl ?_
        simp only [go_sem, ↓reduceIte]
        refine hK _ ?_; clear hK
        refine bwp_ret ?_
        simp only [go_sem, ↓reduceIte]
        refine aend_ret _ rfl rfl ⟨?_, rfl⟩
        simp [fget, hno he]
      | true =>
        refine bwp_cond false (by simp [ev, fget, he]) (fun h => nomatch h) (fun _ => ?_)
        refine bwp_skip ?_
        simp only [go_sem, ↓reduceIte]
        refine hK3 _ ?_; clear hK3
        refine bwp_region rfl ?_
        simp only [go_sem, ↓reduceIte, hw]
        refine ⟨hlt, hnext he, Leads.ent [] ⟨by simp [entT, fget, AV.ren, renL, pget, hDe, hDe'], by simp [entM], rfl, rfl⟩⟩
    · have hlt' : ¬ (i : Int) < ls.length := by omega
      refine bwp_seq fun K hK => bwp_region rfl ?_
      simp only [go_sem, ↓reduceIte, hlt']
      refine hK _ ?_; clear hK
      refine bwp_seq fun K3 hK3 => ?_
      refine bwp_cond false (by simp [ev, fget, hlt']) (fun h => nomatch h) (fun _ => ?_)
      simp only [go_sem, ↓reduceIte]
      refine bwp_exit ?_
      simp only [go_sem, ↓reduceIte]
      refine hK2 _ ?_; clear hK2
      refine bwp_seq fun K hK => bwp_region rfl ?_
      simp only [go_sem, ↓reduceIte]
      refine hK _ ?_; clear hK
      refine bwp_ret ?_
      simp only [go_sem]
      refine aend_ret _ rfl rfl ⟨?_, rfl⟩
      simp [fget, eqL_all (eqL eqIns) ls ls' hl fun j h h' => hp j h h' (by omega)]
  · have hl1 : ¬ ((ls.length : Int) = (ls'.length : Int)) := by omega
    refine bwp_seq fun K hK => bwp_region rfl ?_
    simp only [go_sem, ↓reduceIte, hlen, hlen', hl1]
    refine hK _ ?_; clear hK
    refine bwp_cond true (by simp [ev, fget, hl1]) (fun _ => ?_) (fun h => nomatch h)
    refine bwp_seq fun K hK => bwp_region rfl ?_
    simp only [go_sem, ↓reduceIte]
    refine hK _ ?_; clear hK
    refine bwp_ret ?_
    simp only [go_sem]
    refine aend_ret _ rfl rfl ⟨?_, rfl⟩
    simp [fget, eqL_len (eqL eqIns) ls ls' hl]
set_option maxHeartbeats 2000000 in
theorem equalFuncAtom_pure {ls ls' : List (List Atom)} {D D' : DV} (hD : IsSl2 Atom.cells ls D) (hD' : IsSl2 Atom.cells ls' D') : Pure Tryz.prog 67 [.d D, .d D', .fn 68 []] (.d (.bool (eqL (eqL eqAtom) ls ls'))) := by
  have hb := hD.big
  have hlen := hD.len
  have hlen' := hD'.len
  refine acalls_of Tryz.func67 ac67_ok Tryz.ntmps67 Tryz.results67 rfl ?_
  unfold ac67
  refine bwp_seq fun K hK => bwp_region rfl ?_
  simp only [go_sem, ↓reduceIte]
  refine hK _ ?_; clear hK
  refine bwp_seq fun K1 hK1 => ?_
  by_cases hl : ls.length = ls'.length
  · have hl1 : ((ls.length : Int) = (ls'.length : Int)) := by omega
    refine bwp_seq fun K hK => bwp_region rfl ?_
    simp only [go_sem, ↓reduceIte, hlen, hlen', hl1]
    refine hK _ ?_; clear hK
    refine bwp_cond false (by simp [ev, fget, hl1]) (fun h => nomatch h) (fun _ => ?_)
    refine bwp_skip ?_
    refine hK1 _ ?_; clear hK1
    refine bwp_seq fun K2 hK2 => ?_
    refine bwp_seq fun K hK => bwp_region rfl ?_
    simp only [go_sem, ↓reduceIte, hlen]
    refine hK _ ?_; clear hK
    refine bwp_block ?_
    refine bwp_leads (S' := ⟨[(15, .d D), (1, .d D'), (2, .fn 68 []), (16, .d (.int .i64 ls.length)), (17, .d (.int .i64 (0 : Nat)))], [], 0⟩) (Leads.ent [] ⟨by simp [entT, fget, AV.ren, renL, pget], by simp [entM, pinv, mget, mset, renL, AV.ren, pget, renL_append, -List.map_map], rfl, rfl⟩) ?_
    refine bwp_countI (fun i => ⟨[(15, .d D), (1, .d D'), (2, .fn 68 []), (16, .d (.int .i64 ls.length)), (17, .d (.int .i64 i))], [], 0⟩) (fun i => ∀ j (h : j < ls.length) (h' : j < ls'.length), j < i → eqL eqAtom ls[j] ls'[j] = true) ls.length (fun j _ _ h => absurd h (Nat.not_lt_zero _)) ?_
    intro i hi hp
    unfold ac67L0
    by_cases hlt : i < ls.length
    · have hlt' : (i : Int) < ls.length := by omega
      have hlt2 : (i : Int) < ls'.length := by omega
      obtain ⟨cs, d, rest, hDe, hdrop, hcs, hd⟩ := hD.at i hlt
      obtain ⟨cs', d', rest', hDe', hdrop', hcs', hd'⟩ := hD'.at i (by omega)
      have hw : IntKind.i64.wrap ((i : Int) + 1) = ((i + 1 : Nat) : Int) := by rw [wrap_i64 (by omega) (by omega)]; rfl
      have hno := eqL_at (eqL eqAtom) ls ls' i hlt (by omega)
      have hnext : eqL eqAtom ls[i] (ls'[i]'(by omega)) = true → ∀ j (h : j < ls.length) (h' : j < ls'.length), j < i + 1 → eqL eqAtom ls[j] ls'[j] = true := fun he j h h' hj => by
        rcases Nat.lt_succ_iff_lt_or_eq.1 hj with h1 | h1
        · exact hp j h h' h1
        · subst h1; exact he
      generalize ls[i] = x at hd hno hnext
      generalize ls'[i]'(by omega) = y at hd' hno hnext
      refine bwp_seq fun K hK => bwp_region rfl ?_
      simp only [go_sem, ↓reduceIte, hlt']
      refine hK _ ?_; clear hK
      refine bwp_seq fun K3 hK3 => ?_
      refine bwp_cond true (by simp [ev, fget, hlt']) (fun _ => ?_) (fun h => nomatch h)
      refine bwp_skip ?_
      refine hK3 _ ?_; clear hK3
      refine bwp_seq fun K3 hK3 => ?_
      refine bwp_block ?_
      refine bwp_seq fun K hK => bwp_region rfl ?_
      simp only [go_sem, ↓reduceIte, hDe, hlt', Int.natCast_nonneg, Int.toNat_natCast, hcs, hdrop]
      refine hK _ ?_; clear hK
      refine bwp_seq fun K hK => bwp_region rfl ?_
      simp only [go_sem, ↓reduceIte, hDe', hlt2, Int.natCast_nonneg, Int.toNat_natCast, hcs', hdrop']
      refine hK _ ?_; clear hK
      refine bwp_seq fun K hK => bwp_region rfl ?_
      simp only [go_sem, ↓reduceIte]
      refine ⟨rfl, ?_⟩
      refine callK_pure (equalAtom_pure hd hd') rfl rfl ?_
      simp only [go_sem, ↓reduceIte]
      refine hK _ ?_; clear hK
      cases he : eqL eqAtom x y with
      | false =>
        refine bwp_cond true (by simp [ev, fget, he]) (fun _ => ?_) (fun h => nomatch h)
        refine bwp_seq fun K hK => bwp_region rfl ?_
        simp only [go_sem, ↓reduceIte]
        refine hK _ ?_; clear hK
        refine bwp_ret ?_
        simp only [go_sem, ↓reduceIte]
        refine aend_ret _ rfl rfl ⟨?_, rfl⟩
        simp [fget, hno he]
      | true =>
        refine bwp_cond false (by simp [ev, fget, he]) (fun h => nomatch h) (fun _ => ?_)
        refine bwp_skip ?_
        simp only [go_sem, ↓reduceIte]
        refine hK3 _ ?_; clear hK3
        refine bwp_region rfl ?_
        simp only [go_sem, ↓reduceIte, hw]
        refine ⟨hlt, hnext he, Leads.ent [] ⟨by simp [entT, fget, AV.ren, renL, pget, hDe, hDe'], by simp [entM], rfl, rfl⟩⟩
    · have hlt' : ¬ (i : Int) < ls.length := by omega
      refine bwp_seq fun K hK => bwp_region rfl ?_
      simp only [go_sem, ↓reduceIte, hlt']
      refine hK _ ?_; clear hK
      refine bwp_seq fun K3 hK3 => ?_
      refine bwp_cond false (by simp [ev, fget, hlt']) (fun h => nomatch h) (fun _ => ?_)
      simp only [go_sem, ↓reduceIte]
      refine bwp_exit ?_
      simp only [go_sem, ↓reduceIte]
      refine hK2 _ ?_; clear hK2
      refine bwp_seq fun K hK => bwp_region rfl ?_
      simp only [go_sem, ↓reduceIte]
      refine hK _ ?_; clear hK
      refine bwp_ret ?_
      simp only [go_sem]
      refine aend_ret _ rfl rfl ⟨?_, rfl⟩
      simp [fget, eqL_all (eqL eqAtom) ls ls' hl fun j h h' => hp j h h' (by omega)]
  · have hl1 : ¬ ((ls.length : Int) = (ls'.length : Int)) := by omega
    refine bwp_seq fun K hK => bwp_region rfl ?_
    simp only [go_sem, ↓reduceIte, hlen, hlen', hl1]
    refine hK _ ?_; clear hK
    refine bwp_cond true (by simp [ev, fget, hl1]) (fun _ => ?_) (fun h => nomatch h)
    refine bwp_seq fun K hK => bwp_region rfl ?_
    simp only [go_sem, ↓reduceIte]
    refine hK _ ?_; clear hK
    refine bwp_ret ?_
    simp only [go_sem]
    refine aend_ret _ rfl rfl ⟨?_, rfl⟩
    simp [fget, eqL_len (eqL eqAtom) ls ls' hl]
set_option maxHeartbeats 2000000 in
theorem same_pure {t u : Test} {cs cu : List DV} (hT : IsTest t cs) (hU : IsTest u cu) : Pure Tryz.prog 19 [.agg (cs.map .d), .agg (cu.map .d)] (.d (.bool (sameB t u))) := by
  obtain ⟨I, T, A, rfl, hI, hTh, hA⟩ := hT
  obtain ⟨I', T', A', rfl, hI', hTh', hA'⟩ := hU
  have k1 := equalInit_pure hI hI'
  have k2 := equalFuncIns_pure hTh hTh'
  have k3 := equalFuncAtom_pure hA hA'
  have hs : sameB t u = (decide (t.name = u.name) && (eqL eqInit t.inits u.inits && (eqL (eqL eqIns) t.threads u.threads && (decide (t.kind = u.kind) && eqL (eqL eqAtom) t.rows u.rows)))) := rfl
  generalize eqL eqInit t.inits u.inits = e1 at *
  generalize eqL (eqL eqIns) t.threads u.threads = e2 at *
  generalize eqL (eqL eqAtom) t.rows u.rows = e3 at *
  simp only [List.map_cons, List.map_nil]
  refine acalls_of Tryz.func19 ac19_ok Tryz.ntmps19 Tryz.results19 rfl ?_
  unfold ac19
  refine bwp_seq fun K hK => bwp_region rfl ?_
  simp only [go_sem, ↓reduceIte]
  refine hK _ ?_; clear hK
  by_cases h1 : t.name = u.name
  · refine bwp_seq fun K hK => bwp_region rfl ?_
    simp only [go_sem, ↓reduceIte, h1]
    refine callK_pure k1 rfl rfl ?_
    cases e1 with
    | false =>
      simp only [go_sem, ↓reduceIte]
      refine hK _ ?_; clear hK
      refine bwp_ret ?_
      simp only [go_sem]
      refine aend_ret _ rfl rfl ⟨?_, rfl⟩
      simp [fget, hs]
    | true =>
      simp only [go_sem, ↓reduceIte]
      refine callK_pure k2 rfl rfl ?_
      cases e2 with
      | false =>
        simp only [go_sem, ↓reduceIte]
        refine hK _ ?_; clear hK
        refine bwp_ret ?_
        simp only [go_sem]
        refine aend_ret _ rfl rfl ⟨?_, rfl⟩
        simp [fget, hs]
      | true =>
        by_cases h2 : t.kind = u.kind
        · simp only [go_sem, ↓reduceIte, h2]
          refine callK_pure k3 rfl rfl ?_
          simp only [go_sem, ↓reduceIte]
          refine hK _ ?_; clear hK
          refine bwp_ret ?_
          simp only [go_sem]
          refine aend_ret _ rfl rfl ⟨?_, rfl⟩
          simp [fget, hs, h1, h2]
        · simp only [go_sem, ↓reduceIte, h2]
          refine hK _ ?_; clear hK
          refine bwp_ret ?_
          simp only [go_sem]
          refine aend_ret _ rfl rfl ⟨?_, rfl⟩
          simp [fget, hs, h2]
  · refine bwp_seq fun K hK => bwp_region rfl ?_
    simp only [go_sem, ↓reduceIte, h1]
    refine hK _ ?_; clear hK
    refine bwp_ret ?_
    simp only [go_sem]
    refine aend_ret _ rfl rfl ⟨?_, rfl⟩
    simp [fget, hs, h1]
end Go.Proofs.YtpfbljkfbjjlkaaGreatDoor

/- Few: whether a test is small enough to be looked at. -/
namespace Go.Proofs.YtpfbljkfbjjlkaaGreatDoor
open Go Go.Jq
set_option maxRecDepth 100000
set_option linter.unusedSimpArgs false
def fewB (t : Test) : Bool :=
  decide (t.threads.length ≤ 6) && decide (t.inits.length ≤ 40) && decide (t.name.length ≤ 60) && decide (t.rows.length ≤ 12) && t.threads.all (fun l => decide (l.length ≤ 30)) && t.rows.all (fun l => decide (l.length ≤ 12))
def fwS (cs : List DV) (ex : Fr) : St := ⟨ex ++ [(1, .ptr 0 0)], [(0, cs.map .d)], 1⟩
set_option maxHeartbeats 2000000 in
theorem fw_threads {nm : List UInt8} {I T A : DV} {kd : Int} {ls : List (List Ins)} (hT : IsSl2 Ins.cells ls T) {Q : Exit → St → Prop}
    (hbad : ls.all (fun l => decide (l.length ≤ 30)) = false → ∀ S, fget S.t 2 = .d (.bool false) → Q .ret S) (hgood : ls.all (fun l => decide (l.length ≤ 30)) = true → Q (.exit 0) (fwS [.str nm, I, T, .int .i64 kd, A] [])) :
    BWP Tryz.prog (mbound []) 58 (.loop ac16L0) (fwS [.str nm, I, T, .int .i64 kd, A] [(3, .d (.int .i64 (0 : Nat)))]) Q := by
  have hb := hT.big
  refine bwp_countI (fun k => fwS [.str nm, I, T, .int .i64 kd, A] [(3, .d (.int .i64 (k : Nat)))]) (fun k => ∀ a ∈ ls.take k, a.length ≤ 30) ls.length (by simp) ?_
  intro k hk hp
  unfold ac16L0 fwS
  simp only [List.cons_append, List.nil_append, List.map_cons, List.map_nil]
  refine bwp_seq fun K1 hK1 => ?_
  by_cases hlt : k < ls.length
  · have hlt' : (k : Int) < ls.length := by omega
    obtain ⟨cs1, d, rest1, hTe, hd1, hjc, hD⟩ := hT.at k hlt
    have hw : IntKind.i64.wrap ((k : Int) + 1) = ((k + 1 : Nat) : Int) := by rw [wrap_i64 (by omega) (by omega)]; rfl
    have hmem : ls[k] ∈ ls := List.getElem_mem hlt
    have htk := take_snoc ls k hlt
    generalize ls[k] = a at *
    refine bwp_seq fun K hK => bwp_region rfl ?_
    simp only [go_sem, ↓reduceIte, hT.len, hlt']
    refine hK _ ?_; clear hK
    refine bwp_cond true (by simp [ev, fget, hlt']) (fun _ => ?_) (fun h => nomatch h)
    refine bwp_skip ?_
    refine hK1 _ ?_; clear hK1
    refine bwp_seq fun K1 hK1 => ?_
    refine bwp_block ?_
    refine bwp_seq fun K hK => bwp_region rfl ?_
    simp only [go_sem, ↓reduceIte, hTe, hlt', Int.natCast_nonneg, Int.toNat_natCast, hd1, hjc, hD.len]
    refine hK _ ?_; clear hK
    by_cases h30 : 30 < a.length
    · have h30' : (30 : Int) < a.length := by omega
      refine bwp_cond true (by simp [ev, fget, h30']) (fun _ => ?_) (fun h => nomatch h)
      refine bwp_seq fun K hK => bwp_region rfl ?_
      simp only [go_sem, ↓reduceIte]
      refine hK _ ?_; clear hK
      refine bwp_ret ?_
      simp only [go_sem, ↓reduceIte]
      refine hbad ?_ _ rfl
      rw [List.all_eq_false]
      exact ⟨a, hmem, by simp; omega⟩
    · have h30' : ¬ (30 : Int) < a.length := by omega
      refine bwp_cond false (by simp [ev, fget, h30']) (fun h => nomatch h) (fun _ => ?_)
      refine bwp_skip ?_
      simp only [go_sem, ↓reduceIte]
      refine hK1 _ ?_; clear hK1
      refine bwp_region rfl ?_
      simp only [go_sem, ↓reduceIte, hw]
      refine ⟨hlt, ?_, Leads.ent [(0, 0)] ⟨by simp [entT, fget, AV.ren, renL, pget], by simp [entM, pinv, mget, renL, AV.ren, pget, hTe], rfl, rfl⟩⟩
      intro b hb
      rw [htk, List.mem_append] at hb
      rcases hb with hb | hb
      · exact hp b hb
      · simp only [List.mem_singleton] at hb; rw [hb]; omega
  · have hlt' : ¬ (k : Int) < ls.length := by omega
    have hin : k = ls.length := by omega
    subst hin
    rw [List.take_of_length_le (Nat.le_refl _)] at hp
    refine bwp_seq fun K hK => bwp_region rfl ?_
    simp only [go_sem, ↓reduceIte, hT.len, hlt']
    refine hK _ ?_; clear hK
    refine bwp_cond false (by simp [ev, fget, hlt']) (fun h => nomatch h) (fun _ => ?_)
    refine bwp_leads (S' := fwS [.str nm, I, T, .int .i64 kd, A] []) (Leads.ent [(0, 0)] ⟨by simp [entT, fget, AV.ren, renL, pget, fwS], by simp [entM, pinv, mget, mset, renL, AV.ren, pget, renL_append, -List.map_map, fwS], rfl, rfl⟩) ?_
    refine bwp_exit (hgood ?_)
    rw [List.all_eq_true]
    intro a ha
    exact decide_eq_true (hp a ha)
set_option maxHeartbeats 2000000 in
theorem fw_rows {nm : List UInt8} {I T A : DV} {kd : Int} {ls : List (List Atom)} (hA : IsSl2 Atom.cells ls A) {Q : Exit → St → Prop}
    (hbad : ls.all (fun l => decide (l.length ≤ 12)) = false → ∀ S, fget S.t 2 = .d (.bool false) → Q .ret S) (hgood : ls.all (fun l => decide (l.length ≤ 12)) = true → Q (.exit 2) (fwS [.str nm, I, T, .int .i64 kd, A] [])) :
    BWP Tryz.prog (mbound []) 58 (.loop ac16L1) (fwS [.str nm, I, T, .int .i64 kd, A] [(4, .d (.int .i64 (0 : Nat)))]) Q := by
  have hb := hA.big
  refine bwp_countI (fun k => fwS [.str nm, I, T, .int .i64 kd, A] [(4, .d (.int .i64 (k : Nat)))]) (fun k => ∀ a ∈ ls.take k, a.length ≤ 12) ls.length (by simp) ?_
  intro k hk hp
  unfold ac16L1 fwS
  simp only [List.cons_append, List.nil_append, List.map_cons, List.map_nil]
  refine bwp_seq fun K1 hK1 => ?_
  by_cases hlt : k < ls.length
  · have hlt' : (k : Int) < ls.length := by omega
    obtain ⟨cs1, d, rest1, hAe, hd1, hjc, hD⟩ := hA.at k hlt
    have hw : IntKind.i64.wrap ((k : Int) + 1) = ((k + 1 : Nat) : Int) := by rw [wrap_i64 (by omega) (by omega)]; rfl
    have hmem : ls[k] ∈ ls := List.getElem_mem hlt
    have htk := take_snoc ls k hlt
    generalize ls[k] = a at *
    refine bwp_seq fun K hK => bwp_region rfl ?_
    simp only [go_sem, ↓reduceIte, hA.len, hlt']
    refine hK _ ?_; clear hK
    refine bwp_cond true (by simp [ev, fget, hlt']) (fun _ => ?_) (fun h => nomatch h)
    refine bwp_skip ?_
    refine hK1 _ ?_; clear hK1
    refine bwp_seq fun K1 hK1 => ?_
    refine bwp_block ?_
    refine bwp_seq fun K hK => bwp_region rfl ?_
    simp only [go_sem, ↓reduceIte, hAe, hlt', Int.natCast_nonneg, Int.toNat_natCast, hd1, hjc, hD.len]
    refine hK _ ?_; clear hK
    by_cases h30 : 12 < a.length
    · have h30' : (12 : Int) < a.length := by omega
      refine bwp_cond true (by simp [ev, fget, h30']) (fun _ => ?_) (fun h => nomatch h)
      refine bwp_seq fun K hK => bwp_region rfl ?_
      simp only [go_sem, ↓reduceIte]
      refine hK _ ?_; clear hK
      refine bwp_ret ?_
      simp only [go_sem, ↓reduceIte]
      refine hbad ?_ _ rfl
      rw [List.all_eq_false]
      exact ⟨a, hmem, by simp; omega⟩
    · have h30' : ¬ (12 : Int) < a.length := by omega
      refine bwp_cond false (by simp [ev, fget, h30']) (fun h => nomatch h) (fun _ => ?_)
      refine bwp_skip ?_
      simp only [go_sem, ↓reduceIte]
      refine hK1 _ ?_; clear hK1
      refine bwp_region rfl ?_
      simp only [go_sem, ↓reduceIte, hw]
      refine ⟨hlt, ?_, Leads.ent [(0, 0)] ⟨by simp [entT, fget, AV.ren, renL, pget], by simp [entM, pinv, mget, renL, AV.ren, pget, hAe], rfl, rfl⟩⟩
      intro b hb
      rw [htk, List.mem_append] at hb
      rcases hb with hb | hb
      · exact hp b hb
      · simp only [List.mem_singleton] at hb; rw [hb]; omega
  · have hlt' : ¬ (k : Int) < ls.length := by omega
    have hin : k = ls.length := by omega
    subst hin
    rw [List.take_of_length_le (Nat.le_refl _)] at hp
    refine bwp_seq fun K hK => bwp_region rfl ?_
    simp only [go_sem, ↓reduceIte, hA.len, hlt']
    refine hK _ ?_; clear hK
    refine bwp_cond false (by simp [ev, fget, hlt']) (fun h => nomatch h) (fun _ => ?_)
    refine bwp_leads (S' := fwS [.str nm, I, T, .int .i64 kd, A] []) (Leads.ent [(0, 0)] ⟨by simp [entT, fget, AV.ren, renL, pget, fwS], by simp [entM, pinv, mget, mset, renL, AV.ren, pget, renL_append, -List.map_map, fwS], rfl, rfl⟩) ?_
    refine bwp_exit (hgood ?_)
    rw [List.all_eq_true]
    intro a ha
    exact decide_eq_true (hp a ha)
set_option maxHeartbeats 2000000 in
theorem few_pure {t : Test} {cs : List DV} (hT : IsTest t cs) : Pure Tryz.prog 16 [.agg (cs.map .d)] (.d (.bool (fewB t))) := by
  obtain ⟨I, T, A, rfl, hI, hTh, hA⟩ := hT
  have hs : fewB t = (decide (t.threads.length ≤ 6) && decide (t.inits.length ≤ 40) && decide (t.name.length ≤ 60) && decide (t.rows.length ≤ 12) && t.threads.all (fun l => decide (l.length ≤ 30)) && t.rows.all (fun l => decide (l.length ≤ 12))) := rfl
  simp only [List.map_cons, List.map_nil]
  refine acalls_of Tryz.func16 ac16_ok Tryz.ntmps16 Tryz.results16 rfl ?_
  unfold ac16
  refine bwp_seq fun K hK => bwp_region rfl ?_
  simp only [go_sem, ↓reduceIte]
  refine hK _ ?_; clear hK
  refine bwp_seq fun K1 hK1 => ?_
  have no : ∀ S : St, fewB t = false → decide (mbound [] ≤ S.n) = true → BWP Tryz.prog (mbound []) 58 ((ACode.region false [⟨some 2, .mv (.c (.d (.bool false))), none⟩] []).seq ACode.ret) S (Exit.thenA K1 (AEnd Tryz.prog #[.tmp 2] (mbound []) fun r m' => r = .d (.bool (fewB t)) ∧ m' = [])) := by
    intro S h0 hn
    rw [h0]
    refine bwp_seq fun K hK => bwp_region hn ?_
    simp only [go_sem, ↓reduceIte]
    refine hK _ ?_; clear hK
    refine bwp_ret ?_
    simp only [go_sem]
    refine aend_ret _ rfl rfl ⟨?_, rfl⟩
    simp [fget]
  by_cases h1 : 6 < t.threads.length
  · have h1' : (6 : Int) < t.threads.length := by omega
    refine bwp_seq fun K hK => bwp_region rfl ?_
    simp only [go_sem, ↓reduceIte, hTh.len, h1']
    refine hK _ ?_; clear hK
    refine bwp_cond true (by simp [ev, fget, h1']) (fun _ => ?_) (fun h => nomatch h)
    exact no _ (by have : ¬ t.threads.length ≤ 6 := by omega
                   simp [hs, this]) rfl
  have h1' : ¬ (6 : Int) < t.threads.length := by omega
  by_cases h2 : 40 < t.inits.length
  · have h2' : (40 : Int) < t.inits.length := by omega
    refine bwp_seq fun K hK => bwp_region rfl ?_
    simp only [go_sem, ↓reduceIte, hTh.len, h1', hI.len, h2']
    refine hK _ ?_; clear hK
    refine bwp_cond true (by simp [ev, fget, h1', h2']) (fun _ => ?_) (fun h => nomatch h)
    exact no _ (by have : ¬ t.inits.length ≤ 40 := by omega
                   simp [hs, this]) rfl
  have h2' : ¬ (40 : Int) < t.inits.length := by omega
  by_cases h3 : 60 < t.name.length
  · have h3' : (60 : Int) < t.name.length := by omega
    refine bwp_seq fun K hK => bwp_region rfl ?_
    simp only [go_sem, ↓reduceIte, hTh.len, h1', hI.len, h2', h3']
    refine hK _ ?_; clear hK
    refine bwp_cond true (by simp [ev, fget, h1', h2', h3']) (fun _ => ?_) (fun h => nomatch h)
    exact no _ (by have : ¬ t.name.length ≤ 60 := by omega
                   simp [hs, this]) rfl
  have h3' : ¬ (60 : Int) < t.name.length := by omega
  by_cases h4 : 12 < t.rows.length
  · have h4' : (12 : Int) < t.rows.length := by omega
    refine bwp_seq fun K hK => bwp_region rfl ?_
    simp only [go_sem, ↓reduceIte, hTh.len, h1', hI.len, h2', h3', hA.len, h4']
    refine hK _ ?_; clear hK
    refine bwp_cond true (by simp [ev, fget, h1', h2', h3', h4']) (fun _ => ?_) (fun h => nomatch h)
    exact no _ (by have : ¬ t.rows.length ≤ 12 := by omega
                   simp [hs, this]) rfl
  have h4' : ¬ (12 : Int) < t.rows.length := by omega
  have g1 : t.threads.length ≤ 6 := by omega
  have g2 : t.inits.length ≤ 40 := by omega
  have g3 : t.name.length ≤ 60 := by omega
  have g4 : t.rows.length ≤ 12 := by omega
  refine bwp_seq fun K hK => bwp_region rfl ?_
  simp only [go_sem, ↓reduceIte, hTh.len, h1', hI.len, h2', h3', hA.len, h4']
  refine hK _ ?_; clear hK
  refine bwp_cond false (by simp [ev, fget, h1', h2', h3', h4']) (fun h => nomatch h) (fun _ => ?_)
  refine bwp_skip ?_
  refine hK1 _ ?_; clear hK1
  refine bwp_seq fun K2 hK2 => ?_
  refine bwp_seq fun K hK => bwp_region rfl ?_
  simp only [go_sem, ↓reduceIte]
  refine hK _ ?_; clear hK
  refine bwp_block ?_
  refine bwp_leads (S' := fwS [.str t.name, I, T, .int .i64 t.kind, A] [(3, .d (.int .i64 (0 : Nat)))]) (Leads.ent [(0, 0)] ⟨by simp [entT, fget, AV.ren, renL, pget, fwS], by simp [entM, pinv, mget, mset, renL, AV.ren, pget, renL_append, -List.map_map, fwS], rfl, rfl⟩) ?_
  refine fw_threads hTh ?_ ?_
  · intro he S hS
    simp only [go_sem, ↓reduceIte]
    exact aend_ret (.d (.bool false)) (by simp [resA, resVs, resV, hS]) rfl ⟨by rw [hs, he]; simp, rfl⟩
  · intro he1
    simp only [go_sem, ↓reduceIte]
    refine hK2 _ ?_; clear hK2
    unfold fwS
    simp only [List.nil_append, List.map_cons, List.map_nil]
    refine bwp_seq fun K2 hK2 => ?_
    refine bwp_seq fun K hK => bwp_region rfl ?_
    simp only [go_sem, ↓reduceIte]
    refine hK _ ?_; clear hK
    refine bwp_block ?_
    refine bwp_leads (S' := fwS [.str t.name, I, T, .int .i64 t.kind, A] [(4, .d (.int .i64 (0 : Nat)))]) (Leads.ent [(0, 0)] ⟨by simp [entT, fget, AV.ren, renL, pget, fwS], by simp [entM, pinv, mget, mset, renL, AV.ren, pget, renL_append, -List.map_map, fwS], rfl, rfl⟩) ?_
    refine fw_rows hA ?_ ?_
    · intro he S hS
      simp only [go_sem, ↓reduceIte]
      exact aend_ret (.d (.bool false)) (by simp [resA, resVs, resV, hS]) rfl ⟨by rw [hs, he]; simp, rfl⟩
    · intro he2
      simp only [go_sem, ↓reduceIte]
      refine hK2 _ ?_; clear hK2
      unfold fwS
      refine bwp_seq fun K hK => bwp_region rfl ?_
      simp only [go_sem, ↓reduceIte]
      refine hK _ ?_; clear hK
      refine bwp_ret ?_
      simp only [go_sem]
      refine aend_ret _ rfl rfl ⟨?_, rfl⟩
      rw [hs, he1, he2]
      simp [fget, g1, g2, g3, g4]
end Go.Proofs.YtpfbljkfbjjlkaaGreatDoor

/- PrintBack comes to true; unlike tests have unlike texts. -/
namespace Go.Proofs.YtpfbljkfbjjlkaaGreatDoor
open Go Go.Jq
set_option maxRecDepth 100000
set_option linter.unusedSimpArgs false
theorem lace_runs {t : Test} (h : FitT t) {l : List (List UInt8 × List UInt8)} (hg : GoodLace l) (hl : l.map (·.1) = wordsT t) : ∃ b, tTest.run (laceT l) 0 = .ok (t, b) := by
  obtain ⟨toks, h1, h2⟩ := tl_lace l [] [] hg rfl
  simp only [List.nil_append, List.length_nil] at h1
  have hk := test_K h
  have e : l.map (fun p => kW p.1) = (wordsT t).map kW := by rw [← hl, List.map_map]; rfl
  rw [e] at h2
  rw [← h2] at hk
  obtain ⟨b, l', hr, _⟩ := tTest.run_of_runK (Nat.zero_le _) h1 hk
  exact ⟨b, hr⟩
theorem RangeT.few {t : Test} (h : RangeT t) (hf : fewB t = true) : FewT t := by
  simp only [fewB, Bool.and_eq_true, decide_eq_true_eq, List.all_eq_true] at hf
  obtain ⟨⟨⟨⟨⟨h1, h2⟩, h3⟩, h4⟩, h5⟩, h6⟩ := hf
  exact ⟨by omega, by omega, h.values, by omega, fun l hl => ⟨h5 l hl, h.ins l hl⟩, h4, fun l hl => ⟨h6 l hl, h.rows l hl⟩⟩
theorem FewT.fit {t : Test} (hf : FewT t) (h : ValT t) : FitT t := by
  refine ⟨h.ok, h.inits, h.ins, h.atoms, ?_, ?_, fun l hl => ?_, ?_, fun l hl => ?_⟩
  · have := hf.inits; unfold fuelP; omega
  · have := hf.threads; unfold fuelP; omega
  · have := (hf.ins l hl).1; unfold fuelP; omega
  · have := hf.rows.1; unfold fuelP; omega
  · have := (hf.rows.2 l hl).1; unfold fuelP; omega
theorem range_val {t : Test} (h : RangeT t) (hok : okB t = true) : ValT t := ⟨hok, h.values, h.ins, h.rows⟩
theorem text_inj {t u : Test} (ht : ValT t) (ft : FitT t) (hu : ValT u) (fu : FitT u) (h : testT t = testT u) : t = u := by
  obtain ⟨l, a1, a2, a3⟩ := test_lace ht
  obtain ⟨l', b1, b2, b3⟩ := test_lace hu
  obtain ⟨x, hx⟩ := lace_runs ft a3 a2
  obtain ⟨y, hy⟩ := lace_runs fu b3 b2
  rw [← a1] at hx
  rw [← b1, ← h, hx] at hy
  simp only [Except.ok.injEq, Prod.mk.injEq] at hy
  exact hy.1
end Go.Proofs.YtpfbljkfbjjlkaaGreatDoor

/- PrintApart comes to true. -/
namespace Go.Proofs.YtpfbljkfbjjlkaaGreatDoor
open Go Go.Jq
set_option maxRecDepth 100000
set_option linter.unusedSimpArgs false
theorem ParsedT.few {t : Test} (h : ParsedT t) : FewT3 t := by
  have h1 := h.lens.inits
  have h2 := h.lens.threads
  have h3 := h.lens.rows
  unfold fuelP at h1 h2 h3
  exact ⟨by have := h.name; omega, by omega, h.val.inits, by omega, fun l hl => ⟨by have := h.lens.ins l hl; unfold fuelP at this; omega, h.val.ins l hl⟩, h3, fun l hl => ⟨h.lens.atoms l hl, h.val.atoms l hl⟩⟩
theorem text_len3 {t : Test} (hf : FewT3 t) : (testT t).length ≤ 9000000000 := by
  have h1 := flat_len threadL 630000 t.threads (fun l hl => threadL_len3 (hf.ins l hl).1 (hf.ins l hl).2)
  have h2 := hf.threads
  have h3 := initsL_len3 hf.inits hf.values
  have h4 := condT_len3 (kind := t.kind) hf.rows
  have h5 := hf.name
  have h6 : (initsL t.inits).length ≤ 130010 := by
    unfold initsL
    split
    · simp
    · simp only [List.length_append, List.length_cons, List.length_nil]; omega
  have h7 : (condL t).length ≤ 1300000200 := by
    unfold condL
    split
    · simp
    · simp only [List.length_append, List.length_cons, List.length_nil]; omega
  have h8 : (headL t).length ≤ 4010 := by simp only [headL, List.length_append, List.length_cons, List.length_nil]; omega
  unfold testT
  split
  · simp only [List.length_append, List.length_cons, List.length_nil]
    omega
  · simp
theorem same_text {t u : Test} (ht : RangeT t) (ft : FewT t) (hu : RangeT u) (fu : FewT u) (h1 : okB t = true) (h2 : okB u = true) : decide (testT t = testT u) = sameB t u := by
  by_cases h : t = u
  · subst h
    rw [(sameB_iff _ _).2 rfl]
    simp
  · have hs : sameB t u = false := by
      cases hb : sameB t u with
      | false => rfl
      | true => exact absurd ((sameB_iff _ _).1 hb) h
    rw [hs]
    simp only [decide_eq_false_iff_not]
    exact fun he => h (text_inj (range_val ht h1) (ft.fit (range_val ht h1)) (range_val hu h2) (fu.fit (range_val hu h2)) he)
set_option maxHeartbeats 16000000 in
theorem printApart_pure {t u : Test} {cs cu : List DV} (hT : IsTest t cs) (hv : RangeT t) (hU : IsTest u cu) (hv' : RangeT u) {s : List UInt8} (hs : s.length ≤ maxLen) :
    Pure Tryz.prog 6 [.agg (cs.map .d), .agg (cu.map .d), .d (.str s)] (.d (.bool true)) := by
  have haw := awake_pure
  have hm : maxLen = 9223372036854775807 := rfl
  have kf := few_pure hT
  have kf' := few_pure hU
  have ko := ok_pure hT hv.name
  have ko' := ok_pure hU hv'.name
  have ks := same_pure hT hU
  have kt := fun h => test_pure hT (hv.few h)
  have kt' := fun h => test_pure hU (hv'.few h)
  have kp := parse2_pure hs
  have hst := fun h h' => same_text hv (hv.few h) hv' (hv'.few h')
  obtain ⟨I, T, A, rfl, hI, hTh, hA⟩ := hT
  obtain ⟨I', T', A', rfl, hI', hTh', hA'⟩ := hU
  simp only [List.map_cons, List.map_nil] at kf kf' ko ko' ks kt kt' ⊢
  refine acalls_of Tryz.func6 ac6_ok Tryz.ntmps6 Tryz.results6 rfl ?_
  unfold ac6
  refine bwp_seq fun K hK => bwp_region rfl ?_
  simp -implicitDefEqProofs only [go_sem, ↓reduceIte]
  refine hK _ ?_; clear hK
  refine bwp_seq fun K1 hK1 => ?_
  have no : ∀ S : St, decide (mbound [] ≤ S.n) = true → BWP Tryz.prog (mbound []) Tryz.f6.ntmps ((ACode.region false [⟨some 20, .callf 17 [], none⟩, ⟨some 6, .mv (.t 20), none⟩] []).seq ACode.ret) S (Exit.thenA K1 (AEnd Tryz.prog #[.tmp 6] (mbound []) fun r m' => r = .d (.bool true) ∧ m' = [])) := by
    intro S hn
    refine bwp_seq fun K hK => bwp_region hn ?_
    simp -implicitDefEqProofs only [go_sem, ↓reduceIte]
    refine callK_pure haw rfl rfl ?_
    simp -implicitDefEqProofs only [go_sem, ↓reduceIte]
    refine hK _ ?_; clear hK
    refine bwp_ret ?_
    simp only [go_sem]
    refine aend_ret _ rfl rfl ⟨?_, rfl⟩
    simp [fget]
  cases hfew : fewB t with
  | false =>
    rw [hfew] at kf
    refine bwp_seq fun K hK => bwp_region rfl ?_
    simp -implicitDefEqProofs only [go_sem, ↓reduceIte]
    repeat' (first
      | (refine gateK_split (fun hb => ?_) (fun hb => ?_) <;> simp -implicitDefEqProofs only [go_sem, ↓reduceIte, hb, Bool.not_false])
      | (refine dGateK_split (fun hb => ?_) (fun hb => ?_) <;> simp -implicitDefEqProofs only [go_sem, ↓reduceIte, hb, Bool.not_false])
      | (refine callK_pure (kf) rfl rfl ?_; simp -implicitDefEqProofs only [go_sem, ↓reduceIte, Bool.not_false])
      | (refine dCallK_pure (kf) rfl rfl ?_; simp -implicitDefEqProofs only [go_sem, ↓reduceIte, Bool.not_false])
      | (rw [if_pos (by (try simp only [List.length_append, List.length_cons, List.length_nil, List.length_map]); omega)]; simp -implicitDefEqProofs only [go_sem, ↓reduceIte, Bool.not_false]))
    refine hK _ ?_; clear hK
    refine bwp_cond true (by simp [ev, fget]) (fun _ => ?_) (fun h => nomatch h)
    exact no _ rfl
  | true =>
    rw [hfew] at kf
    cases hfew' : fewB u with
    | false =>
      rw [hfew'] at kf'
      refine bwp_seq fun K hK => bwp_region rfl ?_
      simp -implicitDefEqProofs only [go_sem, ↓reduceIte]
      repeat' (first
        | (refine gateK_split (fun hb => ?_) (fun hb => ?_) <;> simp -implicitDefEqProofs only [go_sem, ↓reduceIte, hb, Bool.not_false, Bool.not_true])
        | (refine dGateK_split (fun hb => ?_) (fun hb => ?_) <;> simp -implicitDefEqProofs only [go_sem, ↓reduceIte, hb, Bool.not_false, Bool.not_true])
        | (refine callK_pure (kf) rfl rfl ?_; simp -implicitDefEqProofs only [go_sem, ↓reduceIte, Bool.not_false, Bool.not_true])
        | (refine dCallK_pure (kf) rfl rfl ?_; simp -implicitDefEqProofs only [go_sem, ↓reduceIte, Bool.not_false, Bool.not_true])
        | (refine callK_pure (kf') rfl rfl ?_; simp -implicitDefEqProofs only [go_sem, ↓reduceIte, Bool.not_false, Bool.not_true])
        | (refine dCallK_pure (kf') rfl rfl ?_; simp -implicitDefEqProofs only [go_sem, ↓reduceIte, Bool.not_false, Bool.not_true])
        | (rw [if_pos (by (try simp only [List.length_append, List.length_cons, List.length_nil, List.length_map]); omega)]; simp -implicitDefEqProofs only [go_sem, ↓reduceIte, Bool.not_false, Bool.not_true]))
      refine hK _ ?_; clear hK
      refine bwp_cond true (by simp [ev, fget]) (fun _ => ?_) (fun h => nomatch h)
      exact no _ rfl
    | true =>
      rw [hfew'] at kf'
      clear no
      have kt := kt hfew
      have kt' := kt' hfew'
      have hst := hst hfew hfew'
      refine bwp_seq fun K hK => bwp_region rfl ?_
      simp -implicitDefEqProofs only [go_sem, ↓reduceIte]
      repeat' (first
        | (refine gateK_split (fun hb => ?_) (fun hb => ?_) <;> simp -implicitDefEqProofs only [go_sem, ↓reduceIte, hb, Bool.not_true])
        | (refine dGateK_split (fun hb => ?_) (fun hb => ?_) <;> simp -implicitDefEqProofs only [go_sem, ↓reduceIte, hb, Bool.not_true])
        | (refine callK_pure (kf) rfl rfl ?_; simp -implicitDefEqProofs only [go_sem, ↓reduceIte, Bool.not_true])
        | (refine dCallK_pure (kf) rfl rfl ?_; simp -implicitDefEqProofs only [go_sem, ↓reduceIte, Bool.not_true])
        | (refine callK_pure (kf') rfl rfl ?_; simp -implicitDefEqProofs only [go_sem, ↓reduceIte, Bool.not_true])
        | (refine dCallK_pure (kf') rfl rfl ?_; simp -implicitDefEqProofs only [go_sem, ↓reduceIte, Bool.not_true])
        | (rw [if_pos (by (try simp only [List.length_append, List.length_cons, List.length_nil, List.length_map]); omega)]; simp -implicitDefEqProofs only [go_sem, ↓reduceIte, Bool.not_true]))
      refine hK _ ?_; clear hK
      refine bwp_cond false (by simp [ev, fget]) (fun h => nomatch h) (fun _ => ?_)
      refine bwp_skip ?_
      refine hK1 _ ?_; clear hK1
      clear kf kf'
      refine bwp_seq fun K1 hK1 => ?_
      have fin : ∀ S : St, Leads (mbound []) Tryz.f6.ntmps S ⟨[(2, .d (.str s))], [], 0⟩ → K1 S := by
        intro S hS
        refine hK1 _ ?_; clear hK1
        refine bwp_leads hS ?_
        clear hS ko ko' ks kt kt' hst
        cases hp : pTest s with
        | error e =>
          obtain ⟨c, q⟩ := e
          have hc0 : ¬ c = 0 := pTest_code0 hp
          rw [hp] at kp
          simp only [pCells, pCode, pAt, testD0, List.map_cons, List.map_nil] at kp
          refine bwp_seq fun K hK => bwp_region rfl ?_
          simp -implicitDefEqProofs only [go_sem, ↓reduceIte]
          repeat' (first
            | (refine gateK_split (fun hb => ?_) (fun hb => ?_) <;> simp -implicitDefEqProofs only [go_sem, ↓reduceIte, hb])
            | (refine dGateK_split (fun hb => ?_) (fun hb => ?_) <;> simp -implicitDefEqProofs only [go_sem, ↓reduceIte, hb])
            | (refine callK_pure (kp) rfl rfl ?_; simp -implicitDefEqProofs only [go_sem, ↓reduceIte])
            | (refine dCallK_pure (kp) rfl rfl ?_; simp -implicitDefEqProofs only [go_sem, ↓reduceIte])
            | (rw [if_pos (by (try simp only [List.length_append, List.length_cons, List.length_nil, List.length_map]); omega)]; simp -implicitDefEqProofs only [go_sem, ↓reduceIte]))
          refine hK _ ?_; clear hK
          refine bwp_seq fun K2 hK2 => ?_
          refine bwp_seq fun K hK => bwp_region rfl ?_
          simp -implicitDefEqProofs only [go_sem, ↓reduceIte, eq_false hc0, decide_false, Bool.not_false]
          refine hK _ ?_; clear hK
          refine bwp_cond true (by simp [ev, fget]) (fun _ => ?_) (fun h => nomatch h)
          refine bwp_seq fun K hK => bwp_region rfl ?_
          simp -implicitDefEqProofs only [go_sem, ↓reduceIte]
          repeat' (first
            | (refine gateK_split (fun hb => ?_) (fun hb => ?_) <;> simp -implicitDefEqProofs only [go_sem, ↓reduceIte, hb])
            | (refine dGateK_split (fun hb => ?_) (fun hb => ?_) <;> simp -implicitDefEqProofs only [go_sem, ↓reduceIte, hb])
            | (refine callK_pure (haw) rfl rfl ?_; simp -implicitDefEqProofs only [go_sem, ↓reduceIte])
            | (refine dCallK_pure (haw) rfl rfl ?_; simp -implicitDefEqProofs only [go_sem, ↓reduceIte])
            | (rw [if_pos (by (try simp only [List.length_append, List.length_cons, List.length_nil, List.length_map]); omega)]; simp -implicitDefEqProofs only [go_sem, ↓reduceIte]))
          refine hK _ ?_; clear hK
          refine bwp_ret ?_
          simp only [go_sem]
          refine aend_ret _ rfl rfl ⟨?_, rfl⟩
          simp [fget]
        | ok v =>
          have hpv := pTest_parsed hp
          rw [hp] at kp
          have hi1 := hpv.lens.isTest
          have k1 := test3_pure hi1 hpv.few
          have hvl := text_len3 hpv.few
          have hne : testT v ≠ [] := by
            unfold testT
            rw [if_pos hpv.val.ok]
            simp [headL]
          have hsp := text_reads hpv.val
          obtain ⟨I1, T1, A1, hc⟩ := pCells_split (.ok v)
          have hc2 : testD v = [.str (pT (.ok v)).name, I1, T1, .int .i64 (pT (.ok v)).kind, A1] := hc
          rw [hc] at kp
          have hi2 := hi1
          rw [hc2] at hi2
          rw [hc2] at k1
          simp only [List.map_cons, List.map_nil, pCode, pAt] at kp k1
          generalize (pT (.ok v)).name = nm at *
          generalize (pT (.ok v)).kind = kd at *
          generalize testT v = p at *
          refine bwp_seq fun K hK => bwp_region rfl ?_
          simp -implicitDefEqProofs only [go_sem, ↓reduceIte]
          repeat' (first
            | (refine gateK_split (fun hb => ?_) (fun hb => ?_) <;> simp -implicitDefEqProofs only [go_sem, ↓reduceIte, hb])
            | (refine dGateK_split (fun hb => ?_) (fun hb => ?_) <;> simp -implicitDefEqProofs only [go_sem, ↓reduceIte, hb])
            | (refine callK_pure (kp) rfl rfl ?_; simp -implicitDefEqProofs only [go_sem, ↓reduceIte])
            | (refine dCallK_pure (kp) rfl rfl ?_; simp -implicitDefEqProofs only [go_sem, ↓reduceIte])
            | (rw [if_pos (by (try simp only [List.length_append, List.length_cons, List.length_nil, List.length_map]); omega)]; simp -implicitDefEqProofs only [go_sem, ↓reduceIte]))
          refine hK _ ?_; clear hK
          refine bwp_seq fun K2 hK2 => ?_
          refine bwp_seq fun K hK => bwp_region rfl ?_
          simp -implicitDefEqProofs only [go_sem, ↓reduceIte]
          refine hK _ ?_; clear hK
          refine bwp_cond false (by simp [ev, fget]) (fun h => nomatch h) (fun _ => ?_)
          refine bwp_skip ?_
          refine hK2 _ ?_; clear hK2
          refine bwp_seq fun K hK => bwp_region rfl ?_
          simp -implicitDefEqProofs only [go_sem, ↓reduceIte]
          repeat' (first
            | (refine gateK_split (fun hb => ?_) (fun hb => ?_) <;> simp -implicitDefEqProofs only [go_sem, ↓reduceIte, hb])
            | (refine dGateK_split (fun hb => ?_) (fun hb => ?_) <;> simp -implicitDefEqProofs only [go_sem, ↓reduceIte, hb])
            | (refine callK_pure (k1) rfl rfl ?_; simp -implicitDefEqProofs only [go_sem, ↓reduceIte])
            | (refine dCallK_pure (k1) rfl rfl ?_; simp -implicitDefEqProofs only [go_sem, ↓reduceIte])
            | (rw [if_pos (by (try simp only [List.length_append, List.length_cons, List.length_nil, List.length_map]); omega)]; simp -implicitDefEqProofs only [go_sem, ↓reduceIte]))
          refine hK _ ?_; clear hK
          have hplen : p.length ≤ maxLen := by omega
          have k2 := parse2_pure hplen
          by_cases hp4 : 4000 < p.length
          · have hp4' : (4000 : Int) < p.length := by omega
            obtain ⟨I2, T2, A2, hc'⟩ := pCells_split (pTest p)
            rw [hc'] at k2
            generalize (pT (pTest p)).name = nm' at *
            generalize (pT (pTest p)).kind = kd' at *
            generalize pCode (pTest p) = c1 at *
            generalize pAt (pTest p) = c2 at *
            simp only [List.map_cons, List.map_nil] at k2
            refine bwp_seq fun K hK => bwp_region rfl ?_
            simp -implicitDefEqProofs only [go_sem, ↓reduceIte]
            repeat' (first
              | (refine gateK_split (fun hb => ?_) (fun hb => ?_) <;> simp -implicitDefEqProofs only [go_sem, ↓reduceIte, hb])
              | (refine dGateK_split (fun hb => ?_) (fun hb => ?_) <;> simp -implicitDefEqProofs only [go_sem, ↓reduceIte, hb])
              | (refine callK_pure (k2) rfl rfl ?_; simp -implicitDefEqProofs only [go_sem, ↓reduceIte])
              | (refine dCallK_pure (k2) rfl rfl ?_; simp -implicitDefEqProofs only [go_sem, ↓reduceIte])
              | (rw [if_pos (by (try simp only [List.length_append, List.length_cons, List.length_nil, List.length_map]); omega)]; simp -implicitDefEqProofs only [go_sem, ↓reduceIte]))
            refine hK _ ?_; clear hK
            refine bwp_seq fun K hK => bwp_region rfl ?_
            simp -implicitDefEqProofs only [go_sem, ↓reduceIte, eq_true hp4', decide_true, eq_false hne, decide_false, Bool.not_false]
            repeat' (first
              | (refine gateK_split (fun hb => ?_) (fun hb => ?_) <;> simp -implicitDefEqProofs only [go_sem, ↓reduceIte, hb, eq_false hne, decide_false, Bool.not_false])
              | (refine dGateK_split (fun hb => ?_) (fun hb => ?_) <;> simp -implicitDefEqProofs only [go_sem, ↓reduceIte, hb, eq_false hne, decide_false, Bool.not_false])
              | (refine callK_pure (haw) rfl rfl ?_; simp -implicitDefEqProofs only [go_sem, ↓reduceIte, eq_false hne, decide_false, Bool.not_false])
              | (refine dCallK_pure (haw) rfl rfl ?_; simp -implicitDefEqProofs only [go_sem, ↓reduceIte, eq_false hne, decide_false, Bool.not_false])
              | (rw [if_pos (by (try simp only [List.length_append, List.length_cons, List.length_nil, List.length_map]); omega)]; simp -implicitDefEqProofs only [go_sem, ↓reduceIte, eq_false hne, decide_false, Bool.not_false]))
            refine hK _ ?_; clear hK
            refine bwp_ret ?_
            simp only [go_sem]
            refine aend_ret _ rfl rfl ⟨?_, rfl⟩
            simp [fget]
          · have hp4' : ¬ (4000 : Int) < p.length := by omega
            have hrd := hsp (by omega)
            have hi3 := isTest_p p
            rw [hrd] at k2 hi3
            have k3 := same_pure hi2 hi3
            have hself : sameB v (pT (.ok v)) = true := (sameB_iff _ _).2 rfl
            rw [hself] at k3
            obtain ⟨I2, T2, A2, hc'⟩ := pCells_split (.ok v)
            rw [hc'] at k2 k3
            generalize (pT (.ok v)).name = nm' at *
            generalize (pT (.ok v)).kind = kd' at *
            simp only [List.map_cons, List.map_nil, pCode, pAt] at k2 k3
            refine bwp_seq fun K hK => bwp_region rfl ?_
            simp -implicitDefEqProofs only [go_sem, ↓reduceIte]
            repeat' (first
              | (refine gateK_split (fun hb => ?_) (fun hb => ?_) <;> simp -implicitDefEqProofs only [go_sem, ↓reduceIte, hb])
              | (refine dGateK_split (fun hb => ?_) (fun hb => ?_) <;> simp -implicitDefEqProofs only [go_sem, ↓reduceIte, hb])
              | (refine callK_pure (k2) rfl rfl ?_; simp -implicitDefEqProofs only [go_sem, ↓reduceIte])
              | (refine dCallK_pure (k2) rfl rfl ?_; simp -implicitDefEqProofs only [go_sem, ↓reduceIte])
              | (rw [if_pos (by (try simp only [List.length_append, List.length_cons, List.length_nil, List.length_map]); omega)]; simp -implicitDefEqProofs only [go_sem, ↓reduceIte]))
            refine hK _ ?_; clear hK
            refine bwp_seq fun K hK => bwp_region rfl ?_
            simp -implicitDefEqProofs only [go_sem, ↓reduceIte, eq_false hp4', eq_false hne, decide_false, Bool.not_false, beq_self_eq_true, bne_self_eq_false]
            repeat' (first
              | (refine gateK_split (fun hb => ?_) (fun hb => ?_) <;> simp -implicitDefEqProofs only [go_sem, ↓reduceIte, hb, eq_false hne, decide_false, Bool.not_false, beq_self_eq_true, bne_self_eq_false])
              | (refine dGateK_split (fun hb => ?_) (fun hb => ?_) <;> simp -implicitDefEqProofs only [go_sem, ↓reduceIte, hb, eq_false hne, decide_false, Bool.not_false, beq_self_eq_true, bne_self_eq_false])
              | (refine callK_pure (k3) rfl rfl ?_; simp -implicitDefEqProofs only [go_sem, ↓reduceIte, eq_false hne, decide_false, Bool.not_false, beq_self_eq_true, bne_self_eq_false])
              | (refine dCallK_pure (k3) rfl rfl ?_; simp -implicitDefEqProofs only [go_sem, ↓reduceIte, eq_false hne, decide_false, Bool.not_false, beq_self_eq_true, bne_self_eq_false])
              | (refine callK_pure (haw) rfl rfl ?_; simp -implicitDefEqProofs only [go_sem, ↓reduceIte, eq_false hne, decide_false, Bool.not_false, beq_self_eq_true, bne_self_eq_false])
              | (refine dCallK_pure (haw) rfl rfl ?_; simp -implicitDefEqProofs only [go_sem, ↓reduceIte, eq_false hne, decide_false, Bool.not_false, beq_self_eq_true, bne_self_eq_false])
              | (rw [if_pos (by (try simp only [List.length_append, List.length_cons, List.length_nil, List.length_map]); omega)]; simp -implicitDefEqProofs only [go_sem, ↓reduceIte, eq_false hne, decide_false, Bool.not_false, beq_self_eq_true, bne_self_eq_false]))
            refine hK _ ?_; clear hK
            refine bwp_ret ?_
            simp only [go_sem]
            refine aend_ret _ rfl rfl ⟨?_, rfl⟩
            simp [fget]
      cases hok : okB t with
      | false =>
        rw [hok] at ko
        refine bwp_seq fun K hK => bwp_region_draw rfl rfl ?_
        simp -implicitDefEqProofs only [go_sem, ↓reduceIte]
        repeat' (first
          | (refine gateK_split (fun hb => ?_) (fun hb => ?_) <;> simp -implicitDefEqProofs only [go_sem, ↓reduceIte, hb])
          | (refine dGateK_split (fun hb => ?_) (fun hb => ?_) <;> simp -implicitDefEqProofs only [go_sem, ↓reduceIte, hb])
          | (refine callK_pure (ko) rfl rfl ?_; simp -implicitDefEqProofs only [go_sem, ↓reduceIte])
          | (refine dCallK_pure (ko) rfl rfl ?_; simp -implicitDefEqProofs only [go_sem, ↓reduceIte])
          | (rw [if_pos (by (try simp only [List.length_append, List.length_cons, List.length_nil, List.length_map]); omega)]; simp -implicitDefEqProofs only [go_sem, ↓reduceIte]))
        refine ⟨rfl, hK _ ?_⟩; clear hK
        refine bwp_cond false (by simp [ev, fget]) (fun h => nomatch h) (fun _ => ?_)
        refine bwp_skip ?_
        refine fin _ (Leads.ent [] ⟨by simp [entT, fget, AV.ren, renL, pget], by simp [entM], rfl, rfl⟩)
      | true =>
        rw [hok] at ko
        cases hok' : okB u with
        | false =>
          rw [hok'] at ko'
          refine bwp_seq fun K hK => bwp_region_draw rfl rfl ?_
          simp -implicitDefEqProofs only [go_sem, ↓reduceIte]
          repeat' (first
            | (refine gateK_split (fun hb => ?_) (fun hb => ?_) <;> simp -implicitDefEqProofs only [go_sem, ↓reduceIte, hb])
            | (refine dGateK_split (fun hb => ?_) (fun hb => ?_) <;> simp -implicitDefEqProofs only [go_sem, ↓reduceIte, hb])
            | (refine callK_pure (ko) rfl rfl ?_; simp -implicitDefEqProofs only [go_sem, ↓reduceIte])
            | (refine dCallK_pure (ko) rfl rfl ?_; simp -implicitDefEqProofs only [go_sem, ↓reduceIte])
            | (refine callK_pure (ko') rfl rfl ?_; simp -implicitDefEqProofs only [go_sem, ↓reduceIte])
            | (refine dCallK_pure (ko') rfl rfl ?_; simp -implicitDefEqProofs only [go_sem, ↓reduceIte])
            | (rw [if_pos (by (try simp only [List.length_append, List.length_cons, List.length_nil, List.length_map]); omega)]; simp -implicitDefEqProofs only [go_sem, ↓reduceIte]))
          refine ⟨rfl, hK _ ?_⟩; clear hK
          refine bwp_cond false (by simp [ev, fget]) (fun h => nomatch h) (fun _ => ?_)
          refine bwp_skip ?_
          refine fin _ (Leads.ent [] ⟨by simp [entT, fget, AV.ren, renL, pget], by simp [entM], rfl, rfl⟩)
        | true =>
          rw [hok'] at ko'
          have hst := hst hok hok'
          generalize testT t = p1 at *
          generalize testT u = p2 at *
          refine bwp_seq fun K hK => bwp_region_draw rfl rfl ?_
          simp -implicitDefEqProofs only [go_sem, ↓reduceIte]
          repeat' (first
            | (refine gateK_split (fun hb => ?_) (fun hb => ?_) <;> simp -implicitDefEqProofs only [go_sem, ↓reduceIte, hb, hst, beq_self_eq_true, bne_self_eq_false, Bool.not_true])
            | (refine dGateK_split (fun hb => ?_) (fun hb => ?_) <;> simp -implicitDefEqProofs only [go_sem, ↓reduceIte, hb, hst, beq_self_eq_true, bne_self_eq_false, Bool.not_true])
            | (refine callK_pure (ko) rfl rfl ?_; simp -implicitDefEqProofs only [go_sem, ↓reduceIte, hst, beq_self_eq_true, bne_self_eq_false, Bool.not_true])
            | (refine dCallK_pure (ko) rfl rfl ?_; simp -implicitDefEqProofs only [go_sem, ↓reduceIte, hst, beq_self_eq_true, bne_self_eq_false, Bool.not_true])
            | (refine callK_pure (ko') rfl rfl ?_; simp -implicitDefEqProofs only [go_sem, ↓reduceIte, hst, beq_self_eq_true, bne_self_eq_false, Bool.not_true])
            | (refine dCallK_pure (ko') rfl rfl ?_; simp -implicitDefEqProofs only [go_sem, ↓reduceIte, hst, beq_self_eq_true, bne_self_eq_false, Bool.not_true])
            | (refine callK_pure (kt) rfl rfl ?_; simp -implicitDefEqProofs only [go_sem, ↓reduceIte, hst, beq_self_eq_true, bne_self_eq_false, Bool.not_true])
            | (refine dCallK_pure (kt) rfl rfl ?_; simp -implicitDefEqProofs only [go_sem, ↓reduceIte, hst, beq_self_eq_true, bne_self_eq_false, Bool.not_true])
            | (refine callK_pure (kt') rfl rfl ?_; simp -implicitDefEqProofs only [go_sem, ↓reduceIte, hst, beq_self_eq_true, bne_self_eq_false, Bool.not_true])
            | (refine dCallK_pure (kt') rfl rfl ?_; simp -implicitDefEqProofs only [go_sem, ↓reduceIte, hst, beq_self_eq_true, bne_self_eq_false, Bool.not_true])
            | (refine callK_pure (ks) rfl rfl ?_; simp -implicitDefEqProofs only [go_sem, ↓reduceIte, hst, beq_self_eq_true, bne_self_eq_false, Bool.not_true])
            | (refine dCallK_pure (ks) rfl rfl ?_; simp -implicitDefEqProofs only [go_sem, ↓reduceIte, hst, beq_self_eq_true, bne_self_eq_false, Bool.not_true])
            | (rw [if_pos (by (try simp only [List.length_append, List.length_cons, List.length_nil, List.length_map]); omega)]; simp -implicitDefEqProofs only [go_sem, ↓reduceIte, hst, beq_self_eq_true, bne_self_eq_false, Bool.not_true]))
          refine ⟨rfl, hK _ ?_⟩; clear hK
          refine bwp_cond false (by simp [ev, fget]) (fun h => nomatch h) (fun _ => ?_)
          refine bwp_skip ?_
          refine fin _ (Leads.ent [] ⟨by simp [entT, fget, AV.ren, renL, pget], by simp [entM], rfl, rfl⟩)
end Go.Proofs.YtpfbljkfbjjlkaaGreatDoor
