/- The abstract layer, part 23: slices.IndexFunc and slices.ContainsFunc over data, at any element. -/
import Derived.Test.YtjfghjakpjfgpaaX22
namespace Go.Jq
open Go
set_option linter.unusedSimpArgs false
set_option maxRecDepth 10000

/-- The code of slices.IndexFunc: esz: an element's cells; k: how it is loaded. -/
def acIdx (esz : Nat) (k : Option Nat) : ACode := (.seq (.region false [⟨(some 4), .mv (.c (.d (.int .i64 0))), none⟩] []) (.seq (.seq (.region false [⟨(some 6), .mv (.t 0), none⟩, ⟨(some 7), .lenl (.t 6), none⟩, ⟨(some 8), .mv (.c (.d (.int .i64 0))), none⟩] []) (.block 0 (.loop (.seq (.region false [⟨(some 9), .bin .lss (.t 8) (.t 7), none⟩] []) (.seq (.cond (.t 9) .skip (.exit 0)) (.seq (.block 1 (.seq (.region false [⟨(some 10), .mv (.t 8), none⟩, ⟨(some 5), .mv (.t 10), none⟩] []) (.seq (.region false [⟨(some 11), .mv (.t 1), none⟩, ⟨(some 12), .mv (.t 0), none⟩, ⟨(some 13), .mv (.t 5), none⟩, ⟨(some 14), .iaddr esz none (.t 12) (.t 13), none⟩, ⟨(some 15), .load k (.t 14), none⟩, ⟨(some 16), .callv (.t 11) [(.t 15)], none⟩] []) (.cond (.t 16) (.seq (.region false [⟨(some 17), .mv (.t 5), none⟩, ⟨(some 4), .mv (.t 17), none⟩] []) .ret) .skip)))) (.region false [⟨(some 18), .bin .add (.t 8) (.c (.d (.int .i64 1))), none⟩, ⟨(some 8), .mv (.t 18), none⟩] []))))))) (.seq (.region false [⟨(some 4), .mv (.c (.d (.int .i64 (-1)))), none⟩] []) .ret)))

def findFrom (p : Nat → Bool) : Nat → Nat → Int
  | 0, _ => -1
  | n + 1, i => if p i = true then (i : Int) else findFrom p n (i + 1)

theorem findFrom_ge (p : Nat → Bool) : ∀ (n i : Nat), decide (0 ≤ findFrom p n i) = (List.range' i n).any p
  | 0, i => by simp [findFrom]
  | n + 1, i => by
    have ih := findFrom_ge p n (i + 1)
    simp only [findFrom, List.range'_succ, List.any_cons]
    by_cases h : p i = true
    · simp [h]
    · simp [h, ih]

/-- A data slice's elements. -/
structure SlE (esz : Nat) (k : Option Nat) (X : DV) (n : Nat) (elt : Nat → AV) : Prop where
  len : lenA (.d X) = some n
  big : n ≤ 9223372036854775807
  get : ∀ i, i < n → ∃ cs, X = .sl n cs ∧ i * esz < cs.length ∧ loadA k ((cs.drop (i * esz)).map .d) = some (elt i)

theorem indexFunc {P : Program} {f kk : Nat} {fn : Func} (hf : P.funcs[f]? = some fn) {esz : Nat} {k : Option Nat} (hc : fn.body.bind (cCode P fn.ntmps) = some (acIdx esz k)) (hk : fn.ntmps = kk) (hkk : decide (2 ≤ kk) = true) (hrs : fn.results = #[.tmp 4])
    {X : DV} {len : Nat} {elt : Nat → AV} (hx : SlE esz k X len elt) {gf : Nat} {caps : List AV} (hg : goesB P gf = true) (hcap : inL (fun _ => none) caps = true) (he : ∀ i, i < len → inB (fun _ => none) (elt i) = true) {p : Nat → Bool}
    (hp : ∀ i, i < len → Pure P gf (elt i :: caps) (.d (.bool (p i)))) : Pure P f [.d X, .fn gf caps] (.d (.int .i64 (findFrom p len 0))) := by
  refine acalls_of hf hc hk hrs hkk ?_
  have hcr : ∀ π, renL π caps = caps := fun π => renL_noId _ hcap
  have hbig := hx.big
  unfold acIdx
  refine bwp_seq fun K hK => bwp_region rfl ?_
  simp only [go_sem]
  refine hK _ ?_; clear hK K
  refine bwp_seq fun K hK => ?_
  refine bwp_seq fun K' hK' => bwp_region rfl ?_
  simp only [go_sem, ↓reduceIte, Nat.reduceEqDiff, hx.len]
  refine hK' _ ?_; clear hK' K'
  refine bwp_block ?_
  refine bwp_leads (S' := ⟨[(0, .d X), (1, .fn gf caps), (7, .d (.int .i64 len)), (8, .d (.int .i64 (0 : Nat)))], [], 0⟩) (Leads.ent [] ⟨?_, trivial, rfl, rfl⟩) ?_
  · simp [entT, fget, AV.ren, hcr]
  refine bwp_loop (fun S => ∃ i, i ≤ len ∧ findFrom p (len - i) i = findFrom p len 0 ∧ S = ⟨[(0, .d X), (1, .fn gf caps), (7, .d (.int .i64 len)), (8, .d (.int .i64 (i : Nat)))], [], 0⟩)
    (fun S => match fget S.t 8 with
      | .d (.int _ i) => len - i.toNat
      | _ => 0) ⟨0, Nat.zero_le _, rfl, rfl⟩ ?_
  rintro S ⟨i, hi, hfi, rfl⟩
  refine bwp_seq fun K1 hK1 => bwp_region rfl ?_
  simp only [go_sem, ↓reduceIte, Nat.reduceEqDiff]
  refine hK1 _ ?_; clear hK1 K1
  by_cases hlt : i < len
  · have hlt' : (i : Int) < len := by omega
    obtain ⟨cs, hX, hcs, hld⟩ := hx.get i hlt
    refine bwp_seq fun K1 hK1 => bwp_cond true (by simp [ev, fget, hlt']) (fun _ => bwp_skip ?_) (fun h => nomatch h)
    refine hK1 _ ?_; clear hK1 K1
    refine bwp_seq fun K1 hK1 => bwp_block ?_
    refine bwp_seq fun K2 hK2 => bwp_region rfl ?_
    simp only [go_sem, ↓reduceIte, Nat.reduceEqDiff]
    refine hK2 _ ?_; clear hK2 K2
    refine bwp_seq fun K2 hK2 => bwp_region rfl ?_
    simp only [go_sem, ↓reduceIte, Nat.reduceEqDiff, hX, hlt', Int.toNat_natCast, hcs, Int.natCast_nonneg, and_self, hld, true_and]
    refine ⟨hg, ?_⟩
    refine callK_pure (args := elt i :: caps) (hp i hlt) (by simp only [inL, he i hlt, hcap, Bool.and_self]) rfl ?_
    simp only [go_sem]
    refine hK2 _ ?_; clear hK2 K2
    by_cases hpi : p i = true
    · refine bwp_cond true (by simp [ev, fget, hpi]) (fun _ => ?_) (fun h => nomatch h)
      refine bwp_seq fun K2 hK2 => bwp_region rfl ?_
      simp only [go_sem, ↓reduceIte, Nat.reduceEqDiff]
      refine hK2 _ ?_; clear hK2 K2
      refine bwp_ret ?_
      simp only [go_sem]
      refine aend_ret _ rfl rfl ⟨?_, rfl⟩
      have : len - i = (len - i - 1) + 1 := by omega
      rw [this] at hfi
      simp only [findFrom, hpi, if_true] at hfi
      simp only [fget, ↓reduceIte, ← hfi]
    · refine bwp_cond false (by simp [ev, fget, hpi]) (fun h => nomatch h) (fun _ => bwp_skip ?_)
      refine hK1 _ ?_; clear hK1 K1
      refine bwp_region rfl ?_
      simp only [go_sem, ↓reduceIte, Nat.reduceEqDiff]
      have hw : IntKind.i64.wrap ((i : Int) + 1) = ((i + 1 : Nat) : Int) := by rw [wrap_i64 (by omega) (by omega)]; rfl
      refine ⟨⟨[(0, .d X), (1, .fn gf caps), (7, .d (.int .i64 len)), (8, .d (.int .i64 (i + 1 : Nat)))], [], 0⟩, Leads.ent [] ⟨?_, trivial, rfl, rfl⟩, ⟨i + 1, hlt, ?_, rfl⟩, ?_⟩
      · simp [entT, fget, AV.ren, hcr, hw, hX]
      · have : len - i = (len - (i + 1)) + 1 := by omega
        rw [this] at hfi
        simp only [findFrom, hpi] at hfi
        exact hfi
      · simp only [fget, ↓reduceIte, Nat.reduceEqDiff, Int.toNat_natCast]
        omega
  · have hlt' : ¬ (i : Int) < len := by omega
    refine bwp_seq fun K1 hK1 => bwp_cond false (by simp [ev, fget, hlt']) (fun h => nomatch h) (fun _ => bwp_exit ?_)
    show K _
    refine hK _ ?_
    refine bwp_seq fun K1 hK1 => bwp_region rfl ?_
    simp only [go_sem, ↓reduceIte, Nat.reduceEqDiff]
    refine hK1 _ ?_; clear hK1 K1
    refine bwp_ret ?_
    simp only [go_sem]
    refine aend_ret _ rfl rfl ⟨?_, rfl⟩
    have : len - i = 0 := by omega
    rw [this] at hfi
    simp only [fget, ↓reduceIte, ← hfi, findFrom]

/-- The code of slices.ContainsFunc. -/
def acCont (idx : Nat) : ACode := (.seq (.region false [⟨(some 4), .mv (.c (.d (.bool false))), none⟩] []) (.seq (.region false [⟨(some 5), .mv (.t 0), none⟩, ⟨(some 6), .mv (.t 1), none⟩, ⟨(some 7), .callf idx [(.t 5), (.t 6)], none⟩, ⟨(some 8), .bin .geq (.t 7) (.c (.d (.int .i64 0))), none⟩, ⟨(some 4), .mv (.t 8), none⟩] []) .ret))

theorem containsFunc {P : Program} {f kk idx : Nat} {fn : Func} (hf : P.funcs[f]? = some fn) (hc : fn.body.bind (cCode P fn.ntmps) = some (acCont idx)) (hk : fn.ntmps = kk) (hkk : decide (2 ≤ kk) = true) (hrs : fn.results = #[.tmp 4])
    {X : DV} {len : Nat} {gf : Nat} {caps : List AV} (hcap : inL (fun _ => none) caps = true) {p : Nat → Bool} (hp : Pure P idx [.d X, .fn gf caps] (.d (.int .i64 (findFrom p len 0)))) :
    Pure P f [.d X, .fn gf caps] (.d (.bool ((List.range' 0 len).any p))) := by
  refine acalls_of hf hc hk hrs hkk ?_
  unfold acCont
  refine bwp_seq fun K hK => bwp_region rfl ?_
  simp only [go_sem]
  refine hK _ ?_; clear hK K
  refine bwp_seq fun K hK => bwp_region rfl ?_
  simp only [go_sem, ↓reduceIte, Nat.reduceEqDiff]
  refine callK_pure hp (by simp only [inL, inB, hcap, Bool.and_self]) rfl ?_
  simp only [go_sem, ↓reduceIte, Nat.reduceEqDiff]
  refine hK _ ?_; clear hK K
  refine bwp_ret (aend_ret _ rfl rfl ⟨?_, rfl⟩)
  simp only [fget, ↓reduceIte, findFrom_ge]

end Go.Jq
