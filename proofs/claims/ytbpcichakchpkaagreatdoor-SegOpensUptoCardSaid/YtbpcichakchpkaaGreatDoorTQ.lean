/- Layer 8 in plain Lean: a file of frames is opened. -/
import Derived.Test.YtbpcichakchpkaaGreatDoorTP
import Derived.Test.YtbpcichakchpkaaGreatDoorTL
namespace Go.Proofs.YtbpcichakchpkaaGreatDoor
open Go Go.Pk
def f0 : List UInt8 := segF logN 0
def dO (B : List UInt8) (v : Int) : Dk := ⟨if v = 0 then [(f0, ⟨B, 0⟩)] else [(f0, ⟨B, 0⟩), (segF logN v, ⟨[], 0⟩)], -1, false, B.length⟩
theorem f0_base : fileBase ⟨logN, [], 0⟩ f0 = some 0 := fileBase_segF logN (Int.le_refl _) (by decide)
theorem fv_ne {v : Int} (hv : 0 ≤ v ∧ v < 100) (h0 : v ≠ 0) : f0 ≠ segF logN v := fun e => h0 (segF_inj logN (Int.le_refl _) (by decide) hv.1 (by omega) e).symm
theorem dO_look {B : List UInt8} {v : Int} : (dO B v).look f0 = some ⟨B, 0⟩ := by
  unfold Dk.look dO
  split <;> simp [Dk.lookL]
theorem dO_append {B : List UInt8} (hB : B.length ≤ 262144) : Dk.new.append f0 B = (dO B 0, 0) := by
  have hn := segF_ok (n := logN) (v := 0) (by unfold logN; simp) (Int.le_refl _) (by decide)
  have e : segF logN 0 = f0 := rfl
  rw [e] at hn
  unfold Dk.append Dk.new
  simp only
  rw [if_neg (by decide), if_neg (fun h => h.elim hn.1 (fun h => by omega)), if_neg (by rintro (h | ⟨_, h⟩); omega; simp at h)]
  simp [Dk.fl0, Dk.look, Dk.lookL, Dk.fits, Dk.putL, dO]
theorem dO_append2 {B : List UInt8} {v : Int} (hB : B.length ≤ 262144) (hv : 0 ≤ v ∧ v < 100) (h0 : v ≠ 0) : (dO B 0).append (segF logN v) [] = (dO B v, 0) := by
  have hn := segF_ok (n := logN) (v := v) (by unfold logN; simp) hv.1 (by omega)
  have hne := fv_ne hv h0
  have e0 : dO B 0 = ⟨[(f0, ⟨B, 0⟩)], -1, false, B.length⟩ := rfl
  have e1 : dO B v = ⟨[(f0, ⟨B, 0⟩), (segF logN v, ⟨[], 0⟩)], -1, false, B.length⟩ := by unfold dO; rw [if_neg h0]
  rw [e0, e1]
  unfold Dk.append
  simp only
  rw [if_neg (by decide), if_neg (fun h => h.elim hn.1 (fun h => by omega)), if_neg (by rintro (h | ⟨_, h⟩); simp at h; omega; simp at h)]
  simp [Dk.fl0, Dk.look, Dk.lookL, Dk.fits, Dk.putL, hne]
theorem dO_names {B : List UInt8} {v : Int} (hv : 0 ≤ v ∧ v < 100) : srt (dO B v).names = if v = 0 then [f0] else [f0, segF logN v] := by
  have h := filter_srt (fun _ => true) (dO B v).names (if v = 0 then [f0] else [f0, segF logN v]) ?_ ?_ ?_
  · rw [List.filter_eq_self.2 (fun _ _ => rfl)] at h; exact h
  · unfold Dk.names dO
    split
    · simp
    · rename_i h0
      simp [fv_ne hv h0]
  · split
    · simp
    · rename_i h0
      simp only [List.pairwise_cons, List.mem_singleton, List.not_mem_nil, false_imp_iff, implies_true, List.Pairwise.nil, and_true, forall_eq]
      exact segF_lt logN (Int.le_refl _) (by omega) (by omega)
  · intro f
    unfold Dk.names dO
    split <;> simp
theorem opens_plain {want : List Bd} {rest : List UInt8} {v : Int} (hv : 0 ≤ v ∧ v < 100) (hc : Chain 0 want) (hstop : stepS (fsOf want ++ rest) (mkSg 0 f0 want) = none) (hlen : (fsOf want ++ rest).length ≤ 262144) :
    ∃ gs, Mem logN (opLg logN (dO (fsOf want ++ rest) v)) gs ∧ allB gs = want ∧ grFin gs = chEnd 0 want ∧ Small gs ∧ grStart gs = 0 ∧ (opDk logN (dO (fsOf want ++ rest) v)).dead = false ∧ (∃ s, (opDk logN (dO (fsOf want ++ rest) v)).look f0 = some ⟨fsOf want, s⟩) ∧
      (opDk logN (dO (fsOf want ++ rest) v)).names.length = if v ≠ 0 ∧ rest = [] ∧ v = chEnd 0 want then 2 else 1 := by
  have hw := fsOf_ge want
  have hll := hlen
  rw [List.length_append] at hll
  have hcm := chain_mem _ _ hc
  have hld := ldSg_chain (v := 0) (f := f0) (d := dO (fsOf want ++ rest) v) (bs := want) (rest := rest) (dataOf_look rfl dO_look) hc hstop
  have hby : (mkSg 0 f0 want).bytes = (fsOf want).length := rfl
  have hdat : (dO (fsOf want ++ rest) v).dataOf f0 = fsOf want ++ rest := dataOf_look rfl dO_look
  -- the disk behind the first file
  obtain ⟨d', hd', hdead, hlk, hfs⟩ : ∃ d', (ldFl ⟨0, f0, 0, [], []⟩ (dO (fsOf want ++ rest) v)) = (mkSg 0 f0 want, d', decide (rest = [])) ∧ d'.dead = false ∧ (∃ s, d'.look f0 = some ⟨fsOf want, s⟩) ∧ ∃ s, d'.files = if v = 0 then [(f0, ⟨fsOf want, s⟩)] else [(f0, ⟨fsOf want, s⟩), (segF logN v, ⟨[], 0⟩)] := by
    unfold ldFl
    simp only
    rw [hld, hdat, hby]
    by_cases hr : rest = []
    · subst hr
      rw [if_neg (by simp), decide_eq_true rfl, List.append_nil]
      exact ⟨_, rfl, rfl, ⟨0, dO_look⟩, 0, rfl⟩
    · have : 0 < rest.length := List.length_pos_iff.2 hr
      rw [if_pos (by rw [List.length_append]; omega), decide_eq_false hr]
      refine ⟨_, rfl, ?_⟩
      have hfind := find_live (d := dO (fsOf want ++ rest) v) rfl dO_look
      unfold Dk.cut
      rw [hfind]
      simp only
      rw [if_neg (by simp only [List.length_append]; omega)]
      have e1 : (((fsOf want).length : Nat) : Int).toNat = (fsOf want).length := by omega
      rw [e1, List.take_left]
      refine ⟨rfl, ⟨min 0 ((fsOf want).length : Int), ?_⟩, min 0 ((fsOf want).length : Int), ?_⟩
      · unfold Dk.look
        simp only
        rw [lookL_put, if_pos rfl]
      · unfold dO
        simp only
        split <;> simp [Dk.putL]
  have hfirst : OpS.file ⟨⟨logN, [], 0⟩, dO (fsOf want ++ rest) v, true⟩ f0 = ⟨⟨logN, [mkSg 0 f0 want], 0⟩, d', decide (rest = [])⟩ := by
    unfold OpS.file
    rw [show fileBase (⟨⟨logN, [], 0⟩, dO (fsOf want ++ rest) v, true⟩ : OpS).g f0 = some 0 from f0_base]
    simp only
    rw [if_neg (by simp), hd']
    rfl
  have hg1 : GCh [((0 : Int), want)] := hc
  have hs1 : Small [((0 : Int), want)] := ⟨Int.le_refl _, by show chEnd 0 want < _; omega⟩
  have one : ∀ (D : Dk) (sy : Int), D.dead = false → (∃ s, D.look f0 = some ⟨fsOf want, s⟩) → D.names.length = 1 → ¬ (v ≠ 0 ∧ rest = [] ∧ v = chEnd 0 want) → opLg logN (dO (fsOf want ++ rest) v) = ⟨logN, [mkSg 0 f0 want], sy⟩ → opDk logN (dO (fsOf want ++ rest) v) = D →
      ∃ gs, Mem logN (opLg logN (dO (fsOf want ++ rest) v)) gs ∧ allB gs = want ∧ grFin gs = chEnd 0 want ∧ Small gs ∧ grStart gs = 0 ∧ (opDk logN (dO (fsOf want ++ rest) v)).dead = false ∧ (∃ s, (opDk logN (dO (fsOf want ++ rest) v)).look f0 = some ⟨fsOf want, s⟩) ∧
      (opDk logN (dO (fsOf want ++ rest) v)).names.length = if v ≠ 0 ∧ rest = [] ∧ v = chEnd 0 want then 2 else 1 := by
    intro D sy q1 q2 q3 q4 q5 q6
    rw [q5, q6]
    refine ⟨[(0, want)], ⟨rfl, rfl, hg1, Int.le_refl _⟩, by simp [allB], rfl, hs1, rfl, q1, q2, ?_⟩
    rw [if_neg q4]; exact q3
  obtain ⟨s, hfs⟩ := hfs
  by_cases h0 : v = 0
  · rw [if_pos h0] at hfs
    have eall : opAll logN (dO (fsOf want ++ rest) v) = ⟨⟨logN, [mkSg 0 f0 want], 0⟩, d', decide (rest = [])⟩ := by
      unfold opAll
      rw [dO_names hv, if_pos h0, List.foldl_cons, List.foldl_nil, hfirst]
    refine one d' ((⟨logN, [mkSg 0 f0 want], 0⟩ : Lg).lasting d') hdead hlk (by unfold Dk.names; rw [hfs]; rfl) (fun h => h.1 h0) ?_ ?_
    · unfold opLg; rw [eall]
    · unfold opDk; rw [eall]
  · rw [if_neg h0] at hfs
    have hvb : fileBase ⟨logN, [], 0⟩ (segF logN v) = some v := fileBase_segF logN hv.1 (by omega)
    have hfin : (⟨logN, [mkSg 0 f0 want], 0⟩ : Lg).fin = chEnd 0 want := by
      show (mkSg 0 f0 want).fin = _
      exact mkSg_fin
    by_cases hst : rest = [] ∧ v = chEnd 0 want
    · have hwn : want ≠ [] := fun h => h0 (by rw [hst.2, h]; rfl)
      have hlv : d'.look (segF logN v) = some ⟨[], 0⟩ := by
        unfold Dk.look
        rw [hfs]
        simp [Dk.lookL, fv_ne hv h0]
      have hsecond : OpS.file ⟨⟨logN, [mkSg 0 f0 want], 0⟩, d', true⟩ (segF logN v) = ⟨⟨logN, [mkSg 0 f0 want, mkSg v (segF logN v) []], 0⟩, d', true⟩ := by
        unfold OpS.file
        rw [show fileBase (⟨⟨logN, [mkSg 0 f0 want], 0⟩, d', true⟩ : OpS).g (segF logN v) = some v by rw [fileBase_g (n := logN) rfl]; exact hvb]
        simp only
        rw [if_neg (by rw [hfin]; rintro (h | ⟨_, h⟩); cases h; exact h hst.2)]
        rw [ldFl_chain (bs := []) (dataOf_look hdead hlv) trivial]
        rfl
      have eall : opAll logN (dO (fsOf want ++ rest) v) = ⟨⟨logN, [mkSg 0 f0 want, mkSg v (segF logN v) []], 0⟩, d', true⟩ := by
        unfold opAll
        rw [dO_names hv, if_neg h0, List.foldl_cons, List.foldl_cons, List.foldl_nil, hfirst, decide_eq_true hst.1, hsecond]
      have e1 : opLg logN (dO (fsOf want ++ rest) v) = ⟨logN, [mkSg 0 f0 want, mkSg v (segF logN v) []], (⟨logN, [mkSg 0 f0 want, mkSg v (segF logN v) []], 0⟩ : Lg).lasting d'⟩ := by unfold opLg; rw [eall]
      have e2 : opDk logN (dO (fsOf want ++ rest) v) = d' := by unfold opDk; rw [eall]
      rw [e1, e2]
      refine ⟨[(0, want), (v, [])], ⟨rfl, rfl, ⟨hc, hwn, hst.2, trivial⟩, Int.le_refl _⟩, by simp [allB], hst.2, ⟨Int.le_refl _, by show v < _; omega⟩, rfl, hdead, hlk, ?_⟩
      rw [if_pos ⟨h0, hst.1, hst.2⟩]
      unfold Dk.names; rw [hfs]; rfl
    · have hcond : decide (rest = []) = false ∨ (⟨logN, [mkSg 0 f0 want], 0⟩ : Lg).segs ≠ [] ∧ v ≠ (⟨logN, [mkSg 0 f0 want], 0⟩ : Lg).fin := by
        by_cases hr : rest = []
        · refine .inr ⟨by simp, fun h => hst ⟨hr, ?_⟩⟩
          rw [hfin] at h; exact h
        · exact .inl (decide_eq_false hr)
      have hsecond : OpS.file ⟨⟨logN, [mkSg 0 f0 want], 0⟩, d', decide (rest = [])⟩ (segF logN v) = ⟨⟨logN, [mkSg 0 f0 want], 0⟩, (d'.remove (segF logN v)).1, false⟩ := by
        unfold OpS.file
        rw [show fileBase (⟨⟨logN, [mkSg 0 f0 want], 0⟩, d', decide (rest = [])⟩ : OpS).g (segF logN v) = some v by rw [fileBase_g (n := logN) rfl]; exact hvb]
        simp only
        rw [if_pos hcond]
      have eall : opAll logN (dO (fsOf want ++ rest) v) = ⟨⟨logN, [mkSg 0 f0 want], 0⟩, (d'.remove (segF logN v)).1, false⟩ := by
        unfold opAll
        rw [dO_names hv, if_neg h0, List.foldl_cons, List.foldl_cons, List.foldl_nil, hfirst, hsecond]
      have hlv : d'.look (segF logN v) = some ⟨[], 0⟩ := by
        unfold Dk.look
        rw [hfs]
        simp [Dk.lookL, fv_ne hv h0]
      have hrm : (d'.remove (segF logN v)).1 = { d' with files := [(f0, ⟨fsOf want, s⟩)], used := d'.used - ([] : List UInt8).length } := by
        unfold Dk.remove
        rw [find_live hdead hlv]
        simp only
        rw [hfs]
        simp [Dk.delL, fv_ne hv h0]
      refine one (d'.remove (segF logN v)).1 ((⟨logN, [mkSg 0 f0 want], 0⟩ : Lg).lasting (d'.remove (segF logN v)).1) ?_ ?_ ?_ (fun h => hst h.2) ?_ ?_
      · rw [hrm]; exact hdead
      · rw [hrm]; exact ⟨s, by simp [Dk.look, Dk.lookL]⟩
      · rw [hrm]; rfl
      · unfold opLg; rw [eall]
      · unfold opDk; rw [eall]
/-- the law's list of batches: those that can be written, and those that follow one another -/
structure Opn (all want : List Bd) (whole : Bool) : Prop where
  ch : Chain 0 want
  ok : ∀ x ∈ all, x.ok
  yes : whole = true → all = want
  no : whole = false → ∃ y t, all = want ++ y :: t ∧ y.ba ≠ chEnd 0 want
theorem Opn.new : Opn [] [] true := ⟨trivial, by simp, fun _ => rfl, fun h => by cases h⟩
theorem Opn.add {all want : List Bd} {whole : Bool} {b : Bd} (h : Opn all want whole) (hb : b.ok) :
    (whole = true ∧ b.ba = chEnd 0 want → Opn (all ++ [b]) (want ++ [b]) true) ∧ (¬ (whole = true ∧ b.ba = chEnd 0 want) → Opn (all ++ [b]) want false) := by
  have hall : ∀ x ∈ all ++ [b], x.ok := fun x hx => by
    rcases List.mem_append.1 hx with hx | hx
    · exact h.ok x hx
    · rw [List.mem_singleton.1 hx]; exact hb
  refine ⟨fun ⟨h1, h2⟩ => ⟨(chain_app _ _ _).2 ⟨h.ch, h2, hb, trivial⟩, hall, fun _ => by rw [h.yes h1], (fun h => by cases h)⟩, fun hn => ⟨h.ch, hall, (fun h => by cases h), fun _ => ?_⟩⟩
  cases hw : whole with
  | true =>
    have := h.yes hw
    exact ⟨b, [], by rw [this], fun h2 => hn ⟨hw, h2⟩⟩
  | false =>
    obtain ⟨y, t, h1, h2⟩ := h.no hw
    exact ⟨y, t ++ [b], by rw [h1]; simp, h2⟩
theorem Opn.rest {all want : List Bd} {whole : Bool} (h : Opn all want whole) (more : List UInt8) : ∃ rest, fsOf all ++ more = fsOf want ++ rest ∧ (whole = true → rest = more) ∧ (whole = false → stepS (fsOf want ++ rest) (mkSg 0 f0 want) = none) := by
  cases hw : whole with
  | true =>
    exact ⟨more, by rw [h.yes hw], fun _ => rfl, (fun h => by cases h)⟩
  | false =>
    obtain ⟨y, t, h1, h2⟩ := h.no hw
    refine ⟨fsOf (y :: t) ++ more, by rw [h1, fsOf_app, List.append_assoc], (fun h => by cases h), fun _ => ?_⟩
    have hy : y.ok := h.ok y (by rw [h1]; simp)
    have e0 : fsOf (y :: t) = frm y.enc ++ fsOf t := by simp [fsOf]
    have ed : (fsOf want ++ (fsOf (y :: t) ++ more)).drop (mkSg 0 f0 want).bytes.toNat = frm y.enc ++ (fsOf t ++ more) := by
      have e1 : (mkSg 0 f0 want).bytes.toNat = (fsOf want).length := by show ((fsOf want).length : Int).toNat = _; omega
      rw [e1, List.drop_left, e0, List.append_assoc]
    have hs := enc_small hy
    have hf := fdec_frm (p := y.enc) (r := fsOf t ++ more) (by omega)
    have hde := dec_enc (d := y.dc) hy.2 hy.1
    have e2 : encB y.dc = y.enc := rfl
    rw [e2] at hde
    have hbd : (decD y.enc).bd = y := bd_eq hde.2
    have hba : (decD y.enc).ba = y.ba := by have := congrArg Bd.ba hbd; exact this
    unfold stepS
    rw [ed, hf]
    simp only
    rw [if_neg]
    rintro ⟨_, _, _, h5⟩
    rw [hba, mkSg_fin] at h5
    exact h2 h5
theorem stop_more {want : List Bd} {more : List UInt8} (h : (fdec more).2.2 ≠ 0) : stepS (fsOf want ++ more) (mkSg 0 f0 want) = none := by
  have e1 : (mkSg 0 f0 want).bytes.toNat = (fsOf want).length := by show ((fsOf want).length : Int).toNat = _; omega
  unfold stepS
  rw [e1, List.drop_left, if_neg]
  rintro ⟨_, h2, _⟩
  exact h h2
end Go.Proofs.YtbpcichakchpkaaGreatDoor
