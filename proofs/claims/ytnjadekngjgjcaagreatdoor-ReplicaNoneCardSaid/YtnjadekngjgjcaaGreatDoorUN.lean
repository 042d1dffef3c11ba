/- Layer 14: the law's first look at a replica; the law of a replica that there isn't. -/
import Derived.Test.YtnjadekngjgjcaaGreatDoorUM
namespace Go.Proofs.YtnjadekngjgjcaaGreatDoor
open Go Go.Pk
def cB : Bd := ⟨0, 1, 0, 0, 0, false, false, false, [[97]]⟩
noncomputable def cG1 : Lg := ⟨aN, [mkSg 0 aF [cB]], 0⟩
noncomputable def cG2 : Lg := ⟨aN, [mkSg 0 aF [cB]], 1⟩
noncomputable def cE : List UInt8 := frm cB.enc
noncomputable def cD1 (s : Int) : Dk := ⟨[(aF, ⟨cE, s⟩)], -1, false, cE.length⟩
theorem cB_ok : cB.ok := by
  refine ⟨?_, by unfold Dc.num cB Bd.dc; simp⟩
  show chk cB.dc = 0
  unfold chk
  rw [if_neg (by unfold bad1 cB Bd.dc; simp), if_neg (by unfold bad7 cB Bd.dc; simp), if_neg (by unfold bad2 cB Bd.dc; simp)]
theorem cE_len : 8 ≤ cE.length ∧ cE.length ≤ 2008 := by
  have := enc_small cB_ok
  have e : cE.length = 8 + cB.enc.length := frm_len _
  omega
theorem cPut : aG0.put Dk.new cB = (cG1, cD1 0, 0) := by
  have hl := cE_len
  have e1 : (⟨[(aF, ⟨[], 0⟩)], -1, false, 0⟩ : Dk).append aF cE = (cD1 0, 0) := by
    have hlt : ¬ ((cE.length : Int) > 4194304) := by omega
    simp [Dk.append, Dk.look, Dk.lookL, Dk.fl0, Dk.fits, Dk.putL, cD1, aF, hlt]
  unfold Lg.put
  rw [if_neg (by simp [cB_ok.1]), if_neg (by simp [cB, aG0, Lg.fin]), aRoll]
  simp only
  rw [if_neg (by simp)]
  have e2 : [mkSg 0 aF []].getLast? = some (mkSg 0 aF []) := rfl
  rw [e2]
  simp only
  have e3 : (mkSg 0 aF []).name = aF := rfl
  have e4 : frm cB.enc = cE := rfl
  rw [e3, e4, e1]
  simp only [if_true]
  rw [← e4, mkSg_add]
  rfl
theorem cFlush : cG1.flush (cD1 0) = (cG2, cD1 cE.length, 0) := by
  have e1 : (cD1 0).sync aF = (cD1 cE.length, 0) := by
    simp [Dk.sync, Dk.find, Dk.look, Dk.lookL, cD1, Dk.putL]
  unfold Lg.flush
  have e2 : cG1.segs.getLast? = some (mkSg 0 aF [cB]) := rfl
  have e3 : (mkSg 0 aF [cB]).name = aF := rfl
  rw [e2]
  simp only [e3, e1, if_true]
  rfl
theorem cFit0 : LFit aG0 := mem_fit (n := aN) (gs := []) ⟨rfl, rfl, trivial, Int.le_refl _⟩ (by unfold Small grStart grFin; simp) (by simp [allB])
theorem cFit {s : Int} : LFit ⟨aN, [mkSg 0 aF [cB]], s⟩ := by
  refine mem_fit (n := aN) (gs := [(0, [cB])]) ⟨rfl, ?_, ⟨rfl, cB_ok, trivial⟩, Int.le_refl _⟩ (by unfold Small; exact ⟨by decide, by decide⟩) (by simp [allB])
  have : segF aN 0 = aF := aFile
  show [mkSg 0 aF [cB]] = grSegs aN [(0, [cB])]
  unfold grSegs
  rw [List.map_singleton, this]
def cR0 : Rp := ⟨0, 0, aG0, Pt9.new, [], -1, false, 0, 0, [], [], []⟩
def cR1 : Rp := ⟨0, 0, aG0, Pt9.new, [], 1, true, 0, 0, [0], [], []⟩
noncomputable def cR2 : Rp := ⟨0, 0, cG2, Pt9.new, [(1, 0)], 1, true, 0, 1, [0], [], []⟩
theorem cOpn (n : List UInt8) (part me : Int) : Rp.opn n Dk.new part me = ⟨part, me, ⟨n, [], 0⟩, Pt9.new, [], -1, false, 0, 0, [], [], []⟩ := by
  unfold Rp.opn
  rw [(open_new n).1]
  rfl
theorem cLead : cR0.lead 1 [0] = (cR1, 0) := rfl
theorem cCheck : Pt9.new.check ⟨0, 0, 0, 0, 0, false, false, false, [[97]]⟩ = (0, false, 0) := by
  have hc : (⟨0, 0, 0, 0, 0, false, false, false, [[97]]⟩ : Bd).chk = 0 := by
    show chk _ = 0
    unfold chk
    rw [if_neg (by unfold bad1 Bd.dc; simp), if_neg (by unfold bad7 Bd.dc; simp), if_neg (by unfold bad2 Bd.dc; simp)]
  unfold Pt9.check
  rw [hc, if_neg (by simp), if_pos rfl]
theorem cProd : cR1.produce Dk.new ⟨0, 0, 0, 0, 0, false, false, false, [[97]]⟩ = (cR2, cD1 cE.length, 0, 0) := by
  unfold Rp.produce
  rw [if_neg (by show ¬ true = false; decide)]
  simp only [show cR1.pt = Pt9.new from rfl, cCheck]
  rw [if_neg (by simp)]
  show cR1.append Dk.new ⟨0, 0, 0, 0, 0, false, false, false, [[97]]⟩ = _
  unfold Rp.append
  have e1 : (⟨aG0.fin, cR1.epoch, 0, 0, 0, false, false, false, [[97]]⟩ : Bd) = cB := rfl
  simp only [show cR1.log = aG0 from rfl, e1, cPut, cFlush]
  rw [if_neg (by simp), if_neg (by simp)]
  rfl
theorem cStable : cR2.stable = 1 := rfl
theorem tup4 {a b c d : Int} {K : Int × Int × Int × Int × Unit → Prop} (h : K (a, b, c, d, ())) : TupP [.int .i64, .int .i64, .int .i64, .int .i64] (.tuple #[.int .i64 a, .int .i64 b, .int .i64 c, .int .i64 d]) K := ⟨_, rfl, h⟩
section
variable {W w : World} {l : List Res} {K : Value → World → Prop}
theorem awake14_ok (h : Sat W w l) (hl : Lai W l) (hK : ∀ w', Sat W w' l → K (.bool true) w') : CallP P F_law14_awake [] w K := by
  apply c_law14_awake
  unfold S_law14_awake
  refine dkNew_ok h fun b w1 h1 => tyI (k := .ptr) ?_
  have hn : aN ≠ [] ∧ aN.length ≤ 8 ∧ ¬ 46 ∈ aN := by unfold aN; simp
  refine ropen_ok (n := aN) h1 hl rfl hn (fun f hf => by simp [Dk.new, Dk.names] at hf) (by simp [Dk.new]) (fun f hf => by simp [Dk.new, Dk.names] at hf) (by decide) (by decide) (by rw [(open_new aN).1]; exact cFit0) fun a w4 h2 => tup2p ?_
  rw [cOpn, (open_new aN).2] at h2
  have h2 : Sat W w4 (RpR a b cR0 :: DkR b Dk.new :: l) := h2
  obtain ⟨p, h3⟩ := sat_rp.1 h2
  refine ⟨fun _ w' => ∃ p, Sat W w' (RpL a b cR1 p (DkR b Dk.new :: l)), ?_, ?_⟩
  · rintro _ w8 ⟨p, h4⟩
    refine bsMark (t := T_sl_uint8) (e := T_uint8) (n := 1) (by kernel_rfl) (by kernel_rfl) h4 (cs := [.int .u8 97]) (fun w => by kernel_rfl) fun g w17 h5 => ?_
    refine bsB h5 (cs := [Sl.v ⟨some ⟨g, 0, none⟩, 1, 1⟩]) (e := T_sl_uint8) (fun w => by kernel_rfl) fun gb w19 h6 => ?_
    let d : Dc := ⟨0, 0, 0, 0, 0, false, false, false, ⟨some ⟨gb, 0, none⟩, 1, 1⟩, [⟨some ⟨g, 0, none⟩, 1, 1⟩], [[97]]⟩
    have hv : VRd W (Blk gb [Sl.v ⟨some ⟨g, 0, none⟩, 1, 1⟩] T_sl_uint8 :: Blk g [.int .u8 97] T_uint8 :: l) d := by
      refine ⟨Rd.blk (n := 1) (sz := 1) rfl, rfl, fun i s b0 h1 h2 => ?_⟩
      match i with
      | 0 =>
        cases h1
        cases h2
        exact (Rd.blk (n := 1) (sz := 1) rfl).cons
      | n + 1 => cases h1
    have h7 : Sat W w19 (RpL a b cR1 p (DkR b Dk.new :: Blk gb [Sl.v ⟨some ⟨g, 0, none⟩, 1, 1⟩] T_sl_uint8 :: Blk g [.int .u8 97] T_uint8 :: l)) := h6.sel 10 [2, 3, 4, 5, 6, 7, 8, 9, 0, 1]
    have hbd : d.bd = ⟨0, 0, 0, 0, 0, false, false, false, [[97]]⟩ := rfl
    have hF : RpF cR1 := ⟨cFit0, ⟨Nat.zero_le _, fun p hp => by cases hp⟩, Nat.zero_le _, by decide, Nat.zero_le _⟩
    have hF2 : LFit (aG0.put Dk.new cB).1 := by rw [cPut]; exact cFit
    refine produce_okL (d := d) h7 hl.cons.cons hv cB_ok.2 hF (by decide) hF2 fun w21 h8 => ?_
    rw [hbd, cProd] at h8 ⊢
    refine ⟨(0, 0, ()), rfl, ?_⟩
    refine marks_okL h8 cFit fun w24 h9 => ?_
    rw [cStable]
    refine tup4 ?_
    refine ifB_beq (fun _ => ?_) fun c => absurd rfl c
    refine ifB_beq (fun _ => ?_) fun c => absurd rfl c
    refine ifB_beq (fun _ => ?_) fun c => absurd rfl c
    refine ifB_beq (fun _ => ?_) fun c => absurd rfl c
    refine ifB_beq (fun _ => ?_) fun c => absurd rfl c
    refine ifB_beq (fun _ => ?_) fun c => absurd rfl c
    refine ready_okL h9 fun w27 h10 => tyI (k := .bool) (x := true) ?_
    exact hK w27 (h10.cut 0 |>.cut 0 |>.cut 0 |>.cut 0 |>.cut 0 |>.cut 0 |>.cut 0 |>.cut 0 |>.cut 0 |>.cut 0)
  · refine ifB_intro (fun c => absurd c (by simp)) fun _ => ?_
    refine ifB_bne (fun c => absurd rfl c) fun _ => ?_
    refine bsB h3 (cs := [.int .i64 0]) (e := T_int) (fun w => by kernel_rfl) fun gb w10 h4 => ?_
    have h5 : Sat W w10 (RpL a b cR0 p (DkR b Dk.new :: Blk gb [.int .i64 0] T_int :: l)) := h4.sel 9 [1, 2, 3, 4, 5, 6, 7, 8, 0]
    refine lead_okL (e := 1) (isr := [0]) (x := ⟨some ⟨gb, 0, none⟩, 1, 1⟩) h5 ((Rd.blk (n := 1) (sz := 1) rfl).cons) (by decide) cFit0 fun p' w12 h6 => tyI (k := .int .i64) ?_
    rw [cLead] at h6 ⊢
    refine ifB_bne (fun c => absurd rfl c) fun _ => ⟨p', h6.cut 8⟩
theorem law_none14 {cs : List Value} {x y n1 : Int} {s : Sl} (c1 : cs[1]? = some (.int .i64 n1)) (c2 : cs[2]? = some s.v) (hcs : 27 ≤ cs.length) (h : Sat W w l) (hl : Lai W l) (hK : ∀ w', Sat W w' l → K (.bool true) w') :
    CallP P F_law14_ReplicaNone [.agg cs.toArray, .int .i64 x, .int .i64 y] w K := by
  apply c_law14_ReplicaNone
  unfold S_law14_ReplicaNone
  refine boxB h fun a0 w1 h1 => ?_
  have h1 : Sat W w1 (Blk a0 cs T_penstocklaw14_Op :: l) := h1
  refine ropenNil_ok (tup2p ?_)
  refine dkNew_ok h1 fun b w6 h2 => tyI (k := .ptr) ?_
  by_cases hok : (0 ≤ x ∧ x < 6) ∧ 0 ≤ y ∧ y < 5
  · refine ropen_ok (n := [112]) h2 hl.cons rfl (by simp) (fun f hf => by simp [Dk.new, Dk.names] at hf) (by simp [Dk.new]) (fun f hf => by simp [Dk.new, Dk.names] at hf) hok.1 hok.2 (by rw [(open_new _).1]; exact mem_fit (n := [112]) (gs := []) ⟨rfl, rfl, trivial, Int.le_refl _⟩ (by unfold Small grStart grFin; simp) (by simp [allB])) fun a w9 h3 => tup2p ?_
    refine ⟨fun z w' => z.1 = true ∧ w' = w9, ?_, ?_⟩
    · rintro ⟨z, u⟩ w13 ⟨hz, hw⟩
      simp only at hz
      subst hz
      subst hw
      have h5 : Sat W w13 (Blk a0 cs T_penstocklaw14_Op :: RpR a b (Rp.opn [112] Dk.new x y) :: DkR b (opDk [112] Dk.new) :: l) := h3.sel 3 [2, 0, 1]
      have hL : Lai W (RpR a b (Rp.opn [112] Dk.new x y) :: DkR b (opDk [112] Dk.new) :: l) := hl.cons.cons
      refine marksNil_ok (tup4 ?_)
      refine needNil_ok h5 fun w18 h6 => ⟨(.agg (Fq.cells ⟨0, 0, 0, 0, 0⟩).toArray, false, ()), rfl, ?_⟩
      refine newAgg (cs := Fq.cells ⟨0, 0, 0, 0, 0⟩) (z := Fq.cells ⟨0, 0, 0, 0, 0⟩) h6 (Fq.ones _) fun g w22 h7 => ?_
      refine ldX (h7.up 1) 2 (k := .sl) (x := s) ?_ c2
      refine wantNil_ok ⟨(⟨none, 0, 0⟩, false, ()), rfl, ?_⟩
      refine ldX (h7.up 1) 1 (x := n1) ?_ c1
      refine ldX (h7.up 1) 1 (x := n1) ?_ c1
      refine committedNil_ok ⟨(⟨none, 0, 0⟩, ⟨none, 0, 0⟩, 0, ()), rfl, ?_⟩
      refine ldAggX 3 9 (h7.up 1) ?_ (by omega)
      refine produceNil_ok h7 fun w34 h8 => ⟨(0, 5, ()), rfl, ?_⟩
      refine roleNil_ok ⟨(0, false, ()), rfl, ?_⟩
      refine tickNil_ok (tupU rfl ?_)
      refine ldX (h8.up 1) 2 (k := .sl) (x := s) ?_ c2
      refine askedNil_ok (tupU rfl ?_)
      refine ldAggX 12 5 (h8.up 1) ?_ (by omega)
      refine fetchNil_ok h8 fun w48 h9 => tyI (k := .val) ?_
      refine newAgg (cs := frNil) (z := frZero) h9 frNil_ones fun g2 w52 h10 => ?_
      refine awake14_ok h10 hL.cons.cons.cons fun w54 h11 => tyI (k := .bool) (x := true) ?_
      refine ifB_intro (fun _ => ?_) fun c => absurd c (by first | decide | simp)
      refine ifB_intro (fun _ => ?_) fun c => absurd c (by first | decide | simp)
      refine ifB_intro (fun _ => ?_) fun c => absurd c (by first | decide | simp)
      refine ifB_intro (fun _ => ?_) fun c => absurd c (by first | decide | simp)
      refine ifB_intro (fun _ => ?_) fun c => absurd c (by first | decide | simp)
      refine ifB_intro (fun _ => ?_) fun c => absurd c (by first | decide | simp)
      refine ifB_intro (fun _ => ?_) fun c => absurd c (by first | decide | simp)
      refine ldAggB (h11.up 1) (by kernel_rfl) ?_
      refine eqFq (x := ⟨0, 0, 0, 0, 0⟩) ?_
      refine ifB_intro (fun _ => ?_) fun c => absurd c (by first | decide | simp)
      refine ifB_intro (fun _ => ?_) fun c => absurd c (by first | decide | simp)
      refine ifB_intro (fun _ => ?_) fun c => absurd c (by first | decide | simp)
      refine ifB_intro (fun _ => ?_) fun c => absurd c (by first | decide | simp)
      refine ifB_intro (fun _ => ?_) fun c => absurd c (by first | decide | simp)
      refine ifB_intro (fun _ => ?_) fun c => absurd c (by first | decide | simp)
      refine ifB_intro (fun _ => ?_) fun c => absurd c (by first | decide | simp)
      refine ifB_intro (fun _ => ?_) fun c => absurd c (by first | decide | simp)
      refine ifB_intro (fun _ => ?_) fun c => absurd c (by first | decide | simp)
      refine readyNil_ok h11 fun w59 h12 => tyI (k := .bool) (x := false) ?_
      refine ifB_intro (fun _ => ?_) fun c => absurd c (by first | decide | simp)
      refine logNil_ok (tyI (k := .sl) (x := ⟨none, 0, 0⟩) ?_)
      refine ifB_intro (fun _ => ?_) fun c => absurd c (by first | decide | simp)
      refine ldX h12 2 (x := (5 : Int)) ?_
      refine ifB_intro (fun _ => ?_) fun c => absurd c (by first | decide | simp)
      refine leadNil_ok (s := ⟨none, 0, 0⟩) (tyI (k := .int .i64) ?_)
      refine ifB_intro (fun _ => ?_) fun c => absurd c (by first | decide | simp)
      refine followNil_ok (tyI (k := .int .i64) ?_)
      refine ifB_intro (fun _ => ?_) fun c => absurd c (by first | decide | simp)
      refine syncNil_ok (s := ⟨none, 0, 0⟩) (tyI (k := .int .i64) ?_)
      refine ifB_intro (fun _ => ?_) fun c => absurd c (by first | decide | simp)
      refine ldAggX 17 10 (h12.up 2) ?_ (by omega)
      refine acceptNil_ok h12 fun w76 h13 => tyI (k := .int .i64) ?_
      exact hK w76 (h13.tail.tail.tail.tail.tail)
    · refine ifB_dec (fun _ => ?_) fun c => absurd (show x ≥ 0 by omega) c
      refine ifB_dec (fun _ => ?_) fun c => absurd (show x ≤ 5 by omega) c
      refine ifB_dec (fun _ => ?_) fun c => absurd (show y ≥ 0 by omega) c
      exact ⟨decide_eq_true (by omega), rfl⟩
  · refine ropenBad_ok hok (tup2p ?_)
    refine ⟨fun z w' => z.1 = false ∧ w' = w6, ?_, ?_⟩
    · rintro ⟨z, u⟩ w13 ⟨hz, hw⟩
      simp only at hz
      subst hz
      subst hw
      have h5 : Sat W w13 (Blk a0 cs T_penstocklaw14_Op :: DkR b Dk.new :: l) := h2.swap
      have hL : Lai W (DkR b Dk.new :: l) := hl.cons
      refine marksNil_ok (tup4 ?_)
      refine needNil_ok h5 fun w18 h6 => ⟨(.agg (Fq.cells ⟨0, 0, 0, 0, 0⟩).toArray, false, ()), rfl, ?_⟩
      refine newAgg (cs := Fq.cells ⟨0, 0, 0, 0, 0⟩) (z := Fq.cells ⟨0, 0, 0, 0, 0⟩) h6 (Fq.ones _) fun g w22 h7 => ?_
      refine ldX (h7.up 1) 2 (k := .sl) (x := s) ?_ c2
      refine wantNil_ok ⟨(⟨none, 0, 0⟩, false, ()), rfl, ?_⟩
      refine ldX (h7.up 1) 1 (x := n1) ?_ c1
      refine ldX (h7.up 1) 1 (x := n1) ?_ c1
      refine committedNil_ok ⟨(⟨none, 0, 0⟩, ⟨none, 0, 0⟩, 0, ()), rfl, ?_⟩
      refine ldAggX 3 9 (h7.up 1) ?_ (by omega)
      refine produceNil_ok h7 fun w34 h8 => ⟨(0, 5, ()), rfl, ?_⟩
      refine roleNil_ok ⟨(0, false, ()), rfl, ?_⟩
      refine tickNil_ok (tupU rfl ?_)
      refine ldX (h8.up 1) 2 (k := .sl) (x := s) ?_ c2
      refine askedNil_ok (tupU rfl ?_)
      refine ldAggX 12 5 (h8.up 1) ?_ (by omega)
      refine fetchNil_ok h8 fun w48 h9 => tyI (k := .val) ?_
      refine newAgg (cs := frNil) (z := frZero) h9 frNil_ones fun g2 w52 h10 => ?_
      refine awake14_ok h10 hL.cons.cons.cons fun w54 h11 => tyI (k := .bool) (x := true) ?_
      refine ifB_intro (fun _ => ?_) fun c => absurd c (by first | decide | simp)
      refine ifB_intro (fun _ => ?_) fun c => absurd c (by first | decide | simp)
      refine ifB_intro (fun _ => ?_) fun c => absurd c (by first | decide | simp)
      refine ifB_intro (fun _ => ?_) fun c => absurd c (by first | decide | simp)
      refine ifB_intro (fun c => absurd c (by first | decide | simp)) fun _ => ?_
      refine ifB_intro (fun _ => ?_) fun c => absurd c (by first | decide | simp)
      refine ifB_intro (fun _ => ?_) fun c => absurd c (by first | decide | simp)
      refine ifB_intro (fun _ => ?_) fun c => absurd c (by first | decide | simp)
      refine ldAggB (h11.up 1) (by kernel_rfl) ?_
      refine eqFq (x := ⟨0, 0, 0, 0, 0⟩) ?_
      refine ifB_intro (fun _ => ?_) fun c => absurd c (by first | decide | simp)
      refine ifB_intro (fun _ => ?_) fun c => absurd c (by first | decide | simp)
      refine ifB_intro (fun _ => ?_) fun c => absurd c (by first | decide | simp)
      refine ifB_intro (fun _ => ?_) fun c => absurd c (by first | decide | simp)
      refine ifB_intro (fun _ => ?_) fun c => absurd c (by first | decide | simp)
      refine ifB_intro (fun _ => ?_) fun c => absurd c (by first | decide | simp)
      refine ifB_intro (fun _ => ?_) fun c => absurd c (by first | decide | simp)
      refine ifB_intro (fun _ => ?_) fun c => absurd c (by first | decide | simp)
      refine ifB_intro (fun _ => ?_) fun c => absurd c (by first | decide | simp)
      refine readyNil_ok h11 fun w59 h12 => tyI (k := .bool) (x := false) ?_
      refine ifB_intro (fun _ => ?_) fun c => absurd c (by first | decide | simp)
      refine logNil_ok (tyI (k := .sl) (x := ⟨none, 0, 0⟩) ?_)
      refine ifB_intro (fun _ => ?_) fun c => absurd c (by first | decide | simp)
      refine ldX h12 2 (x := (5 : Int)) ?_
      refine ifB_intro (fun _ => ?_) fun c => absurd c (by first | decide | simp)
      refine leadNil_ok (s := ⟨none, 0, 0⟩) (tyI (k := .int .i64) ?_)
      refine ifB_intro (fun _ => ?_) fun c => absurd c (by first | decide | simp)
      refine followNil_ok (tyI (k := .int .i64) ?_)
      refine ifB_intro (fun _ => ?_) fun c => absurd c (by first | decide | simp)
      refine syncNil_ok (s := ⟨none, 0, 0⟩) (tyI (k := .int .i64) ?_)
      refine ifB_intro (fun _ => ?_) fun c => absurd c (by first | decide | simp)
      refine ldAggX 17 10 (h12.up 2) ?_ (by omega)
      refine acceptNil_ok h12 fun w76 h13 => tyI (k := .int .i64) ?_
      exact hK w76 (h13.tail.tail.tail.tail)
    · refine ifB_dec (fun c1 => ?_) fun _ => ⟨rfl, rfl⟩
      refine ifB_dec (fun c2 => ?_) fun _ => ⟨rfl, rfl⟩
      refine ifB_dec (fun c3 => ?_) fun _ => ⟨rfl, rfl⟩
      exact ⟨decide_eq_false (fun c4 => hok ⟨⟨by omega, by omega⟩, by omega, by omega⟩), rfl⟩
end
end Go.Proofs.YtnjadekngjgjcaaGreatDoor
