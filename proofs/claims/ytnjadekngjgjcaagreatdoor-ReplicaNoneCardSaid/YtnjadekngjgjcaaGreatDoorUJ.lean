/- Layer 14: roles; a batch is laid behind the leader's log. -/
import Derived.Test.YtnjadekngjgjcaaGreatDoorUI
namespace Go.Proofs.YtnjadekngjgjcaaGreatDoor
open Go Go.Pk
/-- a replica of a log -/
noncomputable def Rp.opn (n : List UInt8) (d : Dk) (part me : Int) : Rp := { Rp.learn ⟨part, me, opLg n d, Pt9.new, [], -1, false, 0, 0, [], [], []⟩ with high := (opLg n d).start }
theorem LFit.segs {g g' : Lg} (h : LFit g) (e : g'.segs = g.segs) : LFit g' := by
  have hf : g'.fin = g.fin := by unfold Lg.fin; rw [e]
  exact ⟨fun s hs => h.b s (e ▸ hs), fun s hs => h.f s (e ▸ hs), fun s hs => h.c s (e ▸ hs), fun s hs => h.e s (e ▸ hs), fun s hs => h.r s (e ▸ hs), by rw [e]; exact h.n, by rw [hf]; exact h.fin, by rw [e]; exact h.q⟩
theorem LFit.flush {g : Lg} (h : LFit g) (d : Dk) : LFit (g.flush d).1 := h.segs (Lg.flush_segs g d)
section
variable {W w : World} {l : List Res} {K : Value → World → Prop} {a b : Nat} {r : Rp} {p : RpP}
theorem ropen_ok {d : Dk} {n : List UInt8} {part me : Int} (h : Sat W w (DkR b d :: l)) (hl : Lai W l) (hd : d.dead = false) (hn : n ≠ [] ∧ n.length ≤ 8 ∧ ¬ 46 ∈ n) (hm : NmOk n d) (hfs : d.files.length ≤ 4096) (hfl0 : ∀ f ∈ d.names, f.length ≤ 1000000)
    (hpa : 0 ≤ part ∧ part < 6) (hme : 0 ≤ me ∧ me < 5) (hfit : LFit (opLg n d))
    (hK : ∀ a w', Sat W w' (RpR a b (Rp.opn n d part me) :: DkR b (opDk n d) :: l) → K (.tuple #[.pointer (some ⟨a, 0, none⟩), .int .i64 0]) w') : CallP P F_replica_Open [.pointer (some ⟨b, 0, none⟩), .string (vK n), .int .i64 part, .int .i64 me] w K := by
  apply c_replica_Open
  unfold S_replica_Open
  refine ⟨fun _ w' => w' = w, ?_, ?_⟩
  · rintro _ _ rfl
    refine open_ok h hl hd hn hm hfs hfl0 fun al w4 _ _ h1 => ⟨(some ⟨al, 0, none⟩, 0, ()), rfl, ?_⟩
    refine ifB_bne (fun c => absurd rfl c) fun _ => ?_
    refine mkMap (k := T_int) (e := T_p_replica_peer) (by kernel_rfl) h1 .i64 (fun m w7 h2 => ?_) (fun w => by kernel_rfl)
    let r0 : Rp := ⟨part, me, opLg n d, Pt9.new, [], -1, false, 0, 0, [], [], []⟩
    let p0 : RpP := ⟨al, 0, 0, ⟨none, 0, 0⟩, ⟨none, 0, 0⟩, m⟩
    refine boxB h2 fun a w9 h3 => ?_
    have h3 : Sat W w9 (Blk a (rpcells0 r0 p0 (.pointer none) (.pointer none)) T_replica_Replica :: MpR .i64 m [] :: LgR al b (opLg n d) :: DkR b (opDk n d) :: l) := h3
    have h4 : Sat W w9 (MpP .i64 m PeR [] :: Blk a (rpcells0 r0 p0 (.pointer none) (.pointer none)) T_replica_Replica :: LgR al b (opLg n d) :: DkR b (opDk n d) :: l) := by
      refine sat_mpp.2 ⟨[], rfl, ?_⟩
      have h5 : Sat W w9 (All [] :: Blk a (rpcells0 r0 p0 (.pointer none) (.pointer none)) T_replica_Replica :: MpR .i64 m [] :: LgR al b (opLg n d) :: DkR b (opDk n d) :: l) := sat_alln.2 h3
      exact h5.sel 5 [2, 0, 1, 3, 4]
    have h5 := Sat.nilSlr (Sat.nilSlr h4 T_int 1) T_int 1
    have h6 : Sat W w9 (Blk a (rpcells0 r0 p0 (.pointer none) (.pointer none)) T_replica_Replica :: LgR p0.al b r0.log :: IsR p0.isr r0.isr :: IsR p0.asked r0.asked :: MpP .i64 p0.pm PeR r0.peers :: DkR b (opDk n d) :: l) := h5.sel 6 [3, 4, 0, 1, 2, 5]
    refine learn_okL (r := r0) (p := p0) h6 hfit fun pt pe w11 h7 => tupU rfl ?_
    have elog : r0.learn.log = opLg n d := by
      have : ∀ (bs : List Bd) (r : Rp), (bs.foldl Rp.note r).log = r.log := fun bs => by
        induction bs with
        | nil => intro r; rfl
        | cons x bs ih => intro r; rw [List.foldl_cons, ih]; rfl
      exact this _ _
    have h8 := h7.up 1
    refine start_ok h8 (tyI (k := .int .i64) ?_)
    rw [elog]
    refine stX h7 8 (v := .int .i64 (opLg n d).start) (hi := (by show 8 < 12; decide)) fun w16 h9 => hK a w16 (sat_rp.2 ⟨_, h9⟩)
  · refine ifB_intro (fun c => absurd c (by simp)) fun _ => ?_
    refine ifB_dec (fun c => absurd c (by omega)) fun _ => ?_
    refine ifB_dec (fun c => absurd c (by omega)) fun _ => ?_
    refine ifB_dec (fun c => absurd c (by omega)) fun _ => ?_
    refine ifB_dec (fun c => absurd c (by omega)) fun _ => rfl
theorem lead_okL {x : Sl} {e : Int} {isr : List Int} (h : Sat W w (RpL a b r p l)) (hx : Rd W l x 1 (isr.map vI)) (hi : isr.length ≤ 1000000) (hF : LFit r.log)
    (hK : ∀ p' w', Sat W w' (RpL a b (r.lead e isr).1 p' l) → K (.int .i64 (r.lead e isr).2) w') : CallP P F_replica_Replica_Lead [.pointer (some ⟨a, 0, none⟩), .int .i64 e, x.v] w K := by
  apply c_replica_Replica_Lead
  unfold S_replica_Replica_Lead
  unfold Rp.lead at hK
  refine ifB_intro (fun c => absurd c (by simp)) fun _ => ?_
  refine ldX h 5 (x := r.epoch) ?_
  refine ifB_dec (fun c => ?_) fun c => ?_
  · rw [if_pos c] at hK; exact hK p w h
  rw [if_neg c] at hK
  refine ldX h 2 (x := some ⟨p.al, 0, none⟩) ?_
  refine fin_ok (h.up 1) hF.b fun w5 h1 => tyI (k := .int .i64) ?_
  have h2 : Sat W w5 (RpL a b r p l) := h1.swap
  refine stX h2 5 (v := .int .i64 e) (hi := (by show 5 < 12; decide)) fun w8 h3 => ?_
  refine stX h3 6 (v := .bool true) (hi := (by show 6 < 12; decide)) fun w10 h4 => ?_
  refine stX h4 7 (v := .int .i64 r.log.fin) (hi := (by show 7 < 12; decide)) fun w12 h5 => ?_
  refine cloneI_ok (xs := isr) h5 hx.cons.cons.cons.cons.cons.cons.cons (by omega) fun s15 w14 h6 => tyI (k := .sl) ?_
  refine stX h6.swap 9 (v := s15.v) (hi := (by show 9 < 12; decide)) fun w17 h7 => ?_
  refine stX h7 10 (v := Sl.v ⟨none, 0, 0⟩) (hi := (by show 10 < 12; decide)) fun w19 h8 => ?_
  refine mkMap (k := T_int) (e := T_p_replica_peer) (by kernel_rfl) h8 .i64 (fun m w21 h9 => ?_) (fun w => by kernel_rfl)
  refine stX h9.swap 11 (v := .map (some m)) (hi := (by show 11 < 12; decide)) fun w23 h10 => ?_
  let r1 : Rp := { r with epoch := e, leads := true, begin_ := r.log.fin, isr := isr, asked := [], peers := [] }
  let q : RpP := { p with isr := s15, asked := ⟨none, 0, 0⟩, pm := m }
  have h11 : Sat W w23 (Blk a (rpcells r1 q) T_replica_Replica :: MpR .i64 m [] :: IsR s15 isr :: LgR p.al b r.log :: PtR p.at_ r.pt :: EcR p.ae r.ec :: IsR p.isr r.isr :: IsR p.asked r.asked :: MpP .i64 p.pm PeR r.peers :: l) := h10
  have h12 : Sat W w23 (MpP .i64 m PeR [] :: Blk a (rpcells r1 q) T_replica_Replica :: IsR s15 isr :: LgR p.al b r.log :: PtR p.at_ r.pt :: EcR p.ae r.ec :: IsR p.isr r.isr :: IsR p.asked r.asked :: MpP .i64 p.pm PeR r.peers :: l) := by
    refine sat_mpp.2 ⟨[], rfl, ?_⟩
    have h5 := sat_alln.2 h11
    exact h5.sel 3 [2, 0, 1]
  have h13 := Sat.nilSlr h12 T_int 1
  have h14 : Sat W w23 (RpL a b r1 q l) := h13.sel 10 [2, 4, 5, 6, 3, 0, 1]
  exact rise_okL (r := r1) (p := q) h14 hi (Nat.zero_le _) fun w25 h15 => tupU rfl (hK q w25 h15)
end
end Go.Proofs.YtnjadekngjgjcaaGreatDoor
