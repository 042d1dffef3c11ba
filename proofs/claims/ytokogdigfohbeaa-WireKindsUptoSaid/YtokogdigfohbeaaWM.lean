/- Layer 17: a message is read, but for the panics. -/
import Derived.Test.YtokogdigfohbeaaWL
namespace Go.Proofs.Ytokogdigfohbeaa
open Go Go.Pk
def Ms.restB (m : Ms) : Rest :=
  if m.kind = 1 then .raft m.rf.ns m.rf.rej (m.rf.el.map En17.dat) m.rf.snap else if m.kind = 2 then .fetch m.fq.ns else if m.kind = 3 then .fetched m.fd.ns m.fd.div (m.fd.bl.map Dc.bare)
  else if m.kind = 4 then .cmd m.cd.d else m.cl
def Ms.dB (m : Ms) : Md := (m.hd, m.restB)
def zFq : Fq := ⟨0, 0, 0, 0, 0⟩
def zFd : Fd := ⟨0, 0, 0, 0, false, 0, 0, 0, 0, ⟨none, 0, 0⟩, []⟩
/-- a message has nothing but what its kind has -/
structure Ms.only (m : Ms) : Prop where
  rf : m.kind ≠ 1 → m.rf = zRm
  fq : m.kind ≠ 2 → m.fq = zFq
  fd : m.kind ≠ 3 → m.fd = zFd
  cd : m.kind ≠ 4 → m.cd = zCd
  cl : (m.kind = 1 ∨ m.kind = 2 ∨ m.kind = 3 ∨ m.kind = 4) → m.bt = zeroDc ∧ m.ns = [0, 0, 0, 0, 0, 0, 0, 0, 0] ∧ m.pid = 0 ∧ m.commit = false ∧ m.mi = [] ∧ m.bl = [] ∧ m.al = []
  pid : 0 ≤ m.pid
/-- what a message owns -/
def ownM (m : Ms) : Res := All [OwnS elEn m.rf.es m.rf.el, BsR m.rf.ss m.rf.snap, OwnS elDc m.fd.bs m.fd.bl, IsR m.cd.ls m.cd.li, elDc.own m.bt, IsR m.ms m.mi, OwnS elDc m.bs m.bl, OwnS elAb m.av m.al]
/-- are the bytes no message? -/
def badM (t : List UInt8) : Prop := endE t (tkMd t 0 0).2.1 (tkMd t 0 0).2.2 ≠ 0
def zM (k f t c e : Int) : Ms := { zMs with kind := k, frm := f, to := t, corr := c, er := e }
theorem bdRest (k : Int) : Bd (tkRest k) := by
  unfold tkRest
  repeat' split
  · exact ((bdI.rep 7).dep fun _ => bdF.dep fun _ => (bdMany bdEn).dep fun _ => bdB).map
  · exact (bdI.rep 5).map
  · exact ((bdI.rep 8).dep fun _ => bdF.dep fun _ => bdMany bdBt).map
  · exact (bdB.chk.map).map
  · exact ((bdI.rep 9).dep fun _ => bdU.dep fun _ => bdF.dep fun _ => (bdL.chk).dep fun _ => bdBt.dep fun _ => (bdMany bdBt).dep fun _ => bdMany bdAb).map
section
variable {W w : World} {l L : List Res} {K : Value → World → Prop} {X : PX} {b br a0 p : Nat} {e : Int} {t : List UInt8} {S : World → Prop}
theorem own_z (h : Sat W w L) : Sat W w (OwnS elEn ⟨none, 0, 0⟩ [] :: BsR ⟨none, 0, 0⟩ [] :: OwnS elDc ⟨none, 0, 0⟩ [] :: IsR ⟨none, 0, 0⟩ [] :: elDc.own zeroDc :: IsR ⟨none, 0, 0⟩ [] :: OwnS elDc ⟨none, 0, 0⟩ [] :: OwnS elAb ⟨none, 0, 0⟩ [] :: L) :=
  own_nil (Sat.nilSlr (own_nil (Sat.nilSlr (own_zero (Sat.nilSlr (own_nil (own_nil h)) T_int 1)) T_int 1)) T_uint8 1)
theorem bad_of (h : (tkMd t 0 0).2.2 ≠ 0) : badM t := by
  unfold badM endE
  rw [if_neg (fun hh => h hh.1)]; exact h
theorem setW {m m' : Ms} {i a : Nat} {cs : List Value} {ty : TypeId} {K : World → Prop} (h : Sat W w (Blk a m.cells T_api_Msg :: L)) (hm : m.cells.take i ++ cs ++ m.cells.drop (i + cs.length) = m'.cells) (hv : ∀ u ∈ cs, u.oneCell' = true) (hi : i + cs.length ≤ 59) (ht : aggT P ty cs.length = true)
    (hK : ∀ w', Sat W w' (Blk a m'.cells T_api_Msg :: L) → K w') : StoreP P ty (.pointer (some ((⟨a, 0, none⟩ : Addr).add i))) (.agg cs.toArray) w K := by
  refine stAggX i h hv (fun w' h' => hK w' ?_) hi (by rw [add_add, Nat.zero_add]) ht
  rw [hm] at h'
  exact h'
set_option maxHeartbeats 4000000 in
theorem xwhole_ok (ht : t.length ≤ 140737488355328) (h : Sat W w (RdrR br t 0 0 :: RwB b br :: l)) (hX : badM t → Gx W l X)
    (hK : ∀ (m : Ms) w', ¬ badM t → m.only → m.dB = (tkMd t 0 0).1 → Sat W w' (ownM m :: l) → K (.agg m.cells.toArray) w') :
    CallX P F_wire_reader_whole [.pointer (some ⟨b, 0, none⟩)] w K X := by
  apply c_wire_reader_whole
  unfold S_wire_reader_whole
  simp only [nilCk]
  refine allocB h (z := .agg zMs.cells.toArray) (by kernel_rfl) fun a0 w1 h1 => ?_
  have h1' : Sat W w1 (RdrR br t 0 0 :: RwB b br :: Blk a0 zMs.cells T_api_Msg :: l) := (Sat.up (L := Blk a0 zMs.cells T_api_Msg :: RdrR br t 0 0 :: RwB b br :: l) h1 2).up 2
  clear h1 h
  refine ⟨fun z w' => ∃ n1 n2 n3 n4 n5 p1 e1 a, z = (⟨a, 0, none⟩, ()) ∧ Tk.rep takeI 5 t 0 0 = ([n1, n2, n3, n4, n5], p1, e1) ∧ p1 ≤ t.length ∧
    Sat W w' (RdrR br t p1 e1 :: RwB b br :: Blk a (zM n1 n2 n3 n4 n5).cells T_api_Msg :: Blk a0 zMs.cells T_api_Msg :: l), ?_, ?_⟩
  · rintro _ w2 ⟨n1, n2, n3, n4, n5, p1, e1, a, rfl, q, hp1, h2⟩
    have eH : tkHd t 0 0 = ([n1, n2, n3, n4, n5], p1, or0 e1 (hdE [n1, n2, n3, n4, n5])) := by
      simp only [tkHd, Tk.chk, q]
    have eM : tkMd t 0 0 = (([n1, n2, n3, n4, n5], (tkRest n1 t p1 (or0 e1 (hdE [n1, n2, n3, n4, n5]))).1), (tkRest n1 t p1 (or0 e1 (hdE [n1, n2, n3, n4, n5]))).2) := by
      simp only [tkMd, Tk.dep, eH]; rfl
    refine ⟨fun _ w' => hdE [n1, n2, n3, n4, n5] = 0 ∧ Sat W w' (RdrR br t p1 e1 :: RwB b br :: Blk a (zM n1 n2 n3 n4 n5).cells T_api_Msg :: Blk a0 zMs.cells T_api_Msg :: l), ?_, ?_⟩
    · rintro _ w3 ⟨h0, h3⟩
      rw [h0, or0_r] at eM
      have hXr : (tkRest n1 t p1 e1).2.2 ≠ 0 → Gx W (Blk a (zM n1 n2 n3 n4 n5).cells T_api_Msg :: Blk a0 zMs.cells T_api_Msg :: l) X := fun hne => (((hX (bad_of (by rw [eM]; exact hne))).cons).cons)
      refine ⟨fun _ w' => ∃ m p2 e2, Ms.only m ∧ Ms.dB m = (tkMd t 0 0).1 ∧ (tkMd t 0 0).2 = (p2, e2) ∧ p2 ≤ t.length ∧ Sat W w' (ownM m :: RdrR br t p2 e2 :: RwB b br :: Blk a m.cells T_api_Msg :: Blk a0 zMs.cells T_api_Msg :: l), ?_, ?_⟩
      · rintro _ w4 ⟨m, p2, e2, ho, hd, hs, hp2, h4⟩
        refine rPtr2 (h4.up 2) ?_
        refine callX (dEnd_ok (h4.up 1) fun w5 h5 => tyI ?_)
        have hbad : badM t ↔ endE t p2 e2 ≠ 0 := by unfold badM; rw [hs]
        refine ifB_bne (fun hne => ?_) fun he => ?_
        · have h5' : Sat W w5 (RdrR br t p2 e2 :: RwB b br :: ownM m :: Blk a m.cells T_api_Msg :: Blk a0 zMs.cells T_api_Msg :: l) := h5.sel 5 [0, 2, 1, 3, 4]
          exact xfail_ok h5' hp2 (fun _ => hne) ((((hX (hbad.2 hne)).cons).cons).cons)
        · have hnb : ¬ badM t := fun hb => (hbad.1 hb) he
          have h5' : Sat W w5 (Blk a m.cells T_api_Msg :: Blk a0 zMs.cells T_api_Msg :: ownM m :: l) := h5.sel 5 [3, 4, 1]
          refine ldAggB h5' (by kernel_rfl) ?_
          refine stAggB (cs := zMs.cells) (cs' := m.cells) h5'.tail rfl (Ms.ones _) (by kernel_rfl) fun w6 h6 => ?_
          exact ldAggB h6 (by kernel_rfl) (hK m w6 hnb ho hd h6.tail)
      · have h3' := h3.up 2
        refine ldB h3' (o := 0) (i := 0) (x := n1) ?_
        rw [eM]
        refine ifB_beq (fun k1 => ?_) fun k1 => ?_
        · have er : tkRest n1 = tkRaft := by unfold tkRest; rw [if_pos k1]
          rw [er] at hXr ⊢
          refine xraft_ok ht h3 hp1 hXr fun r w4 hr h4 => tyI (k := .val) ?_
          have hb := bdRest n1 t p1 e1 hp1
          rw [er] at hb
          generalize (tkRaft t p1 e1) = c at h4 hr hb ⊢
          obtain ⟨cr, cp, ce⟩ := c
          simp only at h4 hr hb ⊢
          subst hr
          have h5 : Sat W w4 (Blk a (zM n1 n2 n3 n4 n5).cells T_api_Msg :: OwnS elEn r.es r.el :: BsR r.ss r.snap :: RdrR br t cp ce :: RwB b br :: Blk a0 zMs.cells T_api_Msg :: l) := h4.up 4
          refine setW (m' := { zM n1 n2 n3 n4 n5 with rf := r }) (cs := r.cells) h5 rfl (Rm.ones _) (by show 5 + 10 ≤ 59; decide) (by kernel_rfl) fun w5 h6 => ?_
          refine ⟨{ zM n1 n2 n3 n4 n5 with rf := r }, cp, ce, ⟨fun h => absurd k1 h, fun _ => rfl, fun _ => rfl, fun _ => rfl, fun _ => ⟨rfl, rfl, rfl, rfl, rfl, rfl, rfl⟩, Int.le_refl 0⟩, ?_, rfl, hb, ?_⟩
          · show (_, _) = (_, _)
            congr 1
            show Ms.restB _ = _
            unfold Ms.restB
            exact if_pos k1
          · have h7 := own_z (h6.sel 6 [1, 2, 3, 4, 0, 5])
            exact sat_all.2 (h7.sel 10 [8, 9, 2, 3, 4, 5, 6, 7])
        refine ifB_beq (fun k2 => ?_) fun k2 => ?_
        · have er : tkRest n1 = tkFetch := by unfold tkRest; rw [if_neg k1, if_pos k2]
          rw [er] at hXr ⊢
          have hS2 : ∀ w, (∃ p e l', Sat W w (RdrR br t p e :: RwB b br :: l')) → ∃ l', Sat W w (RwB b br :: l') := fun w ⟨_, _, _, hw⟩ => ⟨_, hw.up 1⟩
          refine ⟨fun w => ∃ p e l', Sat W w (RdrR br t p e :: RwB b br :: l'), ⟨_, _, _, h3.drew⟩, ?_⟩
          iterate 5 refine hPtr2 hS2 ?_
          refine xInt ht h3.drew hp1 fun w i1 p5 e5 q1 hp5 h => tyI ⟨⟨_, _, _, h⟩, ?_⟩
          refine xInt ht h hp5 fun w i2 p6 e6 q2 hp6 h => tyI ⟨⟨_, _, _, h⟩, ?_⟩
          refine xInt ht h hp6 fun w i3 p7 e7 q3 hp7 h => tyI ⟨⟨_, _, _, h⟩, ?_⟩
          refine xInt ht h hp7 fun w i4 p8 e8 q4 hp8 h => tyI ⟨⟨_, _, _, h⟩, ?_⟩
          refine xInt ht h hp8 fun w i5 p9 e9 q5 hp9 h => tyI ⟨⟨_, _, _, h⟩, ?_⟩
          let fq : Fq := ⟨i1, i2, i3, i4, i5⟩
          have h5 := h.up 2
          refine setW (m' := { zM n1 n2 n3 n4 n5 with fq := fq }) (cs := fq.cells) h5 rfl (by intro u hu; simp only [Fq.cells, List.mem_cons, List.not_mem_nil, or_false] at hu; rcases hu with rfl | rfl | rfl | rfl | rfl <;> rfl) (by show 15 + 5 ≤ 59; decide) (by kernel_rfl) fun w5 h6 => ?_
          have e0 : tkFetch t p1 e1 = (.fetch [i1, i2, i3, i4, i5], p9, e9) := by simp only [tkFetch, Tk.map, Tk.rep, q1, q2, q3, q4, q5]
          rw [e0]
          refine ⟨⟨_, _, _, h6.sel 4 [1, 2, 0, 3]⟩, { zM n1 n2 n3 n4 n5 with fq := fq }, p9, e9, ⟨fun _ => rfl, fun h => absurd k2 h, fun _ => rfl, fun _ => rfl, fun _ => ⟨rfl, rfl, rfl, rfl, rfl, rfl, rfl⟩, Int.le_refl 0⟩, ?_, rfl, hp9, ?_⟩
          · show (_, _) = (_, _)
            congr 1
            show Ms.restB _ = _
            unfold Ms.restB
            exact (if_neg k1).trans (if_pos k2)
          · have h7 := own_z (h6.sel 4 [1, 2, 0, 3])
            exact sat_all.2 h7
        refine ifB_beq (fun k3 => ?_) fun k3 => ?_
        · have er : tkRest n1 = tkFetched := by unfold tkRest; rw [if_neg k1, if_neg k2, if_pos k3]
          rw [er] at hXr ⊢
          have hS2 : ∀ w, (∃ p e l', Sat W w (RdrR br t p e :: RwB b br :: l')) → ∃ l', Sat W w (RwB b br :: l') := fun w ⟨_, _, _, hw⟩ => ⟨_, hw.up 1⟩
          refine ⟨fun w => ∃ p e l', Sat W w (RdrR br t p e :: RwB b br :: l'), ⟨_, _, _, h3.drew⟩, ?_⟩
          iterate 9 refine hPtr2 hS2 ?_
          refine xInt ht h3.drew hp1 fun w i1 p5 e5 q1 hp5 h => tyI ⟨⟨_, _, _, h⟩, ?_⟩
          refine xInt ht h hp5 fun w i2 p6 e6 q2 hp6 h => tyI ⟨⟨_, _, _, h⟩, ?_⟩
          refine xInt ht h hp6 fun w i3 p7 e7 q3 hp7 h => tyI ⟨⟨_, _, _, h⟩, ?_⟩
          refine xInt ht h hp7 fun w i4 p8 e8 q4 hp8 h => tyI ⟨⟨_, _, _, h⟩, ?_⟩
          refine xInt ht h hp8 fun w i5 p9 e9 q5 hp9 h => tyI ⟨⟨_, _, _, h⟩, ?_⟩
          refine xInt ht h hp9 fun w i6 p10 e10 q6 hp10 h => tyI ⟨⟨_, _, _, h⟩, ?_⟩
          refine xInt ht h hp10 fun w i7 p11 e11 q7 hp11 h => tyI ⟨⟨_, _, _, h⟩, ?_⟩
          refine xInt ht h hp11 fun w i8 p12 e12 q8 hp12 h => tyI ⟨⟨_, _, _, h⟩, ?_⟩
          refine xFlag ht h hp12 fun w dv p13 e13 q9 hp13 h => tyI ⟨⟨_, _, _, h⟩, ?_⟩
          have e0 : tkFetched t p1 e1 = (.fetched [i1, i2, i3, i4, i5, i6, i7, i8] dv (tkMany tkBt t p13 e13).1, (tkMany tkBt t p13 e13).2) := by
            simp only [tkFetched, Tk.map, Tk.dep, Tk.rep, q1, q2, q3, q4, q5, q6, q7, q8, q9]
          rw [e0] at hXr ⊢
          refine xbatches_ok ht h hp13 hXr fun s xs w hxs h => tyI ?_
          have hpc := bdMany bdBt t p13 e13 hp13
          rw [← hxs]
          generalize (tkMany tkBt t p13 e13).2 = c at h hpc ⊢
          obtain ⟨pc, ec⟩ := c
          simp only at h hpc ⊢
          let fd : Fd := ⟨i1, i2, i3, i4, dv, i5, i6, i7, i8, s, xs⟩
          refine ⟨⟨_, _, _, h.sel 3 [1, 2, 0]⟩, ?_⟩
          have h5 := h.up 3
          refine setW (m' := { zM n1 n2 n3 n4 n5 with fd := fd }) (cs := fd.cells) h5 rfl (Fd.ones _) (by show 20 + 10 ≤ 59; decide) (by kernel_rfl) fun w5 h6 => ?_
          refine ⟨⟨_, _, _, h6.sel 5 [2, 3, 0, 1, 4]⟩, { zM n1 n2 n3 n4 n5 with fd := fd }, pc, ec, ⟨fun _ => rfl, fun _ => rfl, fun h => absurd k3 h, fun _ => rfl, fun _ => ⟨rfl, rfl, rfl, rfl, rfl, rfl, rfl⟩, Int.le_refl 0⟩, ?_, rfl, hpc, ?_⟩
          · show (_, _) = (_, _)
            congr 1
            show Ms.restB _ = _
            unfold Ms.restB
            exact (if_neg k1).trans ((if_neg k2).trans (if_pos k3))
          · have h7 := own_z (h6.sel 5 [1, 2, 3, 0, 4])
            exact sat_all.2 (h7.sel 9 [0, 1, 8, 3, 4, 5, 6, 7])
        refine ifB_beq (fun k4 => ?_) fun k4 => ?_
        · have er : tkRest n1 = tkCmd := by unfold tkRest; rw [if_neg k1, if_neg k2, if_neg k3, if_pos k4]
          rw [er] at hXr ⊢
          refine rPtr2 (h3.up 1) ?_
          have e0 : tkCmd t p1 e1 = (.cmd (tkCd0 (takeB t p1 e1).1 0 0).1, (takeB t p1 e1).2.1, or0 (takeB t p1 e1).2.2 (cdTE (takeB t p1 e1).1)) := rfl
          rw [e0] at hXr ⊢
          have hsm := takeB_small (t := t) (p := p1) (e := e1)
          refine xBytes ht h3 hp1 fun s w d p5 e5 q1 hp5 h => tyI ?_
          rw [q1] at hXr hsm ⊢
          simp only at hXr hsm ⊢
          refine callX (idecode_ok h Rd.own (by omega) fun c w hc h => tup2v ?_)
          refine newAgg (z := zCd.cells) (cs := c.cells) h (Cd.ones _) fun g w h => ?_
          refine ifB_bne (fun hne => ?_) fun he => ?_
          · have h5 : Sat W w (RdrR br t p5 e5 :: RwB b br :: Blk a (zM n1 n2 n3 n4 n5).cells T_api_Msg :: Blk a0 zMs.cells T_api_Msg :: l) := h.sel 7 [3, 4, 5, 6]
            refine xfail_ok h5 hp5 (fun _ => hne) (hXr ?_)
            unfold or0
            split
            · exact hne
            · assumption
          · have he' : cdTE d = 0 := he
            rw [he', or0_r, ← hc he']
            refine ldAggB h (by kernel_rfl) ?_
            have h5 := h.up 5
            refine setW (m' := { zM n1 n2 n3 n4 n5 with cd := c }) (cs := c.cells) h5 rfl (Cd.ones _) (by show 30 + 6 ≤ 59; decide) (by kernel_rfl) fun w5 h6 => ?_
            refine ⟨{ zM n1 n2 n3 n4 n5 with cd := c }, p5, e5, ⟨fun _ => rfl, fun _ => rfl, fun _ => rfl, fun h => absurd k4 h, fun _ => ⟨rfl, rfl, rfl, rfl, rfl, rfl, rfl⟩, Int.le_refl 0⟩, ?_, rfl, hp5, ?_⟩
            · show (_, _) = (_, _)
              congr 1
              show Ms.restB _ = _
              unfold Ms.restB
              exact (if_neg k1).trans ((if_neg k2).trans ((if_neg k3).trans (if_pos k4)))
            · have h7 := own_z (h6.sel 7 [2, 4, 5, 0, 6])
              exact sat_all.2 (h7.sel 9 [0, 1, 2, 8, 4, 5, 6, 7])
        · have er : tkRest n1 = tkClient := by unfold tkRest; rw [if_neg k1, if_neg k2, if_neg k3, if_neg k4]
          rw [er] at hXr ⊢
          refine ldAggB h3' (by kernel_rfl) ?_
          have hb := bdRest n1 t p1 e1 hp1
          rw [er] at hb
          refine xclient_ok (m0 := zM n1 n2 n3 n4 n5) ht h3 hp1 hXr fun m w hsm hm h => tyI (k := .val) ?_
          generalize (tkClient t p1 e1) = c at h hm hb ⊢
          obtain ⟨cr, cp, ce⟩ := c
          simp only at h hm hb ⊢
          subst hm
          have h5 := h.up 6
          refine stAggB (cs := (zM n1 n2 n3 n4 n5).cells) (cs' := m.cells) h5 rfl (Ms.ones _) (by kernel_rfl) fun w5 h6 => ?_
          obtain ⟨s1, s2, s3, s4, s5, s6, s7, s8, s9, s10⟩ := hsm
          refine ⟨m, cp, ce, ⟨fun _ => s6, fun _ => s7, fun _ => s8, fun _ => s9, fun hk => ?_, s10⟩, ?_, rfl, hb, ?_⟩
          · rw [s1] at hk
            rcases hk with h | h | h | h
            · exact absurd h k1
            · exact absurd h k2
            · exact absurd h k3
            · exact absurd h k4
          · show (_, _) = (_, _)
            congr 1
            · show [m.kind, m.frm, m.to, m.corr, m.er] = _
              rw [s1, s2, s3, s4, s5]; rfl
            · show Ms.restB _ = _
              unfold Ms.restB
              rw [s1]
              exact (if_neg k1).trans ((if_neg k2).trans ((if_neg k3).trans (if_neg k4)))
          · have h7 := own_z (h6.sel 8 [1, 2, 3, 4, 5, 6, 0, 7])
            refine sat_all.2 ?_
            rw [s6, s8, s9]
            exact h7.sel 12 [0, 1, 2, 3, 9, 8, 10, 11]
    · have h2' := h2.up 2
      have bad : (n1 < 1 ∨ n1 > 15) → Gx W (Blk a (zM n1 n2 n3 n4 n5).cells T_api_Msg :: Blk a0 zMs.cells T_api_Msg :: l) X := fun hb => by
        have h1 : hdE [n1, n2, n3, n4, n5] = 1 := by unfold hdE; exact if_pos hb
        refine ((hX (bad_of ?_)).cons).cons
        rw [eM]
        show (tkRest n1 t p1 _).2.2 ≠ 0
        have hne : or0 e1 (hdE [n1, n2, n3, n4, n5]) ≠ 0 := by
          rw [h1]; unfold or0
          split
          · decide
          · assumption
        rw [erRest n1 _ _ _ hne]; exact hne
      refine ldB h2' (o := 0) (i := 0) (x := n1) ?_
      refine ifB_dec (fun hb => xfail_ok h2 hp1 (fun _ => by decide) (bad (.inl hb))) fun hb1 => ?_
      refine ldB h2' (o := 0) (i := 0) (x := n1) ?_
      refine ifB_dec (fun hb => xfail_ok h2 hp1 (fun _ => by decide) (bad (.inr hb))) fun hb2 => ⟨?_, h2⟩
      unfold hdE
      exact if_neg (by show ¬ (n1 < 1 ∨ n1 > 15); omega)
  · have hS2 : ∀ w, (∃ p e l', Sat W w (RdrR br t p e :: RwB b br :: l')) → ∃ l', Sat W w (RwB b br :: l') := fun w ⟨_, _, _, hw⟩ => ⟨_, hw.up 1⟩
    have hal : ∀ {w : World} {p : Nat} {e : Int} {L : List Res} {K : Addr → World → Prop}, Sat W w (RdrR br t p e :: RwB b br :: L) → (∀ g w', Sat W w' (RdrR br t p e :: RwB b br :: Blk g zMs.cells T_api_Msg :: L) → K ⟨g, 0, none⟩ w') → RunK .addr P (Instr.alloc T_api_Msg true (.tuple #[])) w K :=
      fun h hK => allocB h (z := .agg zMs.cells.toArray) (by kernel_rfl) fun g w' h' => hK g w' ((h'.up 2).up 2)
    have hst : ∀ {w : World} {p g : Nat} {e : Int} {L : List Res} {K : World → Prop} {n1 n2 n3 n4 n5 : Int}, Sat W w (RdrR br t p e :: RwB b br :: Blk g zMs.cells T_api_Msg :: L) → (∀ w', Sat W w' (RdrR br t p e :: RwB b br :: Blk g (zM n1 n2 n3 n4 n5).cells T_api_Msg :: L) → K w') →
        StoreP P T_api_Msg (.pointer (some ⟨g, 0, none⟩)) (.agg (zM n1 n2 n3 n4 n5).cells.toArray) w K :=
      fun {w p g e L K n1 n2 n3 n4 n5} h hK => stAggB (cs := zMs.cells) (cs' := (zM n1 n2 n3 n4 n5).cells) (h.up 2) rfl (Ms.ones _) (by kernel_rfl) fun w' h' => hK w' ((h'.up 2).up 2)
    have fin : ∀ {w' : World} {n1 n2 n3 n4 n5 : Int} {p1 : Nat} {e1 : Int} {a : Nat}, Tk.rep takeI 5 t 0 0 = ([n1, n2, n3, n4, n5], p1, e1) → p1 ≤ t.length →
        Sat W w' (RdrR br t p1 e1 :: RwB b br :: Blk a (zM n1 n2 n3 n4 n5).cells T_api_Msg :: Blk a0 zMs.cells T_api_Msg :: l) →
        ∃ n1 n2 n3 n4 n5 p1 e1 a', ((⟨a, 0, none⟩ : Addr), ()) = (⟨a', 0, none⟩, ()) ∧ Tk.rep takeI 5 t 0 0 = ([n1, n2, n3, n4, n5], p1, e1) ∧ p1 ≤ t.length ∧
          Sat W w' (RdrR br t p1 e1 :: RwB b br :: Blk a' (zM n1 n2 n3 n4 n5).cells T_api_Msg :: Blk a0 zMs.cells T_api_Msg :: l) :=
      fun q2 hp h => ⟨_, _, _, _, _, _, _, _, rfl, q2, hp, h⟩
    have h := h1'.drew
    have hp : 0 ≤ t.length := Nat.zero_le _
    clear h1' hK hX
    refine ⟨fun w => ∃ p e l', Sat W w (RdrR br t p e :: RwB b br :: l'), ⟨_, _, _, h⟩, ?_⟩
    iterate 5 refine hPtr2 hS2 ?_
    repeat' first
      | refine ⟨?_, ?_, trivial⟩
      | refine xInt ht h hp fun w n p e q hp h => tyI ⟨⟨_, _, _, h⟩, ?_⟩
      | refine hal h fun g w h => ⟨⟨_, _, _, h⟩, ?_⟩
      | refine hst h fun w h => ⟨⟨_, _, _, h⟩, ?_⟩
    all_goals exact fin (by simp only [Tk.rep, *]) hp h
end
end Go.Proofs.Ytokogdigfohbeaa
