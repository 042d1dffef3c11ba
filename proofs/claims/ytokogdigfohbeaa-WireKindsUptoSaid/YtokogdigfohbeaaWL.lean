/- Layer 17: the reader: what clients ask. -/
import Derived.Test.YtokogdigfohbeaaWK
namespace Go.Proofs.Ytokogdigfohbeaa
open Go Go.Pk
def Ms.cl (m : Ms) : Rest := .client m.ns m.pid.toNat m.commit m.mi m.bt.bare (m.bl.map Dc.bare) (m.al.map Ab.dat)
def zMs : Ms := ⟨0, 0, 0, 0, 0, zRm, ⟨0, 0, 0, 0, 0⟩, ⟨0, 0, 0, 0, false, 0, 0, 0, 0, ⟨none, 0, 0⟩, []⟩, zCd, zeroDc, 0, 0, 0, 0, 0, 0, false, 0, 0, 0, ⟨none, 0, 0⟩, [], ⟨none, 0, 0⟩, [], ⟨none, 0, 0⟩, [], 0⟩
/-- what of a message isn't a client's -/
def Ms.same (m m' : Ms) : Prop := m'.kind = m.kind ∧ m'.frm = m.frm ∧ m'.to = m.to ∧ m'.corr = m.corr ∧ m'.er = m.er ∧ m'.rf = m.rf ∧ m'.fq = m.fq ∧ m'.fd = m.fd ∧ m'.cd = m.cd ∧ 0 ≤ m'.pid
section
variable {W w : World} {l L : List Res} {K : Value → World → Prop} {X : PX} {b br a0 p : Nat} {e : Int} {t : List UInt8} {S : World → Prop}
theorem setM {m m' : Ms} {i a : Nat} {v : Value} {ty : TypeId} {K : World → Prop} (h : Sat W w (RdrR br t p e :: RwB b br :: VrB a0 b :: Blk a m.cells T_api_Msg :: L)) (hm : m.cells.set (0 + i) v = m'.cells) (hv : v.oneCell' = true) (hi : 0 + i < 59) (ht : oneT P ty = true)
    (hK : ∀ w', Sat W w' (RdrR br t p e :: RwB b br :: VrB a0 b :: Blk a m'.cells T_api_Msg :: L) → K w') : StoreP P ty (.pointer (some ((⟨a, 0, none⟩ : Addr).add i))) v w K := by
  have h1 := h.up 3
  refine stB h1 (i := i) (v := v) (fun w' h' => hK w' ?_) hv hi ht
  rw [hm] at h'
  exact ((h'.up 3).up 3).up 3
theorem setMA {m m' : Ms} {i a : Nat} {cs : List Value} {ty : TypeId} {K : World → Prop} (h : Sat W w (RdrR br t p e :: RwB b br :: VrB a0 b :: Blk a m.cells T_api_Msg :: L)) (hm : m.cells.take i ++ cs ++ m.cells.drop (i + cs.length) = m'.cells) (hv : ∀ u ∈ cs, u.oneCell' = true) (hi : i + cs.length ≤ 59) (ht : aggT P ty cs.length = true)
    (hK : ∀ w', Sat W w' (RdrR br t p e :: RwB b br :: VrB a0 b :: Blk a m'.cells T_api_Msg :: L) → K w') : StoreP P ty (.pointer (some ((⟨a, 0, none⟩ : Addr).add i))) (.agg cs.toArray) w K := by
  have h1 := h.up 3
  refine stAggX i h1 hv (fun w' h' => hK w' ?_) hi (by rw [add_add, Nat.zero_add]) ht
  rw [hm] at h'
  exact ((h'.up 3).up 3).up 3
set_option maxHeartbeats 2000000 in
theorem xclient_ok {m0 : Ms} (ht : t.length ≤ 140737488355328) (h : Sat W w (RdrR br t p e :: RwB b br :: l)) (hp : p ≤ t.length) (hX : (tkClient t p e).2.2 ≠ 0 → Gx W l X)
    (hK : ∀ (m : Ms) w', m0.same m → (tkClient t p e).1 = m.cl → Sat W w' (IsR m.ms m.mi :: elDc.own m.bt :: OwnS elDc m.bs m.bl :: OwnS elAb m.av m.al :: RdrR br t (tkClient t p e).2.1 (tkClient t p e).2.2 :: RwB b br :: l) → K (.agg m.cells.toArray) w') :
    CallX P F_wire_reader_client [.pointer (some ⟨b, 0, none⟩), .agg m0.cells.toArray] w K X := by
  apply c_wire_reader_client
  unfold S_wire_reader_client
  refine boxB h fun a0 w1 h1 => ?_
  have h1' : Sat W w1 (VrB a0 b :: RdrR br t p e :: RwB b br :: l) := h1
  refine boxB h1' fun a2 w2 h2 => ?_
  have h2' : Sat W w2 (Blk a2 m0.cells T_api_Msg :: VrB a0 b :: RdrR br t p e :: RwB b br :: l) := h2
  refine allocB h2' (z := .agg zMs.cells.toArray) (by kernel_rfl) fun a4 w3 h3 => ?_
  have h3' : Sat W w3 (Blk a4 zMs.cells T_api_Msg :: Blk a2 m0.cells T_api_Msg :: VrB a0 b :: RdrR br t p e :: RwB b br :: l) := h3
  have h4 : Sat W w3 (RdrR br t p e :: RwB b br :: VrB a0 b :: Blk a2 m0.cells T_api_Msg :: Blk a4 zMs.cells T_api_Msg :: l) := (((h3'.up 1).up 2).up 4).up 4
  clear h3' h3 h2' h2 h1' h1 h
  have hS1 : ∀ w, (∃ p e l', Sat W w (RdrR br t p e :: RwB b br :: VrB a0 b :: l')) → ∃ l', Sat W w (VrB a0 b :: l') := fun w ⟨_, _, _, hw⟩ => ⟨_, hw.up 2⟩
  have hS2 : ∀ w, (∃ p e l', Sat W w (RdrR br t p e :: RwB b br :: VrB a0 b :: l')) → ∃ l', Sat W w (RwB b br :: l') := fun w ⟨_, _, _, hw⟩ => ⟨_, hw.up 1⟩
  refine ⟨fun w => ∃ p e l', Sat W w (RdrR br t p e :: RwB b br :: VrB a0 b :: l'), ⟨_, _, _, h4.drew⟩, ?_⟩
  iterate 5
    refine hPtr1 hS1 ?_
    refine hPtr2 hS2 ?_
  refine xInt ht h4.drew hp fun w n1 p1 e1 q1 hp1 h => tyI ⟨⟨_, _, _, h⟩, ?_⟩
  refine xInt ht h hp1 fun w n2 p2 e2 q2 hp2 h => tyI ⟨⟨_, _, _, h⟩, ?_⟩
  refine xInt ht h hp2 fun w n3 p3 e3 q3 hp3 h => tyI ⟨⟨_, _, _, h⟩, ?_⟩
  refine xInt ht h hp3 fun w n4 p4 e4 q4 hp4 h => tyI ⟨⟨_, _, _, h⟩, ?_⟩
  refine xInt ht h hp4 fun w n5 p5 e5 q5 hp5 h => tyI ⟨⟨_, _, _, h⟩, ?_⟩
  let m1 : Ms := { m0 with part := n1 }
  let m2 : Ms := { m0 with part := n1, offset := n2 }
  let m3 : Ms := { m0 with part := n1, offset := n2, tx := n3 }
  let m4 : Ms := { m0 with part := n1, offset := n2, tx := n3, inc := n4 }
  let m5 : Ms := { m0 with part := n1, offset := n2, tx := n3, inc := n4, epoch := n5 }
  refine setM (m' := m1) h rfl rfl (by decide) (by kernel_rfl) fun w h => ⟨⟨_, _, _, h⟩, ?_⟩
  refine setM (m' := m2) h rfl rfl (by decide) (by kernel_rfl) fun w h => ⟨⟨_, _, _, h⟩, ?_⟩
  refine setM (m' := m3) h rfl rfl (by decide) (by kernel_rfl) fun w h => ⟨⟨_, _, _, h⟩, ?_⟩
  refine setM (m' := m4) h rfl rfl (by decide) (by kernel_rfl) fun w h => ⟨⟨_, _, _, h⟩, ?_⟩
  refine setM (m' := m5) h rfl rfl (by decide) (by kernel_rfl) fun w h => ⟨⟨_, _, _, h⟩, ?_⟩
  refine ⟨fun w => ∃ p e l', Sat W w (RdrR br t p e :: RwB b br :: VrB a0 b :: l'), ⟨_, _, _, h.drew⟩, ?_⟩
  iterate 4
    refine hPtr1 hS1 ?_
    refine hPtr2 hS2 ?_
  refine xInt ht h.drew hp5 fun w n6 p6 e6 q6 hp6 h => tyI ⟨⟨_, _, _, h⟩, ?_⟩
  refine xInt ht h hp6 fun w n7 p7 e7 q7 hp7 h => tyI ⟨⟨_, _, _, h⟩, ?_⟩
  refine xInt ht h hp7 fun w n8 p8 e8 q8 hp8 h => tyI ⟨⟨_, _, _, h⟩, ?_⟩
  refine xInt ht h hp8 fun w n9 p9 e9 q9 hp9 h => tyI ⟨⟨_, _, _, h⟩, ?_⟩
  let m6 : Ms := { m5 with group := n6 }
  let m7 : Ms := { m5 with group := n6, gen := n7 }
  let m8 : Ms := { m5 with group := n6, gen := n7, member := n8 }
  let m9 : Ms := { m5 with group := n6, gen := n7, member := n8, high := n9 }
  refine setM (m' := m6) h rfl rfl (by decide) (by kernel_rfl) fun w h => ⟨⟨_, _, _, h⟩, ?_⟩
  refine setM (m' := m7) h rfl rfl (by decide) (by kernel_rfl) fun w h => ⟨⟨_, _, _, h⟩, ?_⟩
  refine setM (m' := m8) h rfl rfl (by decide) (by kernel_rfl) fun w h => ⟨⟨_, _, _, h⟩, ?_⟩
  refine setM (m' := m9) h rfl rfl (by decide) (by kernel_rfl) fun w h => ⟨⟨_, _, _, h⟩, ?_⟩
  refine ⟨fun w => ∃ p e l', Sat W w (RdrR br t p e :: RwB b br :: VrB a0 b :: l'), ⟨_, _, _, h.drew⟩, ?_⟩
  iterate 3
    refine hPtr1 hS1 ?_
    refine hPtr2 hS2 ?_
  refine xUint ht h.drew hp9 fun w u pu eu qu hu hpu h => tyI ⟨⟨_, _, _, h⟩, ?_⟩
  refine xFlag ht h hpu fun w f pf ef qf hpf h => tyI ⟨⟨_, _, _, h⟩, ?_⟩
  refine xInts ht h hpf fun s w mi pm em qm hpm h => tyI ?_
  have hml := Sat.isLen h
  have h : Sat W w (RdrR br t pm em :: RwB b br :: VrB a0 b :: Blk a2 m9.cells T_api_Msg :: IsR s mi :: Blk a4 zMs.cells T_api_Msg :: l) := h.sel 6 [1, 2, 3, 4, 0, 5]
  have eq : tkClient t p e = (.client [n1, n2, n3, n4, n5, n6, n7, n8, n9] u f mi (tkBt t pm (or0 em (if mi.length > 512 then 2 else 0))).1
      (tkMany tkBt t (tkBt t pm (or0 em (if mi.length > 512 then 2 else 0))).2.1 (tkBt t pm (or0 em (if mi.length > 512 then 2 else 0))).2.2).1
      (tkMany tkAb t (tkMany tkBt t (tkBt t pm (or0 em (if mi.length > 512 then 2 else 0))).2.1 (tkBt t pm (or0 em (if mi.length > 512 then 2 else 0))).2.2).2.1 (tkMany tkBt t (tkBt t pm (or0 em (if mi.length > 512 then 2 else 0))).2.1 (tkBt t pm (or0 em (if mi.length > 512 then 2 else 0))).2.2).2.2).1,
      (tkMany tkAb t (tkMany tkBt t (tkBt t pm (or0 em (if mi.length > 512 then 2 else 0))).2.1 (tkBt t pm (or0 em (if mi.length > 512 then 2 else 0))).2.2).2.1 (tkMany tkBt t (tkBt t pm (or0 em (if mi.length > 512 then 2 else 0))).2.1 (tkBt t pm (or0 em (if mi.length > 512 then 2 else 0))).2.2).2.2).2) := by
    simp only [tkClient, tkMi, Tk.chk, Tk.map, Tk.dep, Tk.rep, q1, q2, q3, q4, q5, q6, q7, q8, q9, qu, qf, qm]
  rw [eq] at hX hK
  clear eq q1 q2 q3 q4 q5 q6 q7 q8 q9 qu qf qm
  simp only at hX hK
  refine ⟨⟨_, _, _, h⟩, ?_⟩
  let k1 : Ms := { m9 with pid := u }
  let k2 : Ms := { m9 with pid := u, commit := f }
  let k3 : Ms := { m9 with pid := u, commit := f, ms := s, mi := mi }
  refine setM (m' := k1) h rfl rfl (by decide) (by kernel_rfl) fun w h => ⟨⟨_, _, _, h⟩, ?_⟩
  refine setM (m' := k2) h rfl rfl (by decide) (by kernel_rfl) fun w h => ⟨⟨_, _, _, h⟩, ?_⟩
  refine setM (m' := k3) h rfl rfl (by decide) (by kernel_rfl) fun w h => ⟨⟨_, _, _, h⟩, ?_⟩
  refine ⟨fun _ w' => mi.length ≤ 512 ∧ Sat W w' (RdrR br t pm em :: RwB b br :: VrB a0 b :: Blk a2 k3.cells T_api_Msg :: IsR s mi :: Blk a4 zMs.cells T_api_Msg :: l), ?_, ?_⟩
  · rintro _ w ⟨hle, h⟩
    rw [if_neg (by omega), or0_r] at hX hK
    refine ⟨fun w => ∃ p e l', Sat W w (RdrR br t p e :: RwB b br :: VrB a0 b :: l'), ⟨_, _, _, h.drew⟩, ?_⟩
    refine hPtr1 hS1 ?_
    refine hPtr1 hS1 ?_
    refine xbatch_ok ht h.drew hpm (fun hne => ((((hX ?_).cons).cons).cons).cons) fun d w hd h => tyI (k := .val) ?_
    · have e1 := erMany erBt t (tkBt t pm em).2.1 _ hne
      rw [e1]
      have e2 := erMany erAb t (tkBt t pm em).2.1 _ hne
      rw [e2]; exact hne
    have hpb := bdBt t pm em hpm
    rw [← hd] at hK
    generalize (tkBt t pm em).2 = c at h hX hK hpb
    obtain ⟨pb, eb⟩ := c
    simp only at h hX hK hpb
    have h : Sat W w (RdrR br t pb eb :: RwB b br :: VrB a0 b :: Blk a2 k3.cells T_api_Msg :: elDc.own d :: IsR s mi :: Blk a4 zMs.cells T_api_Msg :: l) := h.sel 7 [1, 2, 3, 4, 0, 5, 6]
    refine ⟨⟨_, _, _, h⟩, ?_⟩
    refine xbatches_ok ht h hpb (fun hne => (((((hX ?_).cons).cons).cons).cons).cons) fun s2 xs w hxs h => tyI ?_
    · have e2 := erMany erAb t (tkMany tkBt t pb eb).2.1 _ hne
      rw [e2]; exact hne
    have hpc := bdMany bdBt t pb eb hpb
    rw [← hxs] at hK
    generalize (tkMany tkBt t pb eb).2 = c at h hX hK hpc
    obtain ⟨pc, ec⟩ := c
    simp only at h hX hK hpc
    have h : Sat W w (RdrR br t pc ec :: RwB b br :: VrB a0 b :: Blk a2 k3.cells T_api_Msg :: OwnS elDc s2 xs :: elDc.own d :: IsR s mi :: Blk a4 zMs.cells T_api_Msg :: l) := h.sel 8 [1, 2, 3, 4, 0, 5, 6, 7]
    refine ⟨⟨_, _, _, h⟩, ?_⟩
    let k4 : Ms := { k3 with bt := d }
    let k5 : Ms := { k3 with bt := d, bs := s2, bl := xs }
    refine setMA (m' := k4) h rfl (Dc.ones _) (by show 36 + 9 ≤ 59; decide) (by kernel_rfl) fun w h => ⟨⟨_, _, _, h⟩, ?_⟩
    refine setM (m' := k5) h rfl rfl (by decide) (by kernel_rfl) fun w h => ⟨⟨_, _, _, h⟩, ?_⟩
    refine rPtr1 (h.up 2) ?_
    refine xabs_ok ht h hpc (fun hne => (((((((hX hne).cons).cons).cons).cons).cons).cons)) fun s3 ys w hys h => tyI ?_
    rw [← hys] at hK
    generalize (tkMany tkAb t pc ec).2 = c at h hX hK
    obtain ⟨pd, ed⟩ := c
    simp only at h hX hK
    have h : Sat W w (RdrR br t pd ed :: RwB b br :: VrB a0 b :: Blk a2 k5.cells T_api_Msg :: OwnS elAb s3 ys :: OwnS elDc s2 xs :: elDc.own d :: IsR s mi :: Blk a4 zMs.cells T_api_Msg :: l) := h.sel 9 [1, 2, 3, 4, 0, 5, 6, 7, 8]
    let k6 : Ms := { k5 with av := s3, al := ys }
    refine setM (m' := k6) h rfl rfl (by decide) (by kernel_rfl) fun w h => ?_
    have h6 := h.up 3
    refine ldAggB h6 (by kernel_rfl) ?_
    have h : Sat W w (Blk a4 zMs.cells T_api_Msg :: IsR s mi :: elDc.own d :: OwnS elDc s2 xs :: OwnS elAb s3 ys :: RdrR br t pd ed :: RwB b br :: l) := h.sel 9 [8, 7, 6, 5, 4, 0, 1]
    refine stAggB (cs := zMs.cells) (cs' := k6.cells) h rfl (Ms.ones _) (by kernel_rfl) fun w h => ?_
    refine ldAggB h (by kernel_rfl) ?_
    exact hK k6 w ⟨rfl, rfl, rfl, rfl, rfl, rfl, rfl, rfl, rfl, (by show (0 : Int) ≤ (u : Int); omega)⟩ (by show _ = Ms.cl k6; unfold Ms.cl; rfl) h.tail
  · have h7 := h.up 3
    refine ldB h7 (o := 0) (i := 55) (x := s) ?_
    refine ifB_dec (fun hc => ?_) fun hc => ⟨by omega, h⟩
    refine rPtr1 (h.up 2) ?_
    refine xfail_ok h hpm (fun _ => by decide) ((((hX ?_).cons).cons).cons |> fun g => g.cons)
    have hne : or0 em (if mi.length > 512 then 2 else 0) ≠ 0 := by
      rw [if_pos (by omega)]
      unfold or0
      split
      · decide
      · assumption
    have e0 := erBt t pm _ hne
    rw [e0]
    have e1 := erMany erBt t pm _ hne
    rw [e1]
    have e2 := erMany erAb t pm _ hne
    rw [e2]; exact hne
end
end Go.Proofs.Ytokogdigfohbeaa
