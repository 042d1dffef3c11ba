/- Layer 8: a batch is laid in the reference's log. -/
import Derived.Test.YtbpcichakchpkaaGreatDoorSY
namespace Go.Proofs.YtbpcichakchpkaaGreatDoor
open Go Go.Pk
/-- the reference's segments ahead of a batch -/
def Rl.pre (r : Rl) (ba : Int) : Rl := match r.bases.getLast? with
  | none => { r with bases := [0] }
  | some n => if r.bytes n ≥ 512 then ⟨r.list, r.bases ++ [ba], r.fin⟩ else r
theorem Rl.put_eq (r : Rl) (b : Bd) (hc : b.chk = 0) (hf : b.ba = r.fin) : r.put b = (⟨(r.pre b.ba).list ++ [b], (r.pre b.ba).bases, (r.pre b.ba).sync⟩, 0) := by
  unfold Rl.put Rl.pre
  rw [if_neg (by simp [hc]), if_neg (by simp [hf])]
  cases r.bases.getLast? with
  | none => rfl
  | some n => simp only; split <;> rfl
theorem Rl.pre_list (r : Rl) (ba : Int) : (r.pre ba).list = r.list := by
  unfold Rl.pre
  split
  · rfl
  · split <;> rfl
theorem Rl.pre_len (r : Rl) (ba : Int) : (r.pre ba).bases.length ≤ r.bases.length + 1 := by
  unfold Rl.pre
  split
  · simp
  · split <;> simp
section
variable {W w : World} {l : List Res} {K : Value → World → Prop} {a : Nat} {r : Rl} {ls bs : Sl} {ds : List Dc}
theorem rput_ok {d : Dc} (hds : ds.map Dc.bd = r.list) (h : Sat W w (RlL a r ls bs ds l)) (hnum : d.num) (hv : VRd W l d) (hb : RlB r) (hc : ∀ x ∈ r.list, x.chk = 0) (hlen : r.list.length ≤ 536870912) (hbl : r.bases.length ≤ 536870912)
    (hK : ∀ ls' bs' ds' w', ds'.map Dc.bd = (r.put d.bd).1.list → Sat W w' (RlL a (r.put d.bd).1 ls' bs' ds' l) → K (.int .i64 (r.put d.bd).2) w') :
    CallP P F_ref08_Log_Put [.pointer (some ⟨a, 0, none⟩), .agg d.cells.toArray] w K := by
  apply c_ref08_Log_Put
  unfold S_ref08_Log_Put
  refine boxB h fun a0 w1 h1 => ?_
  have h1 : Sat W w1 (Blk a0 d.cells T_api_Batch :: RlL a r ls bs ds l) := h1
  refine ldAggB h1 (by kernel_rfl) ?_
  have hv1 : VRd W (Blk a0 d.cells T_api_Batch :: RlL a r ls bs ds l) d := hv.cons.cons.cons.cons
  refine rcheck_ok h1 hv1 fun w4 h2 => tyI (k := .int .i64) ?_
  refine ifB_bne (fun c => ?_) fun hck => ?_
  · have e : r.put d.bd = (r, chk d) := by unfold Rl.put; rw [if_pos (show d.bd.chk ≠ 0 from c)]; rfl
    rw [e] at hK
    exact hK ls bs ds w4 hds h2.tail
  · have h3 := h2.drew
    let S : World → Prop := fun w => ∃ L, Sat W w (Blk a0 d.cells T_api_Batch :: L)
    refine ⟨S, ⟨_, h3⟩, ?_⟩
    refine hldX (S := S) (fun w hw => hw) 0 (x := d.ba) ?_
    have h4 : Sat W w4.drew (RlL a r ls bs ds (Blk a0 d.cells T_api_Batch :: l)) := h3.sel 4 [1, 2, 3, 0]
    refine rfin_ok hds h4 hb fun w9 h5 => tyI (k := .int .i64) ⟨⟨_, h5.up 3⟩, ?_⟩
    refine ifB_bne (fun c => ?_) fun c => ?_
    · have e : r.put d.bd = (r, 13) := by unfold Rl.put; rw [if_neg (fun h => h hck), if_pos (show d.bd.ba ≠ r.fin from c)]
      rw [e] at hK
      exact hK ls bs ds w9 hds (h5.cut 3)
    · have ep := r.put_eq d.bd hck c
      rw [ep] at hK
      have hpl := Rl.pre_list r d.bd.ba
      have hol := own_len (h5.up 1) (by decide : 0 < 9)
      have hdl : ds.length = r.list.length := by rw [← hds]; simp
      generalize hr1 : r.pre d.bd.ba = r1 at *
      refine ⟨fun _ w' => ∃ bs1, Sat W w' (RlL a r1 ls bs1 ds (Blk a0 d.cells T_api_Batch :: l)), ?_, ?_⟩
      · rintro _ w13 ⟨bs1, h6⟩
        have h7 := h6.drew
        have h8 : Sat W w13.drew (Blk a0 d.cells T_api_Batch :: RlL a r1 ls bs1 ds l) := h7.sel 4 [3, 0, 1, 2]
        have hv2 : VRd W (Blk a0 d.cells T_api_Batch :: RlL a r1 ls bs1 ds l) d := hv.cons.cons.cons.cons
        have hsm : d.bs.length ≤ 16 ∧ ∀ v ∈ d.bs, v.length ≤ 64 := Bd.small (x := d.bd) hck
        let r2 : Rl := ⟨r1.list ++ [d.bd], r1.bases, r1.sync⟩
        have lay : ∀ {gb : Nat} {vs : Sl} {ss : List Sl} {w64 : World}, ss.length = d.bs.length → Sat W w64 (Blk gb (Dc.cells { d with vs := vs, ss := ss }) T_api_Batch :: VsR vs ss d.bs :: Blk a0 d.cells T_api_Batch :: RlL a r1 ls bs1 ds l) →
            RunK .sl P (Builtin.append_ #[T_sl_api_Batch, T_sl_api_Batch] T_sl_api_Batch #[ls.v, Sl.v ⟨some ⟨gb, 0, none⟩, 1, 1⟩]) w64 fun (s65 : Sl) w66 =>
                (S w66) ∧ StoreP P T_sl_api_Batch (.pointer (some ((⟨a, 0, none⟩ : Addr).add 0))) s65.v w66 fun w68 =>
                (S w68) ∧ K (.int .i64 0) w68 := by
          intro gb vs ss w64 hss h9
          let d' : Dc := { d with vs := vs, ss := ss }
          have h10 : Sat W w64 (VsR vs ss d.bs :: Blk gb (elB.cells d') T_api_Batch :: OwnS elB ls ds :: Blk a (rlcells r1 ls bs1) T_penstockref08_Log :: IsR bs1 r1.bases :: Blk a0 d.cells T_api_Batch :: l) := h9.sel 6 [1, 0, 4, 3, 5, 2]
          have h11 : Sat W w64 (elB.own d' :: Blk gb (elB.cells d') T_api_Batch :: OwnS elB ls ds :: Blk a (rlcells r1 ls bs1) T_penstockref08_Log :: IsR bs1 r1.bases :: Blk a0 d.cells T_api_Batch :: l) := sat_all.2 (sat_pure.2 ⟨⟨hss, hnum⟩, h10⟩)
          refine own_push (E := elB) et_batches rfl rfl (by decide) h11.swap (by omega) (by omega) fun s65 w66 h12 => ⟨⟨_, h12.up 3⟩, ?_⟩
          have h13 : Sat W w66 (Blk a (rlcells r1 ls bs1) T_penstockref08_Log :: OwnS elB s65 (ds ++ [d']) :: IsR bs1 r1.bases :: Blk a0 d.cells T_api_Batch :: l) := h12.swap
          refine stX h13 0 (v := s65.v) (hi := (by show 0 < 3; decide)) fun w68 h14 => ⟨⟨_, h14.up 3⟩, ?_⟩
          have h15 : Sat W w68 (RlL a r2 s65 bs1 (ds ++ [d']) (Blk a0 d.cells T_api_Batch :: l)) := h14
          refine hK s65 bs1 (ds ++ [d']) w68 ?_ (h15.cut 3)
          show (ds ++ [d']).map Dc.bd = r1.list ++ [d.bd]
          rw [List.map_append, hds, hpl]; rfl
        refine ⟨S, ⟨_, h8⟩, ?_⟩
        refine hldAggB (S := S) (cs := d.cells) (fun w hw => hw) (by kernel_rfl) ?_
        refine ⟨?_, ?_, trivial⟩
        · refine ldX (h8.up 1) 0 (x := ls) ⟨⟨_, h8⟩, ?_⟩
          refine copy_ok h8 hv2 (by omega) (fun v hv => by have := hsm.2 v hv; omega) fun vs ss w61 hss h9 => tyI (k := .val) ⟨⟨_, h9.up 1⟩, ?_⟩
          refine bsB h9 (cs := Dc.cells { d with vs := vs, ss := ss }) (e := T_api_Batch) (fun w => by kernel_rfl) fun gb w64 h10 => ⟨⟨_, h10.up 2⟩, ?_⟩
          exact lay hss h10
        · refine copy_ok h8 hv2 (by omega) (fun v hv => by have := hsm.2 v hv; omega) fun vs ss w61 hss h9 => tyI (k := .val) ⟨⟨_, h9.up 1⟩, ?_⟩
          refine ⟨?_, ?_, trivial⟩
          · refine ldX (h9.up 2) 0 (x := ls) ⟨⟨_, h9.up 1⟩, ?_⟩
            refine bsB h9 (cs := Dc.cells { d with vs := vs, ss := ss }) (e := T_api_Batch) (fun w => by kernel_rfl) fun gb w64 h10 => ⟨⟨_, h10.up 2⟩, ?_⟩
            exact lay hss h10
          · refine bsB h9 (cs := Dc.cells { d with vs := vs, ss := ss }) (e := T_api_Batch) (fun w => by kernel_rfl) fun gb w64 h10 => ⟨⟨_, h10.up 2⟩, ?_⟩
            refine ldX (h10.up 3) 0 (x := ls) ⟨⟨_, h10.up 2⟩, ?_⟩
            exact lay hss h10
      · have hil := Sat.isLen (h5.up 2)
        refine ldX h5 1 (x := bs) ?_
        refine ifB_beq (fun c2 => ?_) fun c2 => ?_
        · have hn : r.bases = [] := List.length_eq_zero_iff.1 (by omega)
          have e1 : r1 = { r with bases := [0] } := by rw [← hr1]; unfold Rl.pre; rw [hn]; rfl
          refine ldX h5 1 (x := bs) ?_
          have h6 : Sat W w9 (IsR bs r.bases :: Blk a (rlcells r ls bs) T_penstockref08_Log :: OwnS elB ls ds :: Blk a0 d.cells T_api_Batch :: l) := h5.up 2
          refine app1 et_isl h6 rfl (by omega) (by omega) fun s20 w21 h7 _ => ?_
          have h8 : Sat W w21 (Blk a (rlcells r ls bs) T_penstockref08_Log :: OwnS elB ls ds :: IsR s20 [0] :: Blk a0 d.cells T_api_Batch :: l) := by
            have e : r.bases.map vI ++ [Value.int .i64 0] = [0].map vI := by rw [hn]; rfl
            rw [e] at h7
            exact h7.sel 3 [1, 2, 0]
          refine stX h8 1 (v := s20.v) (hi := (by show 1 < 3; decide)) fun w23 h9 => ?_
          rw [e1]
          exact ⟨s20, h9⟩
        · have hlt : r.bases.length - 1 < r.bases.length := by omega
          have hx : r.bases[r.bases.length - 1]? = some r.bases[r.bases.length - 1] := List.getElem?_eq_getElem hlt
          have hlast : r.bases.getLast? = some r.bases[r.bases.length - 1] := by rw [List.getLast?_eq_getElem?]; exact hx
          generalize r.bases[r.bases.length - 1] = n at hx hlast
          have h6 := h5.drew
          let S2 : World → Prop := fun w => ∃ L, Sat W w (RlL a r ls bs ds L)
          have hS2 : ∀ w, S2 w → ∃ L, Sat W w (Blk a (rlcells r ls bs) T_penstockref08_Log :: L) := fun w hw => by obtain ⟨L, hw⟩ := hw; exact ⟨_, hw⟩
          refine ⟨S2, ⟨_, h6⟩, ?_⟩
          refine hldX hS2 1 (x := bs) ?_
          refine hldX hS2 1 (x := bs) ?_
          rw [w_i64 (n := (bs.len : Int) - 1) (by omega) (by omega)]
          have ei : (bs.len : Int) - 1 = ((r.bases.length - 1 : Nat) : Int) := by omega
          rw [ei]
          obtain ⟨ad, had⟩ := some_of_lt ((h6.up 2).rdc) (n := r.bases.length - 1) (by omega)
          refine ⟨ad.add ((((r.bases.length - 1 : Nat) : Int)).toNat * 1), fun w _ => run_ix et_isl had (by omega) (by omega) w, ?_⟩
          refine ⟨n, fun w hw => run_load1 (by kernel_rfl) ?_, ?_⟩
          · obtain ⟨L, hw⟩ := hw
            have hrd := (Sat.up (L := RlL a r ls bs ds L) hw 2).rdc
            have := hrd.2.2.2 ad had (r.bases.length - 1) (vI n) (by rw [List.getElem?_map, hx]; rfl)
            simp only [Nat.mul_one, Nat.add_zero, Int.toNat_natCast] at this ⊢
            exact this
          · refine rbytes_ok (n := n) hds h6 hc (by omega) fun w32 h7 => tyI (k := .int .i64) ⟨⟨_, h7⟩, ?_⟩
            refine ifB_dec (fun c3 => ?_) fun c3 => ?_
            · have e1 : r1 = ⟨r.list, r.bases ++ [d.bd.ba], r.fin⟩ := by rw [← hr1]; unfold Rl.pre; rw [hlast]; exact if_pos c3
              refine rfin_ok hds h7 hb fun w35 h8 => tyI (k := .int .i64) ?_
              refine stX h8 2 (v := .int .i64 r.fin) (hi := (by show 2 < 3; decide)) fun w38 h9 => ?_
              let r3 : Rl := { r with sync := r.fin }
              have h9 : Sat W w38 (RlL a r3 ls bs ds (Blk a0 d.cells T_api_Batch :: l)) := h9
              have h10 := h9.drew
              have hv3 : ∀ w, (∃ L, Sat W w (Blk a0 d.cells T_api_Batch :: L)) → ∃ L, Sat W w (Blk a0 d.cells T_api_Batch :: L) := fun w h => h
              refine ⟨S, ⟨_, h10.up 3⟩, ?_⟩
              refine hldX (S := S) (fun w hw => hw) 0 (x := d.ba) ?_
              have fin : ∀ {gb : Nat} {w44 : World}, Sat W w44 (Blk gb [.int .i64 d.ba] T_int :: RlL a r3 ls bs ds (Blk a0 d.cells T_api_Batch :: l)) →
                  RunK .sl P (Builtin.append_ #[T_sl_int, T_sl_int] T_sl_int #[bs.v, Sl.v ⟨some ⟨gb, 0, none⟩, 1, 1⟩]) w44 fun (s45 : Sl) w46 =>
                (S w46) ∧ StoreP P T_sl_int (.pointer (some ((⟨a, 0, none⟩ : Addr).add 1))) s45.v w46 fun w48 =>
                (S w48) ∧ ∃ bs1, Sat W w48 (RlL a r1 ls bs1 ds (Blk a0 d.cells T_api_Batch :: l)) := by
                intro gb w44 h11
                refine appB et_isl (by decide) (s := bs) (x := ⟨some ⟨gb, 0, none⟩, 1, 1⟩) (news := [.int .i64 d.ba]) (h11.up 3) (rdBlk ((h11.up 3).up 1) rfl) (by simp [Value.oneCell']) (by simp; omega) (by simp; omega) fun s45 w46 h12 _ => ?_
                have e : r3.bases.map vI ++ [Value.int .i64 d.ba] = (r.bases ++ [d.bd.ba]).map vI := by rw [List.map_append]; rfl
                rw [e] at h12
                have h13 : Sat W w46 (Blk a (rlcells r3 ls bs) T_penstockref08_Log :: OwnS elB ls ds :: IsR s45 (r.bases ++ [d.bd.ba]) :: Blk a0 d.cells T_api_Batch :: l) := h12.sel 5 [2, 3, 0, 4]
                refine ⟨⟨_, h13.up 3⟩, ?_⟩
                refine stX h13 1 (v := s45.v) (hi := (by show 1 < 3; decide)) fun w48 h14 => ⟨⟨_, h14.up 3⟩, ?_⟩
                rw [e1]
                exact ⟨s45, h14⟩
              refine ⟨?_, ?_, trivial⟩
              · refine ldX h10 1 (x := bs) ⟨⟨_, h10.up 3⟩, ?_⟩
                refine bsB h10 (cs := [.int .i64 d.ba]) (e := T_int) (fun w => by kernel_rfl) fun gb w44 h11 => ⟨⟨_, h11.up 4⟩, ?_⟩
                exact fin h11
              · refine bsB h10 (cs := [.int .i64 d.ba]) (e := T_int) (fun w => by kernel_rfl) fun gb w44 h11 => ⟨⟨_, h11.up 4⟩, ?_⟩
                refine ldX (h11.up 1) 1 (x := bs) ⟨⟨_, h11.up 4⟩, ?_⟩
                exact fin h11
            · have e1 : r1 = r := by rw [← hr1]; unfold Rl.pre; rw [hlast]; exact if_neg c3
              rw [e1]
              exact ⟨bs, h7⟩
end
end Go.Proofs.YtbpcichakchpkaaGreatDoor
