/- Layer 17: the reference's writing of a message. -/
import Derived.Test.YtokogdigfohbeaaWG
namespace Go.Proofs.Ytokogdigfohbeaa
open Go Go.Pk
section
variable {W w : World} {l L : List Res} {K : Value → World → Prop} {a : Nat} {s : Ly} {m : Ms}
set_option maxHeartbeats 1000000 in
theorem rencode17_ok (h : Sat W w l) (hn : m.num) (hv : MRd W l m) (hw : m.w ≤ 2 ^ 44)
    (hK : ∀ t w', Sat W w' (BsR t (mB m) :: l) → K (.tuple #[t.v, .int .i64 (mE m)]) w') : CallP P F_ref17_DocEncode [.agg m.cells.toArray] w K := by
  apply c_ref17_DocEncode
  unfold S_ref17_DocEncode
  have hmw : m.w = 1000 + 20 * m.rf.wt + 2010 * m.fd.bl.length + 10 * m.mi.length + 2010 * m.bl.length + 30 * m.al.length := rfl
  refine boxB h fun g w1 h1 => ?_
  have hA : Sat W w1 (Blk g m.cells T_api_Msg :: l) := h1
  have bad : (m.kind < 1 ∨ m.kind > 15) → ∀ w', Sat W w' (Blk g m.cells T_api_Msg :: l) → K (.tuple #[.slice none 0 0, .int .i64 1]) w' := fun hb w' h' => by
    have e1 : mE m = 1 := by unfold mE; rw [if_pos hb]
    have := hK ⟨none, 0, 0⟩ w' (by rw [mB_0 (by rw [e1]; decide)]; exact Sat.nilSlr h'.tail T_uint8 1)
    rwa [e1] at this
  refine ⟨fun _ w' => ¬ (m.kind < 1 ∨ m.kind > 15) ∧ Sat W w' (Blk g m.cells T_api_Msg :: l), ?_, ?_⟩
  · rintro _ w2 ⟨hk, h2⟩
    refine boxB h2 fun a w3 h3 => ?_
    have h3' : Sat W w3 (LdR a ly0 :: Blk g m.cells T_api_Msg :: l) := sat_ld.2 ⟨⟨none, 0, 0⟩, .inl rfl, (Sat.nilSlr h3 T_uint8 1).swap⟩
    refine ldB (h3'.up 1) (o := 0) (i := 0) (x := m.kind) ?_
    refine ldB (h3'.up 1) (o := 0) (i := 1) (x := m.frm) ?_
    refine ldB (h3'.up 1) (o := 0) (i := 2) (x := m.to) ?_
    refine ldB (h3'.up 1) (o := 0) (i := 3) (x := m.corr) ?_
    refine ldB (h3'.up 1) (o := 0) (i := 4) (x := m.er) ?_
    refine bsB h3' (cs := m.hd.map vI) (e := T_int) (fun w => by kernel_rfl) fun g2 w5 h5 => ?_
    refine lints_ok (n := m.hd) (h5.up 1) (Rd.blk rfl) hn.hd (by have : m.hd.length = 5 := rfl; simp only [ly0, List.length_nil]; omega) fun w6 h6 => tupU rfl ?_
    have h6' : Sat W w6 (LdR a (lyO (m.hd.flatMap intB)) :: Blk g m.cells T_api_Msg :: l) := by
      have := h6.cut 1
      rwa [Ly.zero_add] at this
    have hl5 := ints_len hn.hd
    have h5' : m.hd.length = 5 := rfl
    have hs0 : (lyO (m.hd.flatMap intB)).o.length ≤ 50 := by simp only [lyO]; omega
    generalize hs : lyO (m.hd.flatMap intB) = s at h6' hs0
    have hM : lyM m = s.add (lyRest m) := by rw [← hs]; rfl
    clear hs h6 h5 h3' h3 h2 hA h1
    refine ⟨fun _ w' => Sat W w' (LdR a (lyM m) :: l), ?_, ?_⟩
    · rintro _ w7 h7
      have eE : mE m = or0 (lyM m).e (lyM m).l := by unfold mE; rw [if_neg hk]
      obtain ⟨sl, _, h8⟩ := sat_ld.1 h7
      refine ldB h8 (o := 0) (i := 1) (x := (lyM m).e) ?_
      refine ifB_bne (fun hne => ?_) fun he => ?_
      · refine ldB h8.drew (o := 0) (i := 1) (x := (lyM m).e) ?_
        have e1 : mE m = (lyM m).e := by rw [eE, or0_l hne]
        have := hK ⟨none, 0, 0⟩ w7.drew (by rw [mB_0 (by rw [e1]; exact hne)]; exact Sat.nilSlr h7.drew.tail T_uint8 1)
        rwa [e1] at this
      · have e1 : mE m = (lyM m).l := by rw [eE]; have he' : (lyM m).e = 0 := he; rw [he', or0_0]
        refine ldB h8 (o := 0) (i := 2) (x := (lyM m).l) ?_
        refine ifB_bne (fun hne => ?_) fun he2 => ?_
        · refine ldB h8.drew (o := 0) (i := 2) (x := (lyM m).l) ?_
          have := hK ⟨none, 0, 0⟩ w7.drew (by rw [mB_0 (by rw [e1]; exact hne)]; exact Sat.nilSlr h7.drew.tail T_uint8 1)
          rwa [e1] at this
        · refine ldB h8 (o := 0) (i := 0) (x := sl) ?_
          have e2 : mE m = 0 := e1.trans he2
          have := hK sl w7 (by rw [mB_1 e2]; exact h8.tail)
          rwa [e2] at this
    · rw [hM]
      have hG := h6'.up 1
      refine ldB hG (o := 0) (i := 0) (x := m.kind) ?_
      refine ifB_beq (fun k1 => ?_) fun k1 => ?_
      · have hr : lyRest m = lyRf m.rf := by unfold lyRest; rw [if_pos k1]
        rw [hr]
        have hrw : m.rf.wt = wsum (fun y : En17 => y.d.length + 1) m.rf.el + m.rf.snap.length := rfl
        have hel : m.rf.el.length ≤ wsum (fun y : En17 => y.d.length + 1) m.rf.el := wsum_len (fun x => by omega) _
        have hl7 := ints_len (l := m.rf.ns) hn.rf.1
        have h7 : m.rf.ns.length = 7 := rfl
        have h10 := uintB_len10 m.rf.el.length (by omega)
        have hfl := flagB_len m.rf.rej
        refine ldAggX 5 10 hG (hl := (by show 5 + 10 ≤ 59; decide)) ?_
        refine newAgg (z := [.int .i64 0, .int .i64 0, .int .i64 0, .int .i64 0, .int .i64 0, .int .i64 0, .int .i64 0, .bool false, .slice none 0 0, .slice none 0 0]) (cs := m.rf.cells) h6' (Rm.ones _) fun g1 w2 h2 => ?_
        have h2' : Sat W w2 (Blk g1 m.rf.cells T_api_RMsg :: LdR a s :: l) := h2.cut 2
        refine ldB h2' (o := 0) (i := 0) (x := m.rf.kind) ?_
        refine ldB h2' (o := 0) (i := 1) (x := m.rf.frm) ?_
        refine ldB h2' (o := 0) (i := 2) (x := m.rf.to) ?_
        refine ldB h2' (o := 0) (i := 3) (x := m.rf.term) ?_
        refine ldB h2' (o := 0) (i := 4) (x := m.rf.index) ?_
        refine ldB h2' (o := 0) (i := 5) (x := m.rf.lterm) ?_
        refine ldB h2' (o := 0) (i := 6) (x := m.rf.commit) ?_
        refine bsB h2' (cs := m.rf.ns.map vI) (e := T_int) (fun w => by kernel_rfl) fun g2 w3 h3 => ?_
        refine lints_ok (n := m.rf.ns) (h3.up 2) (Rd.blk rfl) hn.rf.1 (by omega) fun w4 h4 => tupU rfl ?_
        have h4' : Sat W w4 (LdR a (s.add (lyO (m.rf.ns.flatMap intB))) :: Blk g1 m.rf.cells T_api_RMsg :: l) := h4.cut 1
        refine ⟨fun _ w' => Sat W w' (LdR a ((s.add (lyO (m.rf.ns.flatMap intB))).add (lyO (flagB m.rf.rej))) :: Blk g1 m.rf.cells T_api_RMsg :: l), ?_, ?_⟩
        · rintro _ w5 h5
          have hxl : m.rf.es.len = m.rf.el.length := RdC.elen (E := elEn) (hv.rf.es w5 h5.tail.tail) (by decide)
          have hB := h5.up 1
          refine ldB hB (o := 0) (i := 8) (x := m.rf.es) ?_
          rw [hxl]
          refine lcount_ok h5 (by omega) (by simp only [Ly.add, lyO, List.length_append]; omega) fun w6 h6 => tupU rfl ?_
          refine ⟨fun t w' => ∃ k : Nat, t.1 = k ∧ k ≤ m.rf.el.length ∧ Sat W w' (LdR a ((((s.add (lyO (m.rf.ns.flatMap intB))).add (lyO (flagB m.rf.rej))).add (lyN m.rf.el.length)).add (lyL lyEn (m.rf.el.take k))) :: Blk g1 m.rf.cells T_api_RMsg :: l), fun t _ => m.rf.el.length - t.1.toNat, ⟨0, rfl, by omega, by simp only [List.take_zero, lyL]; rw [Ly.add_0]; exact h6⟩, ?_⟩
          rintro ⟨i, u⟩ w7 ⟨k, hk, hkn, h7'⟩
          simp only at hk ⊢
          subst hk
          have hlk := lyEs_take hn.rf.2 k
          have hC := h7'.up 1
          refine ldB hC (o := 0) (i := 8) (x := m.rf.es) ?_
          rw [hxl]
          refine ifB_dec (fun hc => ?_) fun hc => ?_
          · have hlt : k < m.rf.el.length := by omega
            have hm : m.rf.el[k] ∈ m.rf.el := List.getElem_mem hlt
            have hik := intB_len (hn.rf.2 _ hm)
            have hek : wsum (fun y : En17 => y.d.length + 1) (m.rf.el.take k) + (m.rf.el[k].d.length + 1) ≤ wsum (fun y : En17 => y.d.length + 1) m.rf.el := by
              have h1 := wsum_take (fun y : En17 => y.d.length + 1) m.rf.el (k + 1)
              rw [List.take_succ_eq_append_getElem hlt] at h1
              have : ∀ (a : List En17) (x : En17), wsum (fun y : En17 => y.d.length + 1) (a ++ [x]) = wsum (fun y : En17 => y.d.length + 1) a + (x.d.length + 1) := by
                intro a x
                induction a with
                | nil => simp [wsum]
                | cons y a ih => simp only [List.cons_append, wsum, ih]; omega
              rw [this] at h1
              exact h1
            have hlk2 := lyL_len (f := lyEn) (g := fun y => y.d.length + 1) (c := 20) (l := m.rf.el.take k) fun x hx => lyEn_len (hn.rf.2 x (List.mem_of_mem_take hx))
            refine ldB hC (o := 0) (i := 8) (x := m.rf.es) ?_
            refine ixEl (E := elEn) (xs := m.rf.el) et_ents rfl (hv.rf.es w7 h7'.tail.tail) (x := m.rf.el[k]) (by omega) (by simp [hlt]) (by simp; omega) fun ad ha => ?_
            refine ldC (x := m.rf.el[k].t) (ha 0 _ rfl) ?_
            refine bsB h7' (cs := [m.rf.el[k].t].map vI) (e := T_int) (fun w => by kernel_rfl) fun g3 w8 h8 => ?_
            refine lints_ok (n := [m.rf.el[k].t]) (h8.up 1) (Rd.blk rfl) (by simpa using hn.rf.2 _ hm) (by simp only [Ly.add, lyO, lyN, List.length_append, List.length_cons, List.length_nil]; omega) fun w9 h9 => tupU rfl ?_
            have h9' := h9.cut 1
            have hD := h9'.up 1
            refine ldB hD (o := 0) (i := 8) (x := m.rf.es) ?_
            refine ixEl (E := elEn) (xs := m.rf.el) et_ents rfl (hv.rf.es w9 h9'.tail.tail) (x := m.rf.el[k]) (by omega) (by simp [hlt]) (by simp; omega) fun ad2 ha2 => ?_
            refine ldC (x := m.rf.el[k].s) (ha2 1 _ rfl) ?_
            refine lbytes_ok h9' (hv.rf.en _ hm).cons (by simp only [Ly.add, lyO, lyN, List.length_append, List.flatMap_cons, List.flatMap_nil, List.length_nil]; omega) fun w10 h11 => tupU rfl ?_
            rw [w_i64 (by omega) (by omega)]
            refine ⟨⟨k + 1, rfl, by omega, ?_⟩, by omega⟩
            rw [Ly.add_assoc, Ly.add_assoc] at h11
            rw [lyL_snoc lyEn hlt]
            simp only [List.flatMap_cons, List.flatMap_nil, List.append_nil] at h11
            exact h11
          · have : k = m.rf.el.length := by omega
            subst this
            rw [List.take_length] at h7' hC hlk
            refine ldB hC (o := 0) (i := 9) (x := m.rf.ss) ?_
            refine lbytes_ok h7' hv.rf.sn.cons (by simp only [Ly.add, lyO, lyN, List.length_append]; omega) fun w8 h8 => tupU rfl ?_
            simp only [Ly.add_assoc] at h8
            exact h8.cut 1
        · refine ⟨fun w => Sat W w (Blk g1 m.rf.cells T_api_RMsg :: l), h4'.drew.tail, ?_⟩
          refine hldB (W := W) (fun w hw => ⟨_, hw⟩) (o := 0) (i := 7) (x := m.rf.rej) ?_
          exact apd (F := F_ref03_Flag) (args := [.bool m.rf.rej]) (n := flagB m.rf.rej) (S := fun w => Sat W w (Blk g1 m.rf.cells T_api_RMsg :: l)) h4'.drew (by simp only [Ly.add, lyO, List.length_append]; omega) (fun w h => h) (fun R1 R2 w0 K h0 hK => rFlag_ok h0 hK) fun w3 h3 => h3
      refine ifB_beq (fun k2 => ?_) fun k2 => ?_
      · have hr : lyRest m = lyO (m.fq.ns.flatMap intB) := by unfold lyRest; rw [if_neg k1, if_pos k2]
        rw [hr]
        refine ldX hG 15 (x := m.fq.part) ?_
        refine ldX hG 16 (x := m.fq.epoch) ?_
        refine ldX hG 17 (x := m.fq.node) ?_
        refine ldX hG 18 (x := m.fq.offset) ?_
        refine ldX hG 19 (x := m.fq.le) ?_
        refine bsB h6' (cs := m.fq.ns.map vI) (e := T_int) (fun w => by kernel_rfl) fun g2 w2 h2 => ?_
        refine lints_ok (n := m.fq.ns) (h2.up 1) (Rd.blk rfl) hn.fq (by have : m.fq.ns.length = 5 := rfl; omega) fun w3 h3 => tupU rfl ?_
        exact (h3.cut 1).cut 1
      refine ifB_beq (fun k3 => ?_) fun k3 => ?_
      · have hr : lyRest m = lyFd m.fd := by unfold lyRest; rw [if_neg k1, if_neg k2, if_pos k3]
        rw [hr]
        have hl8 := ints_len (l := m.fd.ns) hn.fd.1
        have h8 : m.fd.ns.length = 8 := rfl
        have hlf := flagB_len m.fd.div
        refine ldAggX 20 10 hG (hl := (by show 20 + 10 ≤ 59; decide)) ?_
        refine newAgg (z := [.int .i64 0, .int .i64 0, .int .i64 0, .int .i64 0, .bool false, .int .i64 0, .int .i64 0, .int .i64 0, .int .i64 0, .slice none 0 0]) (cs := m.fd.cells) h6' (Fd.ones _) fun g1 w2 h2 => ?_
        have h2' : Sat W w2 (Blk g1 m.fd.cells T_api_FetchReply :: LdR a s :: l) := h2.cut 2
        refine ldB h2' (o := 0) (i := 0) (x := m.fd.part) ?_
        refine ldB h2' (o := 0) (i := 1) (x := m.fd.epoch) ?_
        refine ldB h2' (o := 0) (i := 2) (x := m.fd.e) ?_
        refine ldB h2' (o := 0) (i := 3) (x := m.fd.high) ?_
        refine ldB h2' (o := 0) (i := 5) (x := m.fd.ee) ?_
        refine ldB h2' (o := 0) (i := 6) (x := m.fd.en) ?_
        refine ldB h2' (o := 0) (i := 7) (x := m.fd.offset) ?_
        refine ldB h2' (o := 0) (i := 8) (x := m.fd.le) ?_
        refine bsB h2' (cs := m.fd.ns.map vI) (e := T_int) (fun w => by kernel_rfl) fun g2 w3 h3 => ?_
        refine lints_ok (n := m.fd.ns) (h3.up 2) (Rd.blk rfl) hn.fd.1 (by omega) fun w4 h4 => tupU rfl ?_
        have h4' : Sat W w4 (LdR a (s.add (lyO (m.fd.ns.flatMap intB))) :: Blk g1 m.fd.cells T_api_FetchReply :: l) := h4.cut 1
        refine ⟨fun _ w' => Sat W w' (LdR a ((s.add (lyO (m.fd.ns.flatMap intB))).add (lyO (flagB m.fd.div))) :: Blk g1 m.fd.cells T_api_FetchReply :: l), ?_, ?_⟩
        · rintro _ w5 h5
          have hB := h5.up 1
          refine ldB hB (o := 0) (i := 9) (x := m.fd.bs) ?_
          refine lbatches_ok h5 hn.fd.2 hv.fd.cons (by simp only [Ly.add, lyO, List.length_append]; omega) fun w6 h6 => tupU rfl ?_
          simp only [Ly.add_assoc] at h6
          exact h6.cut 1
        · refine ⟨fun w => Sat W w (Blk g1 m.fd.cells T_api_FetchReply :: l), h4'.drew.tail, ?_⟩
          refine hldB (W := W) (fun w hw => ⟨_, hw⟩) (o := 0) (i := 4) (x := m.fd.div) ?_
          exact apd (F := F_ref03_Flag) (args := [.bool m.fd.div]) (n := flagB m.fd.div) (S := fun w => Sat W w (Blk g1 m.fd.cells T_api_FetchReply :: l)) h4'.drew (by simp only [Ly.add, lyO, List.length_append]; omega) (fun w h => h) (fun R1 R2 w0 K h0 hK => rFlag_ok h0 hK) fun w3 h3 => h3
      refine ifB_beq (fun k4 => ?_) fun k4 => ?_
      · have hr : lyRest m = lyC m.cd := by unfold lyRest; rw [if_neg k1, if_neg k2, if_neg k3, if_pos k4]
        rw [hr]
        refine ldAggX 30 6 hG (hl := (by show 30 + 6 ≤ 59; decide)) ?_
        refine rimage_ok (c := m.cd) h6' hn.cd hv.cd.cons.cons fun t w2 h2 => tup2 ?_
        have h2' : Sat W w2 (LdR a s :: BsR t (if cdE m.cd = 0 then encCd m.cd.d else []) :: l) := (h2.cut 2).swap
        have hll : (if cdE m.cd = 0 then encCd m.cd.d else []).length ≤ 200 := by
          split
          · rename_i he
            have h5 := cdDE0 (x := m.cd.d) he
            exact encCd_len (cd_ok hn.cd (by have h6 : m.cd.li.length ≤ 5 := h5.1; omega)) h5.1
          · simp
        have e0 : ∀ (a : Int) (x : List UInt8), x.length ≤ 200 → (lyE a).add (lyB x) = ⟨bytesB x, a, 0⟩ := fun a x hx => by
          simp only [Ly.add, lyE, lyB, List.nil_append, or0_r, or0_0]
          rw [if_neg (by omega)]
        have e : (lyE (cdE m.cd)).add (lyB (if cdE m.cd = 0 then encCd m.cd.d else [])) = lyC m.cd := e0 _ _ hll
        refine ifB_bne (fun hne => ?_) fun he => ?_
        · refine lfail_ok h2' fun w3 h3 => tupU rfl ?_
          refine lbytes_ok h3 Rd.own (by simp only [Ly.add, lyE, List.append_nil]; omega) fun w4 h4 => tupU rfl ?_
          rw [Ly.add_assoc, e] at h4
          exact h4.cut 1
        · refine lbytes_ok h2' Rd.own (by omega) fun w4 h4 => tupU rfl ?_
          have he' : cdE m.cd = 0 := he
          have e1 : lyB (if cdE m.cd = 0 then encCd m.cd.d else []) = lyC m.cd := by
            rw [← e, he', show lyE 0 = ly0 from rfl, Ly.zero_add]
          rw [e1] at h4
          exact h4.cut 1
      · have hr : lyRest m = lyCl m := by unfold lyRest; rw [if_neg k1, if_neg k2, if_neg k3, if_neg k4]
        rw [hr]
        refine ldB hG (o := 0) (i := 45) (x := m.part) ?_
        refine ldB hG (o := 0) (i := 46) (x := m.offset) ?_
        refine ldB hG (o := 0) (i := 47) (x := m.tx) ?_
        refine ldB hG (o := 0) (i := 48) (x := m.inc) ?_
        refine ldB hG (o := 0) (i := 50) (x := m.epoch) ?_
        refine ldB hG (o := 0) (i := 52) (x := m.group) ?_
        refine ldB hG (o := 0) (i := 53) (x := m.gen) ?_
        refine ldB hG (o := 0) (i := 54) (x := m.member) ?_
        refine ldB hG (o := 0) (i := 58) (x := m.high) ?_
        have hl9 := ints_len (l := m.ns) hn.ns
        have h9 : m.ns.length = 9 := rfl
        have hlp := uintB_len10 m.pid.toNat (by have := hn.pid; omega)
        have hlf := flagB_len m.commit
        have hlm := uintB_len10 m.mi.length (by omega)
        have hlm2 := ints_len hn.mi
        have hlD := lyD_len hn.bt
        have hlb := lyDs_len hn.bl (by omega)
        have hla := uintB_len10 m.al.length (by omega)
        have hli : (intsB m.mi).length ≤ 10 + 10 * m.mi.length := by simp only [intsB, List.length_append]; omega
        refine bsB hG (cs := m.ns.map vI) (e := T_int) (fun w => by kernel_rfl) fun g2 w2 h2 => ?_
        refine lints_ok (n := m.ns) (h2.up 2) (Rd.blk rfl) hn.ns (by omega) fun w3 h3 => tupU rfl ?_
        have h3' : Sat W w3 (LdR a (s.add (lyO (m.ns.flatMap intB))) :: Blk g m.cells T_api_Msg :: l) := h3.cut 1
        refine ⟨fun _ w' => Sat W w' (LdR a ((s.add (lyO (m.ns.flatMap intB))).add (lyO (uintB m.pid.toNat))) :: Blk g m.cells T_api_Msg :: l), ?_, ?_⟩
        · rintro _ w4 h4
          refine ⟨fun _ w' => Sat W w' (LdR a (((s.add (lyO (m.ns.flatMap intB))).add (lyO (uintB m.pid.toNat))).add (lyO (flagB m.commit))) :: Blk g m.cells T_api_Msg :: l), ?_, ?_⟩
          · rintro _ w5 h5
            have hml := ((hv.mi _ h5.tail.tail).1)
            simp at hml
            refine ⟨fun _ w' => Sat W w' (LdR a ((((s.add (lyO (m.ns.flatMap intB))).add (lyO (uintB m.pid.toNat))).add (lyO (flagB m.commit))).add (lyE (if m.mi.length > 512 then 2 else 0))) :: Blk g m.cells T_api_Msg :: l), ?_, ?_⟩
            · rintro _ w6 h6
              refine ⟨fun _ w' => Sat W w' (LdR a ((((s.add (lyO (m.ns.flatMap intB))).add (lyO (uintB m.pid.toNat))).add (lyO (flagB m.commit))).add (lyMi m.mi)) :: Blk g m.cells T_api_Msg :: l), ?_, ?_⟩
              · rintro _ w7 h7
                have hB := h7.up 1
                refine ldAggX 36 9 hB (hl := (by show 36 + 9 ≤ 59; decide)) ?_
                refine lbatch_ok (d := m.bt) h7 hn.bt hv.bt.cons (by simp only [Ly.add, lyO, lyMi, List.length_append]; omega) fun w8 h8 => tupU rfl ?_
                have hC := h8.up 1
                refine ldB hC (o := 0) (i := 56) (x := m.bs) ?_
                refine lbatches_ok h8 hn.bl hv.bl.cons (by simp only [Ly.add, lyO, lyMi, List.length_append]; omega) fun w9 h9 => tupU rfl ?_
                have hD := h9.up 1
                refine ldB hD (o := 0) (i := 57) (x := m.av) ?_
                have hal : m.av.len = m.al.length := RdC.elen (E := elAb) (hv.al _ h9.tail.tail) (by decide)
                rw [hal]
                refine lcount_ok h9 (by omega) (by simp only [Ly.add, lyO, lyMi, List.length_append]; omega) fun w10 h10 => tupU rfl ?_
                simp only [Ly.add_assoc] at h10
                refine ⟨fun t w' => ∃ k : Nat, t.1 = k ∧ k ≤ m.al.length ∧ Sat W w' (LdR a (s.add ((lyO (m.ns.flatMap intB)).add ((lyO (uintB m.pid.toNat)).add ((lyO (flagB m.commit)).add ((lyMi m.mi).add ((lyD m.bt).add ((lyDs m.bl).add ((lyN m.al.length).add (lyL lyAb (m.al.take k)))))))))) :: Blk g m.cells T_api_Msg :: l), fun t _ => m.al.length - t.1.toNat, ⟨0, rfl, by omega, by simp only [List.take_zero, lyL]; rw [Ly.add_0]; exact h10⟩, ?_⟩
                rintro ⟨i, u⟩ w11 ⟨k, hk, hkn, h11⟩
                simp only at hk ⊢
                subst hk
                have hlk := lyAs_take hn.al k
                have hE := h11.up 1
                refine ldB hE (o := 0) (i := 57) (x := m.av) ?_
                rw [hal]
                refine ifB_dec (fun hc => ?_) fun hc => ?_
                · have hlt : k < m.al.length := by omega
                  have hm := hn.al _ (List.getElem_mem hlt)
                  have q1 := uintB_len10 m.al[k].pid.toNat (by have := hm.1; omega)
                  have q2 := intB_len hm.2.1
                  have q3 := intB_len hm.2.2
                  refine ⟨fun _ w' => Sat W w' (LdR a ((s.add ((lyO (m.ns.flatMap intB)).add ((lyO (uintB m.pid.toNat)).add ((lyO (flagB m.commit)).add ((lyMi m.mi).add ((lyD m.bt).add ((lyDs m.bl).add ((lyN m.al.length).add (lyL lyAb (m.al.take k)))))))))).add (lyO (uintB m.al[k].pid.toNat))) :: Blk g m.cells T_api_Msg :: l), ?_, ?_⟩
                  · rintro _ w12 h12
                    refine ⟨fun w => ∃ s, Sat W w (LdR a s :: Blk g m.cells T_api_Msg :: l), ⟨_, h12.drew⟩, ?_⟩
                    have hS : ∀ w, (∃ s, Sat W w (LdR a s :: Blk g m.cells T_api_Msg :: l)) → RdC w m.av 3 (elAb.flat m.al) := fun w hw => hv.al _ hw.choose_spec.tail.tail
                    refine hldB (W := W) (fun w hw => ⟨_, hw.choose_spec.up 1⟩) (o := 0) (i := 57) (x := m.av) ?_
                    refine hixEl (E := elAb) (xs := m.al) et_aborts rfl hS ⟨_, h12.drew⟩ (x := m.al[k]) (by omega) (by simp [hlt]) (by simp; omega) fun ad ha => ?_
                    refine hld (x := m.al[k].first) (fun w hw => ha w hw 1 _ rfl) ?_
                    refine hldB (W := W) (fun w hw => ⟨_, hw.choose_spec.up 1⟩) (o := 0) (i := 57) (x := m.av) ?_
                    refine hixEl (E := elAb) (xs := m.al) et_aborts rfl hS ⟨_, h12.drew⟩ (x := m.al[k]) (by omega) (by simp [hlt]) (by simp; omega) fun ad2 ha2 => ?_
                    refine hld (x := m.al[k].last) (fun w hw => ha2 w hw 2 _ rfl) ?_
                    refine bsB h12.drew (cs := [m.al[k].first, m.al[k].last].map vI) (e := T_int) (fun w => by kernel_rfl) fun g3 w13 h13 => ⟨⟨_, h13.tail⟩, ?_⟩
                    refine lints_ok (n := [m.al[k].first, m.al[k].last]) (h13.up 1) (Rd.blk rfl) (by simpa using hm.2) (by simp only [Ly.add, lyO, lyN, lyMi, List.length_append, List.length_cons, List.length_nil]; omega) fun w14 h14 => tupU rfl ⟨⟨_, h14.cut 1⟩, ?_⟩
                    rw [w_i64 (by omega) (by omega)]
                    refine ⟨⟨k + 1, rfl, by omega, ?_⟩, by omega⟩
                    have h14' := h14.cut 1
                    simp only [Ly.add_assoc] at h14'
                    rw [lyL_snoc lyAb hlt]
                    have e : (lyO (uintB m.al[k].pid.toNat)).add (lyO ([m.al[k].first, m.al[k].last].flatMap intB)) = lyAb m.al[k] := by simp [Ly.add, lyO, lyAb, or0]
                    rw [e] at h14'
                    exact h14'
                  · refine ⟨fun w => ∃ s, Sat W w (s :: Blk g m.cells T_api_Msg :: l), ⟨_, h11.drew⟩, ?_⟩
                    have hS : ∀ w, (∃ s, Sat W w (s :: Blk g m.cells T_api_Msg :: l)) → RdC w m.av 3 (elAb.flat m.al) := fun w hw => hv.al _ hw.choose_spec.tail.tail
                    refine hldB (W := W) (fun w hw => ⟨_, hw.choose_spec.up 1⟩) (o := 0) (i := 57) (x := m.av) ?_
                    refine hixEl (E := elAb) (xs := m.al) et_aborts rfl hS ⟨_, h11.drew⟩ (x := m.al[k]) (by omega) (by simp [hlt]) (by simp; omega) fun ad ha => ?_
                    refine hld (x := m.al[k].pid) (fun w hw => ha w hw 0 _ rfl) ?_
                    exact apd (F := F_ref03_Uint) (args := [.int .u64 m.al[k].pid]) (n := uintB m.al[k].pid.toNat) (S := fun w => ∃ s, Sat W w (s :: Blk g m.cells T_api_Msg :: l)) h11.drew (by simp only [Ly.add, lyO, lyN, lyMi, List.length_append]; omega) (fun w h => ⟨Pure True, sat_pure.2 ⟨trivial, h⟩⟩) (fun R1 R2 w0 K h0 hK => rUint_ok h0 hm.1.1 hm.1.2 hK) fun w3 h3 => h3
                · have : k = m.al.length := by omega
                  subst this
                  rw [List.take_length] at h11
                  exact h11.cut 1
              · refine ⟨fun w => Sat W w (Blk g m.cells T_api_Msg :: l), h6.drew.tail, ?_⟩
                refine hldB (W := W) (fun w hw => ⟨_, hw⟩) (o := 0) (i := 55) (x := m.ms) ?_
                have e7 : (lyE (if m.mi.length > 512 then 2 else 0)).add (lyO (intsB m.mi)) = lyMi m.mi := by simp [Ly.add, lyE, lyO, lyMi, or0_r, or0]
                exact apd (F := F_ref03_Ints) (args := [m.ms.v]) (n := intsB m.mi) (S := fun w => Sat W w (Blk g m.cells T_api_Msg :: l)) h6.drew (by simp only [Ly.add, lyO, lyE, List.length_append, List.length_nil]; omega) (fun w h => h) (fun R1 R2 w0 K h0 hK => rInts_ok h0 hv.mi.cons.cons.cons hn.mi (by omega) hK) fun w3 h3 => by
                  rw [Ly.add_assoc _ (lyE _), e7] at h3; exact h3
            · have hB := h5.up 1
              refine ldB hB (o := 0) (i := 55) (x := m.ms) ?_
              refine ifB_dec (fun hc => ?_) fun hc => ?_
              · refine lfail_ok h5 fun w6 h6 => tupU rfl ?_
                rw [if_pos (by omega)]; exact h6
              · rw [if_neg (by omega), show lyE 0 = ly0 from rfl, Ly.add_0]; exact h5
          · refine ⟨fun w => Sat W w (Blk g m.cells T_api_Msg :: l), h4.drew.tail, ?_⟩
            refine hldB (W := W) (fun w hw => ⟨_, hw⟩) (o := 0) (i := 51) (x := m.commit) ?_
            exact apd (F := F_ref03_Flag) (args := [.bool m.commit]) (n := flagB m.commit) (S := fun w => Sat W w (Blk g m.cells T_api_Msg :: l)) h4.drew (by simp only [Ly.add, lyO, List.length_append]; omega) (fun w h => h) (fun R1 R2 w0 K h0 hK => rFlag_ok h0 hK) fun w3 h3 => h3
        · refine ⟨fun w => Sat W w (Blk g m.cells T_api_Msg :: l), h3'.drew.tail, ?_⟩
          refine hldB (W := W) (fun w hw => ⟨_, hw⟩) (o := 0) (i := 49) (x := m.pid) ?_
          exact apd (F := F_ref03_Uint) (args := [.int .u64 m.pid]) (n := uintB m.pid.toNat) (S := fun w => Sat W w (Blk g m.cells T_api_Msg :: l)) h3'.drew (by simp only [Ly.add, lyO, List.length_append]; omega) (fun w h => h) (fun R1 R2 w0 K h0 hK => rUint_ok h0 hn.pid.1 hn.pid.2 hK) fun w3 h3 => h3
  · refine ldB hA (o := 0) (i := 0) (x := m.kind) ?_
    refine ifB_dec (fun hb => bad (.inl hb) _ hA) fun hb1 => ?_
    refine ldB hA (o := 0) (i := 0) (x := m.kind) ?_
    exact ifB_dec (fun hb => bad (.inr hb) _ hA) fun hb2 => ⟨by omega, hA⟩
end
end Go.Proofs.Ytokogdigfohbeaa
