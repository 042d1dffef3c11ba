/- Layer 19: reading. -/
import Derived.Test.YtajhdjjmhfbhgaaKW
namespace Go.Proofs.Ytajhdjjmhfbhgaa
open Go Go.Pk
/-- an answer's lists can be read -/
structure RpRd (W : World) (l : List Res) (m : Rp) : Prop where
  mi : Rd W l m.ms 1 (m.mi.map vI)
  bl : Rd W l m.bs 9 (elB.flat m.bl)
  vs : ∀ d ∈ m.bl, Rd W l d.vs 1 (d.ss.map Sl.v) ∧ d.ss.length = d.bs.length ∧ ∀ (i : Nat) (s : Sl) (b : List UInt8), d.ss[i]? = some s → d.bs[i]? = some b → Rd W l s 1 (b.map vB)
  al : Rd W l m.av 3 (elA.flat m.al)
theorem RpRd.cons {W : World} {l : List Res} {R : Res} {m : Rp} (h : RpRd W l m) : RpRd W (R :: l) m :=
  ⟨h.mi.cons, h.bl.cons, fun d hd => ⟨(h.vs d hd).1.cons, (h.vs d hd).2.1, fun i s b h1 h2 => ((h.vs d hd).2.2 i s b h1 h2).cons⟩, h.al.cons⟩
/-- one value is taken, or passed over -/
def skipV (o : Oc) (base : Int) (i : Nat) (r : Rs) : Prop := IntKind.i64.wrap (base + (i : Int)) < r.att ∨ (o.kind = 5 ∧ r.got ≥ o.count) ∨ (o.kind = 4 ∧ IntKind.i64.wrap (r.c.count + r.got) ≥ o.count)
instance (o : Oc) (base : Int) (i : Nat) (r : Rs) : Decidable (skipV o base i r) := by unfold skipV; exact inferInstance
def takeV (o : Oc) (k base : Int) (i : Nat) (v : List UInt8) (r : Rs) : Rs :=
  ⟨if o.kind = 4 then r.c.tell { zSn with kind := 5, part := k, offset := IntKind.i64.wrap (base + (i : Int)), value := str v } else r.c, nx (IntKind.i64.wrap (base + (i : Int))), nx r.got, r.vals ++ [str v]⟩
theorem rdVals_skip {o : Oc} {k base : Int} {i : Nat} {v : List UInt8} {vs : List (List UInt8)} {r : Rs} (h : skipV o base i r) : rdVals o k base i (v :: vs) r = rdVals o k base (i + 1) vs r := by
  unfold skipV at h
  conv => lhs; unfold rdVals
  rw [if_pos h]
theorem rdVals_take {o : Oc} {k base : Int} {i : Nat} {v : List UInt8} {vs : List (List UInt8)} {r : Rs} (h : ¬ skipV o base i r) : rdVals o k base i (v :: vs) r = rdVals o k base (i + 1) vs (takeV o k base i v r) := by
  unfold skipV at h
  conv => lhs; unfold rdVals
  rw [if_neg h]; rfl
theorem rdAll_pass {o : Oc} {k : Int} {al : List Ao} {d : Bt} {bl : List Bt} {r : Rs} (h : d.control = true ∨ isAborted d al = true) : rdAll o k al (d :: bl) r = rdAll o k al bl { r with att := passed d r.att } := by
  conv => lhs; unfold rdAll
  rw [if_pos h]
theorem rdAll_stop {o : Oc} {k : Int} {al : List Ao} {d : Bt} {bl : List Bt} {r r' : Rs} (h : ¬ (d.control = true ∨ isAborted d al = true)) (e : rdVals o k d.base 0 d.bs r = r') (h2 : r'.att < IntKind.i64.wrap (d.base + (d.bs.length : Int))) : rdAll o k al (d :: bl) r = r' := by
  subst e
  conv => lhs; unfold rdAll
  rw [if_neg h]; exact if_pos h2
theorem rdAll_go {o : Oc} {k : Int} {al : List Ao} {d : Bt} {bl : List Bt} {r r' : Rs} (h : ¬ (d.control = true ∨ isAborted d al = true)) (e : rdVals o k d.base 0 d.bs r = r') (h2 : ¬ r'.att < IntKind.i64.wrap (d.base + (d.bs.length : Int))) : rdAll o k al (d :: bl) r = rdAll o k al bl r' := by
  subst e
  conv => lhs; unfold rdAll
  rw [if_neg h]; exact if_neg h2
/-- the client is the same but for what was seen -/
def Same (c c' : Cl) : Prop := ∃ evs, c' = { c with seen := c.seen ++ evs }
theorem Same.refl (c : Cl) : Same c c := ⟨[], by simp⟩
theorem Same.tell {c c' : Cl} (h : Same c c') (s : Sn) : Same c (c'.tell s) := by
  obtain ⟨evs, rfl⟩ := h
  refine ⟨evs ++ [{ s with client := c.number, op := c.op }], ?_⟩
  unfold Cl.tell
  simp only [List.append_assoc]
theorem takeV_same {c : Cl} {o : Oc} {k base : Int} {i : Nat} {v : List UInt8} {r : Rs} (h : Same c r.c) : Same c (takeV o k base i v r).c := by
  unfold takeV
  simp only
  split
  · exact h.tell _
  · exact h
def vtot (bl : List Bt) : Nat := match bl with | [] => 0 | d :: bl => d.bs.length + vtot bl
section
variable {W w : World} {l : List Res} {K : Value → World → Prop} {b : Nat} {c : Cl} {p : ClP} {cs : List Value} {m : Rp}
/-- the state within the values of a batch -/
def VSt (W : World) (l : List Res) (b g ga gd : Nat) (cs : List Value) (o : Oc) (d : Bt) (s : Sl) (r : Rs) (w : World) : Prop :=
  Sat W w (ClM b r.c :: SlR T_string 1 s (r.vals.map vT) :: Blk gd d.cells T_api_Batch :: Blk ga o.cells T_api_Op :: Blk g cs T_api_Msg :: l)
theorem read_ok (h : Sat W w (ClM b c :: l)) (hm : RpC cs m) (hr : RpRd W l m) (q : Good c) (ha : 0 ≤ c.asked.part ∧ c.asked.part < c.parts) (hop : c.op < c.ops.length) (hn : m.bl.length ≤ 1000000000 ∧ vtot m.bl ≤ 1000000000 ∧ m.al.length ≤ 1000000000)
    (hK : ∀ w', Sat W w' (ClM b (c.read m) :: l) → K (.tuple #[]) w') : CallP P F_client_Client_read [.pointer (some ⟨b, 0, none⟩), .agg cs.toArray] w K := by
  apply c_client_Client_read
  unfold S_client_Client_read
  have q1 := q.parts
  have q3 := q.op
  have q5 := q.seen
  have qa := q.att
  refine boxB h fun g w1 h1 => ?_
  have h1 : Sat W w1 (Blk g cs T_api_Msg :: ClM b c :: l) := h1
  obtain ⟨p, h2⟩ := sat_cl.1 h1.swap
  have hol : p.ops.len = c.ops.length := by
    have hs : Sat W w1 (SlR T_api_Op 5 p.ops (elO.flat c.ops) :: _) := Sat.up (L := ClL b c p (Blk g cs T_api_Msg :: l)) h2 1
    exact RdC.elen (E := elO) hs.rdc (by decide)
  have hx : c.ops[c.op.toNat]? = some (c.ops[c.op.toNat]'(by omega)) := by simp
  generalize (c.ops[c.op.toNat]'(by omega)) = o at hx
  unfold Cl.read at hK
  rw [hx] at hK
  simp only at hK
  have h4 := h2.drew
  let S : World → Prop := fun w => ∃ L, Sat W w (ClL b c p L)
  refine ⟨S, ⟨_, h4⟩, ?_⟩
  refine hldX (fun w ⟨L, h⟩ => ⟨_, h⟩) 6 (k := .sl) (x := p.ops) ?_
  refine hldX (fun w ⟨L, h⟩ => ⟨_, h⟩) 8 (x := c.op) ?_
  have hS : ∀ w, S w → RdC w p.ops 5 (elO.flat c.ops) := fun w ⟨L, h⟩ => by
    have hs : Sat W w (SlR T_api_Op 5 p.ops (elO.flat c.ops) :: _) := Sat.up (L := ClL b c p L) h 1
    exact hs.rdc
  refine hixEl (E := elO) et_ops rfl hS ⟨_, h4⟩ q3.1 hx (by omega) fun a ha' => ?_
  refine hldAggC (cs := o.cells) ha' ?_
  refine allocB h4 (z := .agg #[.int .i64 0, .int .i64 0, .int .i64 0, .int .i64 0, .string ⟨#[]⟩]) (by kernel_rfl) fun ga w5 h5 => ?_
  have h5 : Sat W w5 (Blk ga [.int .i64 0, .int .i64 0, .int .i64 0, .int .i64 0, .string ⟨#[]⟩] T_api_Op :: ClL b c p (Blk g cs T_api_Msg :: l)) := h5
  refine ⟨⟨_, h5.tail⟩, ?_⟩
  refine stAggB (cs' := o.cells) h5 rfl (Oc.ones o) (by kernel_rfl) fun w6 h6 => ⟨⟨_, h6.tail⟩, ?_⟩
  have h7 : Sat W w6 (ClL b c p (Blk ga o.cells T_api_Op :: Blk g cs T_api_Msg :: l)) := h6.sel 14 [1, 2, 3, 4, 5, 6, 7, 8, 9, 10, 11, 12, 13, 0]
  refine ldX h7 58 (x := c.asked.part) ?_
  refine ldX h7 87 (k := .sl) (x := p.att) ?_
  have hra : Sat W w6 (SlR T_int 1 p.att (c.att.map vI) :: _) := Sat.up (L := ClL b c p (Blk ga o.cells T_api_Op :: Blk g cs T_api_Msg :: l)) h7 10
  refine ixld et_ints hra.rdc ha.1 (x := geti c.att c.asked.part) (geti_at (by omega)) ?_
  generalize hrf : rdAll o c.asked.part m.al m.bl ⟨c, geti c.att c.asked.part, 0, []⟩ = rf at hK
  refine ⟨fun t w' => Same c rf.c ∧ t.1 = rf.att ∧ t.2.1 = rf.got ∧ Sat W w' (ClM b rf.c :: SlR T_string 1 t.2.2.1 (rf.vals.map vT) :: Blk ga o.cells T_api_Op :: Blk g cs T_api_Msg :: l), ?_, ?_⟩
  · rintro ⟨t1, t2, t3, u⟩ w7 ⟨hsm, e1, e2, h8⟩
    simp only at e1 e2 h8 ⊢
    subst e1; subst e2
    have f1 : rf.c.asked = c.asked ∧ rf.c.att = c.att ∧ rf.c.parts = c.parts := by obtain ⟨evs, he⟩ := hsm; rw [he]; exact ⟨rfl, rfl, rfl⟩
    obtain ⟨f1, f2, f3⟩ := f1
    have h9 : Sat W w7 (Blk ga o.cells T_api_Op :: _) := h8.up 2
    refine ldB h9 (o := 0) (i := 0) (x := o.kind) ?_
    refine ifB_beq (fun k5 => ?_) fun k5 => ?_
    · rw [if_pos k5] at hK
      refine copied_ok h8 (by rw [f1, f2, qa]; omega) fun w8 h10 => tupU rfl (hK w8 (h10.sel 3 [0]))
    · rw [if_neg k5] at hK
      obtain ⟨p2, h10⟩ := sat_cl.1 h8
      refine ldX h10 89 (x := rf.c.turn) ?_
      refine stX h10 89 fun w8 h11 => ?_
      refine ldX h11 91 (x := rf.c.count) ?_
      refine stX h11 91 fun w9 h12 => ?_
      refine ldX h12 90 (x := rf.c.dry) ?_
      refine stX h12 90 fun w10 h13 => ?_
      have h13 : Sat W w10 (ClL b { rf.c with turn := nx rf.c.turn, count := IntKind.i64.wrap (rf.c.count + rf.got), dry := nx rf.c.dry } p2 (SlR T_string 1 t3 (rf.vals.map vT) :: Blk ga o.cells T_api_Op :: Blk g cs T_api_Msg :: l)) := h13
      refine ⟨fun _ w' => Sat W w' (ClL b { rf.c with turn := nx rf.c.turn, count := IntKind.i64.wrap (rf.c.count + rf.got), dry := if rf.got > 0 ∨ rf.att > geti rf.c.att c.asked.part then 0 else nx rf.c.dry } p2 (SlR T_string 1 t3 (rf.vals.map vT) :: Blk ga o.cells T_api_Op :: Blk g cs T_api_Msg :: l)), ?_, ?_⟩
      · rintro _ w11 h14
        refine ldX h14 87 (k := .sl) (x := p2.att) ?_
        have hr2 : Sat W w11 (SlR T_int 1 p2.att (rf.c.att.map vI) :: _) := Sat.up (L := ClL b { rf.c with turn := nx rf.c.turn, count := IntKind.i64.wrap (rf.c.count + rf.got), dry := if rf.got > 0 ∨ rf.att > geti rf.c.att c.asked.part then 0 else nx rf.c.dry } p2 (SlR T_string 1 t3 (rf.vals.map vT) :: Blk ga o.cells T_api_Op :: Blk g cs T_api_Msg :: l)) h14 10
        have hl2 := (Sat.isLen hr2).1
        rw [f2, qa] at hl2
        refine ixst et_ints hr2 ha.1 (by omega) fun w12 h15 => ?_
        have e3 : (rf.c.att.map vI).set c.asked.part.toNat (.int .i64 rf.att) = (seti rf.c.att c.asked.part rf.att).map vI := by
          unfold seti; rw [List.map_set]; rfl
        rw [e3] at h15
        have h16 : Sat W w12 (ClL b { rf.c with turn := nx rf.c.turn, count := IntKind.i64.wrap (rf.c.count + rf.got), dry := if rf.got > 0 ∨ rf.att > geti rf.c.att c.asked.part then 0 else nx rf.c.dry, att := seti rf.c.att c.asked.part rf.att } p2 (SlR T_string 1 t3 (rf.vals.map vT) :: Blk ga o.cells T_api_Op :: Blk g cs T_api_Msg :: l)) := h15.dn 10
        exact hK w12 ((sat_cl.2 ⟨p2, h16⟩ : Sat W w12 (ClM b _ :: SlR T_string 1 t3 (rf.vals.map vT) :: Blk ga o.cells T_api_Op :: Blk g cs T_api_Msg :: l)).sel 4 [0])
      · refine ifB_dec (fun g0 => ?_) fun g0 => ?_
        · rw [if_pos (.inl g0)]
          refine stX h13 90 fun w11 h14 => h14
        · refine ldX h13 87 (k := .sl) (x := p2.att) ?_
          have hr2 : Sat W w10 (SlR T_int 1 p2.att (rf.c.att.map vI) :: _) := Sat.up (L := ClL b { rf.c with turn := nx rf.c.turn, count := IntKind.i64.wrap (rf.c.count + rf.got), dry := nx rf.c.dry } p2 (SlR T_string 1 t3 (rf.vals.map vT) :: Blk ga o.cells T_api_Op :: Blk g cs T_api_Msg :: l)) h13 10
          refine ixld et_ints hr2.rdc ha.1 (x := geti rf.c.att c.asked.part) (geti_at (by rw [f2, qa]; omega)) ?_
          refine ifB_dec (fun g1 => ?_) fun g1 => ?_
          · rw [if_pos (.inr g1)]
            refine stX h13 90 fun w11 h14 => h14
          · rw [if_neg (by rintro (h | h); exact g0 h; exact g1 h)]
            exact h13
  · have hb7 : Sat W w6 (Blk g cs T_api_Msg :: _) := Sat.up (L := ClL b c p (Blk ga o.cells T_api_Op :: Blk g cs T_api_Msg :: l)) h7 14
    refine ldX hb7 56 (k := .sl) (x := m.bs) ?_ (hx := hm.bs)
    have h8 : Sat W w6 (ClM b c :: SlR T_string 1 ⟨none, 0, 0⟩ [] :: Blk ga o.cells T_api_Op :: Blk g cs T_api_Msg :: l) := (Sat.nilSlr (sat_cl.2 ⟨p, h7⟩) T_string 1).swap
    have hbl : m.bs.len = m.bl.length := RdC.elen (E := elB) (hr.bl w h.tail) (by decide)
    refine ⟨fun z w' => ∃ (i : Nat) (r : Rs), z.2.2.2.1 = i ∧ i ≤ m.bl.length ∧ z.1 = r.att ∧ z.2.1 = r.got ∧ rdAll o c.asked.part m.al (m.bl.drop i) r = rf ∧ Same c r.c ∧ r.vals.length + vtot (m.bl.drop i) ≤ vtot m.bl ∧ r.c.seen.length + vtot (m.bl.drop i) ≤ c.seen.length + vtot m.bl ∧
        Sat W w' (ClM b r.c :: SlR T_string 1 z.2.2.1 (r.vals.map vT) :: Blk ga o.cells T_api_Op :: Blk g cs T_api_Msg :: l), fun z _ => m.bl.length - z.2.2.2.1.toNat, ⟨0, ⟨c, geti c.att c.asked.part, 0, []⟩, rfl, Nat.zero_le _, rfl, rfl, hrf, Same.refl c, by simp, by simp, h8⟩, ?_⟩
    rintro ⟨t1, t2, s3, i', u⟩ w7 ⟨i, r, hi, hil, e1, e2, hrd, hsm, hv1, hv2, h9⟩
    simp only at hi e1 e2 h9 ⊢
    subst hi; subst e1; subst e2
    refine ifB_dec (fun hlt => ?_) fun hge => ?_
    · have hi1 : i < m.bl.length := by omega
      have hxi : m.bl[((i : Nat) : Int).toNat]? = some m.bl[i] := by simp [hi1]
      have hmem : m.bl[i] ∈ m.bl := List.getElem_mem hi1
      have hdr : m.bl.drop i = m.bl[i] :: m.bl.drop (i + 1) := List.drop_eq_getElem_cons hi1
      rw [hdr] at hrd hv1 hv2
      generalize m.bl[i] = d at hxi hmem hdr hrd hv1 hv2
      have hvt : vtot (d :: m.bl.drop (i + 1)) = d.bs.length + vtot (m.bl.drop (i + 1)) := rfl
      rw [hvt] at hv1 hv2
      have hmb := hr.bl
      refine ixEl (E := elB) et_batches rfl (hmb w7 h9.tail.tail.tail.tail) (by omega) hxi (by omega) fun a2 ha2 => ?_
      refine ldAggC (cs := d.cells) ha2 ?_
      refine newAgg (z := [.int .i64 0, .int .i64 0, .int .u64 0, .int .i64 0, .int .i64 0, .bool false, .bool false, .bool false, .slice none 0 0]) h9 (elB.one d) fun gd w8 h10 => ?_
      obtain ⟨v1, v2, v3⟩ := hr.vs d hmem
      have hvl : d.vs.len = d.bs.length := by
        have := (v1 w h.tail).1
        simp only [List.length_map, Nat.mul_one] at this
        omega
      have hpass : ∀ w', (d.control = true ∨ isAborted d m.al = true) → Sat W w' (Blk gd d.cells T_api_Batch :: ClM b r.c :: SlR T_string 1 s3 (r.vals.map vT) :: Blk ga o.cells T_api_Op :: Blk g cs T_api_Msg :: l) →
          (∃ (i_1 : Nat) (r_1 : Rs), IntKind.i64.wrap ((i : Int) + 1) = i_1 ∧ i_1 ≤ m.bl.length ∧ (if IntKind.i64.wrap (d.base + if 1 > (d.vs.len : Int) then 1 else (d.vs.len : Int)) > r.att then IntKind.i64.wrap (d.base + if 1 > (d.vs.len : Int) then 1 else (d.vs.len : Int)) else r.att) = r_1.att ∧ r.got = r_1.got ∧ rdAll o c.asked.part m.al (m.bl.drop i_1) r_1 = rf ∧ Same c r_1.c ∧ r_1.vals.length + vtot (m.bl.drop i_1) ≤ vtot m.bl ∧ r_1.c.seen.length + vtot (m.bl.drop i_1) ≤ c.seen.length + vtot m.bl ∧
            Sat W w' (ClM b r_1.c :: SlR T_string 1 s3 (r_1.vals.map vT) :: Blk ga o.cells T_api_Op :: Blk g cs T_api_Msg :: l)) ∧ m.bl.length - (IntKind.i64.wrap ((i : Int) + 1)).toNat < m.bl.length - ((i : Int)).toNat := by
        intro w' hp h'
        rw [w_i64 (by omega) (by omega)]
        rw [rdAll_pass hp] at hrd
        exact ⟨⟨i + 1, { r with att := passed d r.att }, rfl, by omega, by rw [hvl]; rfl, rfl, hrd, hsm, by show r.vals.length + _ ≤ _; omega, by show r.c.seen.length + _ ≤ _; omega, h'.tail⟩, by omega⟩
      refine ⟨fun t w' => t.1 = r.att ∧ ¬ (d.control = true ∨ isAborted d m.al = true) ∧ Sat W w' (Blk gd d.cells T_api_Batch :: ClM b r.c :: SlR T_string 1 s3 (r.vals.map vT) :: Blk ga o.cells T_api_Op :: Blk g cs T_api_Msg :: l), ?_, ?_⟩
      · rintro ⟨t31, u⟩ w9 ⟨e31, hnp, h11⟩
        simp only at e31 ⊢
        subst e31
        refine ldB h11 (o := 0) (i := 8) (k := .sl) (x := d.vs) ?_
        refine ⟨fun z w' => ∃ (j : Nat) (r2 : Rs), z.2.2.2.1 = j ∧ j ≤ d.bs.length ∧ z.1 = r2.att ∧ z.2.1 = r2.got ∧ rdVals o c.asked.part d.base j (d.bs.drop j) r2 = rdVals o c.asked.part d.base 0 d.bs r ∧ Same c r2.c ∧ r2.vals.length + (d.bs.length - j) + vtot (m.bl.drop (i + 1)) ≤ vtot m.bl ∧
          r2.c.seen.length + (d.bs.length - j) + vtot (m.bl.drop (i + 1)) ≤ c.seen.length + vtot m.bl ∧ Sat W w' (Blk gd d.cells T_api_Batch :: ClM b r2.c :: SlR T_string 1 z.2.2.1 (r2.vals.map vT) :: Blk ga o.cells T_api_Op :: Blk g cs T_api_Msg :: l), fun z _ => d.bs.length - z.2.2.2.1.toNat, ⟨0, r, rfl, Nat.zero_le _, rfl, rfl, rfl, hsm, by omega, by omega, h11⟩, ?_⟩
        rintro ⟨u1, u2, s4, j', u⟩ w10 ⟨j, r2, hj, hjl, g1, g2, hrv, hsm2, hw1, hw2, h12⟩
        simp only at hj g1 g2 h12 ⊢
        subst hj; subst g1; subst g2
        have hslen : s4.len = r2.vals.length := by
          have := (h12.up 2).slLen.1
          simp only [List.length_map, Nat.mul_one] at this
          exact this.symm
        have hcnt : r2.c.count = c.count := by obtain ⟨evs, he⟩ := hsm2; rw [he]
        refine ifB_dec (fun hlt2 => ?_) fun hge2 => ?_
        · have hj1 : j < d.bs.length := by omega
          have hj2 : j < d.ss.length := by omega
          have hdj : d.bs.drop j = d.bs[j] :: d.bs.drop (j + 1) := List.drop_eq_getElem_cons hj1
          rw [hdj] at hrv
          refine ixld et_lists (v1.cons.cons.cons.cons.cons w10 h12) (by omega) (k := .sl) (x := d.ss[j]) (by simp [hj2]) ?_
          have hby : Rd W l d.ss[j] 1 (d.bs[j].map vB) := v3 j _ _ (List.getElem?_eq_getElem hj2) (List.getElem?_eq_getElem hj1)
          refine ⟨fun _ w' => ¬ skipV o d.base j r2 ∧ Sat W w' (Blk gd d.cells T_api_Batch :: ClM b r2.c :: SlR T_string 1 s4 (r2.vals.map vT) :: Blk ga o.cells T_api_Op :: Blk g cs T_api_Msg :: l), ?_, ?_⟩
          · rintro _ w11 ⟨hns, h13⟩
            rw [rdVals_take hns] at hrv
            refine ldB h13 (o := 0) (i := 0) (x := d.base) ?_
            refine cvStr (e := T_uint8) (by kernel_rfl) (by kernel_rfl) (by kernel_rfl) (hby.cons.cons.cons.cons.cons w11 h13) ?_
            refine bsB h13 (cs := [.string (str d.bs[j])]) (e := T_string) (fun w => by kernel_rfl) fun g3 w12 h14 => ?_
            have h15 : Sat W w12 (SlR T_string 1 s4 (r2.vals.map vT) :: Blk g3 [.string (str d.bs[j])] T_string :: Blk gd d.cells T_api_Batch :: ClM b r2.c :: Blk ga o.cells T_api_Op :: Blk g cs T_api_Msg :: l) := h14.sel 6 [3, 0, 1, 2, 4, 5]
            refine pushB et_strs (by decide) h15 rfl (by intro u hu; simp at hu; subst hu; rfl) (by omega) (by omega) fun s5 w13 h16 => ?_
            have h17 : Sat W w13 (Blk ga o.cells T_api_Op :: _) := h16.up 4
            have evs : (r2.vals.map vT ++ [Value.string (str d.bs[j])]) = ((r2.vals ++ [str d.bs[j]]).map vT) := by rw [List.map_append]; rfl
            rw [evs] at h16
            have hsm3 := takeV_same (o := o) (k := c.asked.part) (base := d.base) (i := j) (v := d.bs[j]) hsm2
            refine ldB h17 (o := 0) (i := 0) (x := o.kind) ?_
            refine ifB_beq (fun k4 => ?_) fun k4 => ?_
            · refine ldB (h16.up 2) (o := 0) (i := 0) (x := d.base) ?_
              refine cvStr (e := T_uint8) (by kernel_rfl) (by kernel_rfl) (by kernel_rfl) (hby w13 h16.tail.tail.tail.tail.tail.tail) ?_
              refine tell_ok (s := { zSn with kind := 5, part := c.asked.part, offset := IntKind.i64.wrap (d.base + (j : Int)), value := str d.bs[j] }) (h16.up 3) (by omega) fun w14 h18 => tupU rfl ?_
              rw [w_i64 (n := (j : Int) + 1) (by omega) (by omega)]
              have ec : (takeV o c.asked.part d.base j d.bs[j] r2).c = r2.c.tell { zSn with kind := 5, part := c.asked.part, offset := IntKind.i64.wrap (d.base + (j : Int)), value := str d.bs[j] } := if_pos k4
              refine ⟨⟨j + 1, takeV o c.asked.part d.base j d.bs[j] r2, rfl, by omega, rfl, rfl, hrv, hsm3, ?_, ?_, ?_⟩, by omega⟩
              · show (r2.vals ++ [str d.bs[j]]).length + _ + _ ≤ _
                rw [List.length_append, List.length_singleton]; omega
              · rw [ec]
                show (r2.c.seen ++ [_]).length + _ + _ ≤ _
                rw [List.length_append, List.length_singleton]; omega
              · rw [ec]
                exact h18.sel 6 [3, 0, 1, 4, 5]
            · rw [w_i64 (n := (j : Int) + 1) (by omega) (by omega)]
              have ec : (takeV o c.asked.part d.base j d.bs[j] r2).c = r2.c := if_neg k4
              refine ⟨⟨j + 1, takeV o c.asked.part d.base j d.bs[j] r2, rfl, by omega, rfl, rfl, hrv, hsm3, ?_, ?_, ?_⟩, by omega⟩
              · show (r2.vals ++ [str d.bs[j]]).length + _ + _ ≤ _
                rw [List.length_append, List.length_singleton]; omega
              · rw [ec]; omega
              · rw [ec]
                exact h16.sel 6 [2, 3, 0, 4, 5]
          · have h13 := h12.drew
            have hga : Sat W w10.drew (Blk ga o.cells T_api_Op :: _) := h13.up 3
            have sk : skipV o d.base j r2 → rdVals o c.asked.part d.base (j + 1) (d.bs.drop (j + 1)) r2 = rdVals o c.asked.part d.base 0 d.bs r := fun hs => by
              rw [rdVals_skip hs] at hrv; exact hrv
            have ew : IntKind.i64.wrap ((j : Int) + 1) = ((j : Int) + 1) := w_i64 (by omega) (by omega)
            refine ldB h13 (o := 0) (i := 0) (x := d.base) ?_
            refine ifB_dec (fun hs => ?_) fun n1 => ?_
            · rw [ew]
              exact ⟨⟨j + 1, r2, rfl, by omega, rfl, rfl, sk (.inl hs), hsm2, by omega, by omega, h13⟩, by omega⟩
            refine ldB hga (o := 0) (i := 0) (x := o.kind) ?_
            refine ifB_beq (fun k5 => ?_) fun k5 => ?_
            · refine ldB hga (o := 0) (i := 3) (x := o.count) ?_
              refine ifB_dec (fun hs => ?_) fun n2 => ?_
              · rw [ew]
                exact ⟨⟨j + 1, r2, rfl, by omega, rfl, rfl, sk (.inr (.inl ⟨k5, hs⟩)), hsm2, by omega, by omega, h13⟩, by omega⟩
              refine ldB hga (o := 0) (i := 0) (x := o.kind) ?_
              refine ifB_beq (fun k4 => absurd k4 (by omega)) fun k4 => ?_
              exact ⟨by rintro (h | h | h); exact n1 h; exact n2 h.2; exact k4 h.1, h13⟩
            · refine ldB hga (o := 0) (i := 0) (x := o.kind) ?_
              refine ifB_beq (fun k4 => ?_) fun k4 => ?_
              · obtain ⟨p3, h14⟩ := sat_cl.1 (h13.up 1)
                refine ldX h14 91 (x := r2.c.count) ?_
                refine ldB hga (o := 0) (i := 3) (x := o.count) ?_
                refine ifB_dec (fun hs => ?_) fun n2 => ?_
                · rw [ew]
                  exact ⟨⟨j + 1, r2, rfl, by omega, rfl, rfl, sk (.inr (.inr ⟨k4, hs⟩)), hsm2, by omega, by omega, h13⟩, by omega⟩
                · exact ⟨by rintro (h | h | h); exact n1 h; exact k5 h.1; exact n2 h.2, h13⟩
              · exact ⟨by rintro (h | h | h); exact n1 h; exact k5 h.1; exact k4 h.1, h13⟩
        · have ej : j = d.bs.length := by omega
          rw [List.drop_of_length_le (by omega)] at hrv
          have hrv : rdVals o c.asked.part d.base 0 d.bs r = r2 := hrv.symm
          refine ldB h12 (o := 0) (i := 0) (x := d.base) ?_
          refine ldB h12 (o := 0) (i := 8) (k := .sl) (x := d.vs) ?_
          rw [hvl]
          refine ifB_dec (fun hs => ?_) fun hs => ?_
          · rw [rdAll_stop hnp hrv hs] at hrd
            subst hrd
            exact ⟨hsm2, rfl, rfl, h12.tail⟩
          · rw [rdAll_go hnp hrv hs] at hrd
            rw [w_i64 (by omega) (by omega)]
            exact ⟨⟨i + 1, r2, rfl, by omega, rfl, rfl, hrd, hsm2, by omega, by omega, h12.tail⟩, by omega⟩
      · refine ldB h10 (o := 0) (i := 6) (k := .bool) (x := d.control) ?_
        refine ifB_intro (fun hc => ?_) fun hc => ?_
        · refine ldB h10 (o := 0) (i := 8) (k := .sl) (x := d.vs) ?_
          refine ldB h10 (o := 0) (i := 0) (x := d.base) ?_
          exact hpass w8 (.inl hc) h10
        · refine ldAggB h10 (by kernel_rfl) ?_
          have hb10 : Sat W w8 (Blk g cs T_api_Msg :: _) := h10.up 4
          refine ldX hb10 57 (k := .sl) (x := m.av) ?_ (hx := hm.av)
          have har : Rd W (Blk gd d.cells T_api_Batch :: ClM b r.c :: SlR T_string 1 s3 (r.vals.map vT) :: Blk ga o.cells T_api_Op :: Blk g cs T_api_Msg :: l) m.av 3 (elA.flat m.al) := hr.al.cons.cons.cons.cons.cons
          refine aborted_ok h10 har (by omega) fun w9 h11 => tyI ?_
          refine ifB_intro (fun hab => ?_) fun hab => ?_
          · refine ldB h11 (o := 0) (i := 8) (k := .sl) (x := d.vs) ?_
            refine ldB h11 (o := 0) (i := 0) (x := d.base) ?_
            exact hpass w9 (.inr hab) h11
          · exact ⟨rfl, (by rw [hc, hab]; decide), h11⟩
    · rw [List.drop_of_length_le (by omega)] at hrd
      have hrd : r = rf := hrd
      subst hrd
      exact ⟨hsm, rfl, rfl, h9⟩
end
end Go.Proofs.Ytajhdjjmhfbhgaa
