/- Layer 19: copying. -/
import Derived.Test.YtajhdjjmhfbhgaaKO
namespace Go.Proofs.Ytajhdjjmhfbhgaa
open Go Go.Pk
theorem settle_nil {c : Cl} : (c.settle []).2 = c.joined := by
  unfold Cl.settle
  cases c.joined <;> rfl
section
variable {W w : World} {l : List Res} {K : Value → World → Prop} {b : Nat} {c : Cl} {p : ClP}
theorem copy_ok {o : Oc} (h : Sat W w (ClM b c :: l)) (ho : opBad c.parts o = false) (g : Good c) (hK : ∀ w', Sat W w' (ClM b (c.copy o) :: l) → K (.tuple #[]) w') :
    CallP P F_client_Client_copy [.pointer (some ⟨b, 0, none⟩), .agg o.cells.toArray] w K := by
  apply c_client_Client_copy
  unfold S_client_Client_copy
  obtain ⟨_, _, o1, o2, o3, o4, _, _, _⟩ := op_in ho
  have gp := g.parts
  have ga := g.att
  have gs := g.seen
  have gm := g.mlen
  refine boxB h fun g1 w1 h1 => ?_
  have h1 : Sat W w1 (Blk g1 o.cells T_api_Op :: ClM b c :: l) := h1
  obtain ⟨p, h2⟩ := sat_cl.1 h1.swap
  have fin : ∀ {w' : World} {c' : Cl} {p' : ClP}, c' = c.copy o → Sat W w' (ClL b c' p' (Blk g1 o.cells T_api_Op :: l)) → K (.tuple #[]) w' := by
    rintro w' c' p' rfl h'
    exact hK w' ((sat_cl.2 ⟨p', h'⟩ : Sat W w' (ClM b (c.copy o) :: Blk g1 o.cells T_api_Op :: l)).cut 1)
  have finM : ∀ {w' : World} {c' : Cl}, c' = c.copy o → Sat W w' (ClM b c' :: Blk g1 o.cells T_api_Op :: l) → K (.tuple #[]) w' := by
    rintro w' c' rfl h'
    exact hK w' (h'.cut 1)
  unfold Cl.copy at fin finM
  refine ⟨fun _ w' => ¬ (c.opn ≥ 0 ∧ c.begin ≠ c.op) ∧ Sat W w' (ClL b c p (Blk g1 o.cells T_api_Op :: l)), ?_, ?_⟩
  · rintro _ w2 ⟨n1, h3⟩
    rw [if_neg n1] at fin finM
    refine ⟨fun _ w' => ¬ (c.step = 0 ∧ c.joined = false) ∧ Sat W w' (ClL b c p (Blk g1 o.cells T_api_Op :: l)), ?_, ?_⟩
    · rintro _ w3 ⟨n2, h4⟩
      rw [if_neg n2] at fin finM
      have h5 := h4.drew
      let S : World → Prop := fun w => ∃ L, Sat W w (ClL b c p (Blk g1 o.cells T_api_Op :: L))
      have sb : ∀ w, S w → ∃ L, Sat W w (Blk g1 o.cells T_api_Op :: L) := fun w ⟨L, h⟩ => ⟨_, Sat.up (L := ClL b c p (Blk g1 o.cells T_api_Op :: L)) h 13⟩
      refine ⟨S, ⟨_, h5⟩, ?_⟩
      refine hldX (fun w ⟨L, h⟩ => ⟨_, h⟩) 86 (k := .sl) (x := p.mine) ?_
      refine hldX sb 1 (x := o.part) ?_
      have hmr : Rd W (ClL b c p (Blk g1 o.cells T_api_Op :: l)) p.mine 1 (c.mine.map vI) := fun w' h' => by
        have hs : Sat W w' (SlR T_int 1 p.mine (c.mine.map vI) :: _) := Sat.up (L := ClL b c p (Blk g1 o.cells T_api_Op :: l)) h' 9
        exact hs.rdc
      refine contains_ok h5 hmr (by omega) (tyI ⟨⟨_, h5⟩, ?_⟩)
      by_cases hm : o.part ∈ c.mine
      · rw [if_neg (fun h => h hm)] at fin finM
        rw [decide_eq_true hm]
        simp only [Bool.not_true, ifB_false]
        have hbk : Sat W w3.drew (Blk g1 o.cells T_api_Op :: _) := Sat.up (L := ClL b c p (Blk g1 o.cells T_api_Op :: l)) h5 13
        have har : ∀ {w : World} {c' : Cl} {q : ClP} {L : List Res}, c'.att = c.att → q.att = p.att → Sat W w (ClL b c' q L) → RdC w p.att 1 (c.att.map vI) := fun {w c' q L} e eq h => by
          have hr : Sat W w (SlR T_int 1 q.att (c'.att.map vI) :: _) := Sat.up (L := ClL b c' q L) h 10
          rw [e, eq] at hr
          exact hr.rdc
        have hal : p.att.len = c.att.length := by
          have := (har rfl rfl h5).1
          simp only [List.length_map, Nat.mul_one] at this
          exact this.symm
        obtain ⟨sa, hsa⟩ := some_of_lt (har rfl rfl h5) (n := 0) (by omega)
        refine ldX h5 94 (x := c.step) ?_
        refine ifB_beq (fun s0 => ?_) fun s0 => ?_
        · rw [if_pos s0] at fin finM
          refine ldB hbk (o := 0) (i := 1) (x := o.part) ?_
          refine bsB h5 (cs := [.int .i64 o.part]) (e := T_int) (fun w => by kernel_rfl) fun g2 w5 h6 => ?_
          have h7 : Sat W w5 (ClL b c p (Blk g1 o.cells T_api_Op :: Blk g2 [.int .i64 o.part] T_int :: l)) := h6.sel 15 [1, 2, 3, 4, 5, 6, 7, 8, 9, 10, 11, 12, 13, 14, 0]
          refine settle_ok (x := ⟨some ⟨g2, 0, none⟩, 1, 1⟩) (ps := [o.part]) h7 (rdBlk h6 rfl) (by show 1 < 9223372036854775807; omega) (by intro k hk; simp at hk; subst hk; exact ⟨o1, o2⟩) g.out gp g.targets ga (fun hs => tyI ?_) fun w6 hf h8 => tyI ?_
          · rw [if_neg (by rw [hs]; simp)] at fin finM
            simp only [ifB_true]
            have h8 : Sat W w5.drew (ClL b c p (Blk g1 o.cells T_api_Op :: Blk g2 [.int .i64 o.part] T_int :: l)) := h7.drew
            have hs6 : ∀ {w : World} {c' : Cl} {q : ClP} {L : List Res}, Sat W w (ClL b c' q (Blk g1 o.cells T_api_Op :: L)) → c'.att = c.att → q.att = p.att →
                At W g1 1 (.int .i64 o.part) w ∧ At W b 87 p.att.v w ∧ w.cell? (sa.add (o.part.toNat * 1)) = some (.int .i64 (geti c.att o.part)) := fun {w c' q L} h f1 f3 =>
              ⟨⟨_, _, _, Sat.up (L := ClL b c' q (Blk g1 o.cells T_api_Op :: L)) h 13, rfl⟩, ⟨_, _, _, h, by rw [← f3]; rfl⟩, by rw [Nat.mul_one]; exact (har f1 f3 h).2.2.2 sa hsa _ _ (geti_at (by omega))⟩
            refine ⟨fun w => At W g1 1 (.int .i64 o.part) w ∧ At W b 87 p.att.v w ∧ w.cell? (sa.add (o.part.toNat * 1)) = some (.int .i64 (geti c.att o.part)), hs6 h8 rfl rfl, ?_⟩
            refine hldY g1 1 (x := o.part) (fun _ h => h.1) ?_
            refine hldY b 87 (k := .sl) (x := p.att) (fun _ h => h.2.1) ?_
            refine hldY g1 1 (x := o.part) (fun _ h => h.1) ?_
            refine hixP et_ints hsa o1 (by omega) ?_
            refine hld (x := geti c.att o.part) (fun _ h => h.2.2) ?_
            refine ask0_okL (a := { zAq with kind := 6, part := o.part, offset := geti c.att o.part }) h8 rfl g.out gp g.targets (fun _ => ⟨o1, o2⟩) fun s' w7 h9 => tupU rfl ⟨hs6 h9 rfl rfl, ?_⟩
            exact fin rfl (h9.cut 14)
          · rw [if_pos hf] at fin finM
            simp only [ifB_false]
            exact finM rfl (h8.cut 2)
        · rw [if_neg s0] at fin finM
          refine ifB_beq (fun s1 => ?_) fun s1 => ?_
          · rw [if_pos s1] at fin finM
            refine ldX h5 3 (x := c.parts) ?_
            refine prep_ok (n := nx c.parts) h5 g.out gp g.targets g.added (fun hr hp => tyI ?_) fun p2 w6 q1 q2 hf h6 => tyI ?_
            · rw [if_neg (by rw [hp]; simp)] at fin finM
              simp only [ifB_true]
              have h6 := h5.drew
              have hs6 : ∀ {w : World} {c' : Cl} {q : ClP} {L : List Res}, Sat W w (ClL b c' q (Blk g1 o.cells T_api_Op :: L)) → q.values = p.values → At W g1 2 (.int .i64 o.to) w ∧ At W b 93 p.values.v w := fun {w c' q L} h f =>
                ⟨⟨_, _, _, Sat.up (L := ClL b c' q (Blk g1 o.cells T_api_Op :: L)) h 13, rfl⟩, ⟨_, _, _, h, by rw [← f]; rfl⟩⟩
              refine ⟨fun w => At W g1 2 (.int .i64 o.to) w ∧ At W b 93 p.values.v w, hs6 h6 rfl, ?_⟩
              refine hldY g1 2 (x := o.to) (fun _ h => h.1) ?_
              refine hldY b 93 (k := .sl) (x := p.values) (fun _ h => h.2) ?_
              have hvr : Rd W (ClL b c p (Blk g1 o.cells T_api_Op :: l)) p.values 1 (c.values.map vT) := fun w' h' => by
                have hs : Sat W w' (SlR T_string 1 p.values (c.values.map vT) :: _) := Sat.up (L := ClL b c p (Blk g1 o.cells T_api_Op :: l)) h' 12
                exact hs.rdc
              exact send_ok h6 hvr g.values o3 o4 g fun p' w7 q1 q2 h7 => tupU rfl ⟨hs6 h7 q1, fin rfl h7⟩
            · rw [if_pos hf] at fin finM
              simp only [ifB_false]
              exact fin rfl h6
          · rw [if_neg s1] at fin finM
            refine ifB_beq (fun s2 => ?_) fun s2 => ?_
            · rw [if_pos s2] at fin finM
              have hnx := g.next (.inr (.inl s2))
              have h6 := h5.drew
              have hp1 : nx c.parts = c.parts + 1 := w_i64 (by omega) (by omega)
              have hnr : ∀ {w : World} {c' : Cl} {q : ClP} {L : List Res}, c'.next = c.next → q.next = p.next → Sat W w (ClL b c' q L) → RdC w p.next 1 (c.next.map vI) := fun {w c' q L} e eq h => by
                have hr : Sat W w (SlR T_int 1 q.next (c'.next.map vI) :: _) := Sat.up (L := ClL b c' q L) h 8
                rw [e, eq] at hr
                exact hr.rdc
              have hnl : p.next.len = c.next.length := by
                have := (hnr rfl rfl h6).1
                simp only [List.length_map, Nat.mul_one] at this
                exact this.symm
              obtain ⟨sn, hsn⟩ := some_of_lt (hnr rfl rfl h6) (n := 0) (by omega)
              let S2 : World → Prop := fun w => ∃ (c' : Cl) (q : ClP) (L : List Res), Sat W w (ClL b c' q (Blk g1 o.cells T_api_Op :: L)) ∧ c'.gen = c.gen ∧ c'.offset = c.offset ∧ c'.pid = c.pid ∧ c'.epoch = c.epoch ∧ c'.parts = c.parts ∧ c'.next = c.next ∧ q.next = p.next
              have hS2 : ∀ {w : World} {c' : Cl} {q : ClP} {L : List Res}, Sat W w (ClL b c' q (Blk g1 o.cells T_api_Op :: L)) → c'.gen = c.gen → c'.offset = c.offset → c'.pid = c.pid → c'.epoch = c.epoch → c'.parts = c.parts → c'.next = c.next → q.next = p.next → S2 w := fun h a1 a2 a3 a4 a5 a6 a7 => ⟨_, _, _, h, a1, a2, a3, a4, a5, a6, a7⟩
              refine ⟨S2, hS2 h6 rfl rfl rfl rfl rfl rfl rfl, ?_⟩
              refine hldY b 85 (x := c.gen) (fun _ ⟨_, _, _, h, a1, a2, a3, a4, a5, a6, a7⟩ => ⟨_, _, _, h, by rw [← a1]; rfl⟩) ?_
              refine hldY g1 1 (x := o.part) (fun _ ⟨c', q, L, h, _⟩ => ⟨_, _, _, Sat.up (L := ClL b c' q (Blk g1 o.cells T_api_Op :: L)) h 13, rfl⟩) ?_
              refine hldY b 92 (x := c.offset) (fun _ ⟨_, _, _, h, a1, a2, a3, a4, a5, a6, a7⟩ => ⟨_, _, _, h, by rw [← a2]; rfl⟩) ?_
              refine hldY b 78 (k := .int .u64) (x := c.pid) (fun _ ⟨_, _, _, h, a1, a2, a3, a4, a5, a6, a7⟩ => ⟨_, _, _, h, by rw [← a3]; rfl⟩) ?_
              refine hldY b 79 (x := c.epoch) (fun _ ⟨_, _, _, h, a1, a2, a3, a4, a5, a6, a7⟩ => ⟨_, _, _, h, by rw [← a4]; rfl⟩) ?_
              refine hldY b 78 (k := .int .u64) (x := c.pid) (fun _ ⟨_, _, _, h, a1, a2, a3, a4, a5, a6, a7⟩ => ⟨_, _, _, h, by rw [← a3]; rfl⟩) ?_
              refine hldY b 79 (x := c.epoch) (fun _ ⟨_, _, _, h, a1, a2, a3, a4, a5, a6, a7⟩ => ⟨_, _, _, h, by rw [← a4]; rfl⟩) ?_
              refine hldY b 83 (k := .sl) (x := p.next) (fun _ ⟨_, _, _, h, a1, a2, a3, a4, a5, a6, a7⟩ => ⟨_, _, _, h, by rw [← a7]; rfl⟩) ?_
              refine hldY b 3 (x := c.parts) (fun _ ⟨_, _, _, h, a1, a2, a3, a4, a5, a6, a7⟩ => ⟨_, _, _, h, by rw [← a5]; rfl⟩) ?_
              have hp2 : IntKind.i64.wrap (c.parts + 1) = nx c.parts := rfl
              rw [hp2]
              refine hixP et_ints hsn (by omega) (by omega) ?_
              refine hld (x := geti c.next (nx c.parts)) (fun w ⟨c', q, L, h, a1, a2, a3, a4, a5, a6, a7⟩ => by rw [Nat.mul_one]; exact (hnr a6 a7 h).2.2.2 sn hsn _ _ (geti_at (by omega))) ?_
              refine bsB h6 (cs := [.slice none 0 0]) (e := T_sl_uint8) (fun w => by kernel_rfl) fun g2 w7 h7 => ?_
              have h8 : Sat W w7 (Blk g2 (elV.cells (⟨none, 0, 0⟩, [])) T_sl_uint8 :: ClL b c p (Blk g1 o.cells T_api_Op :: l)) := h7
              have h9 : Sat W w7 (SlR T_sl_uint8 1 ⟨some ⟨g2, 0, none⟩, 1, 1⟩ (elV.flat [(⟨none, 0, 0⟩, [])]) :: ClL b c p (Blk g1 o.cells T_api_Op :: l)) := h8.mkSlr rfl (by simp) (by simp) (by simp [elV]) rfl (elV.one _)
              have h10 : Sat W w7 (OwnS elV ⟨some ⟨g2, 0, none⟩, 1, 1⟩ [(⟨none, 0, 0⟩, [])] :: ClL b c p (Blk g1 o.cells T_api_Op :: l)) := by
                refine sat_own.2 ?_
                have := Sat.nilSlr h9 T_uint8 1
                exact (sat_all (l' := [BsR ⟨none, 0, 0⟩ []])).2 this |>.swap
              have h11 : Sat W w7 (ClL b c p (OwnS elV ⟨some ⟨g2, 0, none⟩, 1, 1⟩ [(⟨none, 0, 0⟩, [])] :: Blk g1 o.cells T_api_Op :: l)) := h10.sel 14 [1, 2, 3, 4, 5, 6, 7, 8, 9, 10, 11, 12, 13, 0]
              refine ⟨hS2 (c' := c) (q := p) (h7.tail) rfl rfl rfl rfl rfl rfl rfl, ?_⟩
              let a2 : Aq := { zAq with kind := 13, gen := c.gen, part := o.part, offset := c.offset, pid := c.pid, epoch := c.epoch, bp := c.pid, be := c.epoch, bs := geti c.next (nx c.parts), bt := true, vals := [[]] }
              refine ⟨.agg (a2.cells ⟨some ⟨g2, 0, none⟩, 1, 1⟩).toArray, fun w _ => by kernel_rfl, ?_⟩
              have hin := put_in (c := c) (a := a2) gp g.targets (by rintro (h | h) <;> cases h)
              exact ask_okL (a := a2) h11 rfl g.out hin.1 hin.2 fun s' w8 h12 => tupU rfl ⟨hS2 h12 rfl rfl rfl rfl rfl rfl rfl, fin rfl h12⟩
            · rw [if_neg s2] at fin finM
              have h6 : Sat W w3.drew (ClM b c :: Blk g1 o.cells T_api_Op :: l) := sat_cl.2 ⟨p, h5⟩
              refine end_ok (m := true) h6 g fun w7 h7 => tupU rfl ?_
              obtain ⟨q, h8⟩ := sat_cl.1 h7
              have h9 := h8.drew
              have eatt : (c.endT true).att.length = c.parts.toNat := by
                unfold Cl.endT
                split
                · exact ga
                · exact ga
              have hs6 : ∀ {w : World} {c' : Cl} {L : List Res}, Sat W w (ClL b c' q (Blk g1 o.cells T_api_Op :: L)) → At W g1 1 (.int .i64 o.part) w ∧ At W b 87 q.att.v w := fun {w c' L} h =>
                ⟨⟨_, _, _, Sat.up (L := ClL b c' q (Blk g1 o.cells T_api_Op :: L)) h 13, rfl⟩, ⟨_, _, _, h, rfl⟩⟩
              refine ⟨fun w => At W g1 1 (.int .i64 o.part) w ∧ At W b 87 q.att.v w, hs6 h9, ?_⟩
              refine hldY b 87 (k := .sl) (x := q.att) (fun _ h => h.2) ?_
              refine hldY g1 1 (x := o.part) (fun _ h => h.1) ?_
              have hr : Sat W w7.drew (SlR T_int 1 q.att ((c.endT true).att.map vI) :: _) := Sat.up (L := ClL b (c.endT true) q (Blk g1 o.cells T_api_Op :: l)) h9 10
              have hql : (c.endT true).att.length = q.att.len := (Sat.isLen hr).1
              obtain ⟨sq, hsq⟩ := slSome hr (by omega)
              refine hixP et_ints hsq o1 (by omega) ?_
              refine stSl hr hsq (by omega) fun w8 h10 => ?_
              have e : ((c.endT true).att.map vI).set o.part.toNat (.int .i64 (-1)) = (seti (c.endT true).att o.part (-1)).map vI := by
                unfold seti; rw [List.map_set]; rfl
              rw [e] at h10
              have h11 : Sat W w8 (ClL b { c.endT true with att := seti (c.endT true).att o.part (-1) } q (Blk g1 o.cells T_api_Op :: l)) := h10.dn 10
              exact ⟨hs6 h11, fin rfl h11⟩
      · rw [if_pos hm] at fin finM
        rw [decide_eq_false hm]
        simp only [Bool.not_false, ifB_true]
        refine stX h5 94 fun w5 h6 => ?_
        refine ldX h6 8 (x := c.op) ?_
        refine stX h6 8 fun w6 h7 => ?_
        exact fin (c' := { c with step := 0, op := nx c.op }) (p' := p) rfl h7
    · refine ldX h3 94 (x := c.step) ?_
      refine ifB_beq (fun s0 => ?_) fun s0 => ⟨fun hh => s0 hh.1, h3⟩
      refine settle_ok (x := ⟨none, 0, 0⟩) (ps := []) h3 ⟨rfl, Nat.le_refl _, fun _ => rfl, fun a ha => by cases ha⟩ (by show 0 < 9223372036854775807; omega) (by intro k hk; cases hk) g.out gp g.targets ga (fun hs => tyI ?_) fun w6 hf h8 => tyI ?_
      · have hj := settle_nil (c := c)
        rw [hs] at hj
        refine ⟨fun hh => ?_, h3⟩
        rw [hh.2] at hj; cases hj
      · rw [settle_nil] at hf
        rw [if_pos ⟨s0, hf⟩] at fin finM
        simp only [Bool.not_false, ifB_true]
        exact finM rfl h8
  · have h3 := h2.drew
    refine ldX h3 81 (x := c.opn) ?_
    refine ifB_dec (fun n1 => ?_) fun n1 => ⟨fun hh => n1 hh.1, h3⟩
    refine ldX h3 80 (x := c.begin) ?_
    refine ldX h3 8 (x := c.op) ?_
    refine ifB_bne (fun n2 => ?_) fun n2 => ⟨fun hh => hh.2 n2, h3⟩
    rw [if_pos ⟨n1, n2⟩] at fin finM
    refine tell_ok (s := { zSn with kind := 4, e := 5 }) (sat_cl.2 ⟨p, h3⟩) (by omega) fun w4 h4 => tupU rfl ?_
    obtain ⟨q, h5⟩ := sat_cl.1 h4
    refine ldX h5 8 (x := c.op) ?_
    refine stX h5 8 fun w5 h6 => ?_
    exact fin (c' := { c.tell { zSn with kind := 4, e := 5 } with op := nx c.op }) (p' := q) rfl h6
end
end Go.Proofs.Ytajhdjjmhfbhgaa
