/- Layer 19: the law's look at a trace. -/
import Derived.Test.YtajhdjjmhfbhgaaKVd
namespace Go.Proofs.Ytajhdjjmhfbhgaa
open Go Go.Pk
theorem flat_dropE {α : Type} {E : El α} : ∀ (xs ys : List α), (E.flat (xs ++ ys)).drop (xs.length * E.sz) = E.flat ys := by
  intro xs ys
  rw [flat_app, List.drop_append_of_le_length (by rw [flat_length]; exact Nat.le_refl _), List.drop_of_length_le (by rw [flat_length]; exact Nat.le_refl _), List.nil_append]
theorem lookS_cons {n N : Int} {st : Int × Bool} {e : Sn} {evs : List Sn} {r : Int × Bool} (h : lookS n N st (e :: evs) = some r) :
    st.2 = false ∧ e.client = n ∧ 0 ≤ e.op ∧ e.op ≤ N ∧ (e.op < st.1 → e.kind = 4) ∧ lookS n N (if e.kind = 4 then 0 else e.op, decide (e.kind = 7)) evs = some r := by
  simp only [lookS] at h
  split at h
  · cases h
  · rename_i hc
    refine ⟨?_, ?_, ?_, ?_, ?_, h⟩
    · cases hb : st.2 with
      | false => rfl
      | true => exact absurd (.inl hb) hc
    · exact Classical.byContradiction fun hh => hc (.inr (.inl hh))
    · exact Classical.byContradiction fun hh => hc (.inr (.inr (.inl (by omega))))
    · exact Classical.byContradiction fun hh => hc (.inr (.inr (.inr (.inl (by omega)))))
    · intro h1
      exact Classical.byContradiction fun hh => hc (.inr (.inr (.inr (.inr ⟨h1, hh⟩))))
section
variable {W w : World} {l : List Res} {K : Value → World → Prop} {b g : Nat} {c : Cl} {cf : Cf} {n : Int} {p : Pr} {hs : Hs} {sn evs : List Sn} {o : Int}
theorem looks_ok (h : Sat W w (Blk g (hcells cf n b hs) T_penstocklaw19_hold :: ClM b c :: l)) (hr : CfRd W l cf) (hp : cf.cl[n.toNat]? = some p) (hn : 0 ≤ n ∧ n < 4) (hcn : c.number = n) (hco : c.ops = p.ol) (hop : 0 ≤ c.op ∧ c.op ≤ c.ops.length)
    (hsn : c.seen = sn ++ evs) (hl : hs.sn = sn.length) (hlen : c.seen.length ≤ 1099511627776) (hlk : lookS n p.ol.length (hs.op, hs.dn) evs = some (o, c.done))
    (hK : ∀ w', Sat W w' (Blk g (hcells cf n b { hs with sn := c.seen.length, op := o, dn := c.done }) T_penstocklaw19_hold :: ClM b c :: l) → K (.bool true) w') : CallP P F_law19_hold_looks [.pointer (some ⟨g, 0, none⟩)] w K := by
  apply c_law19_hold_looks
  unfold S_law19_hold_looks
  have hlt : n.toNat < cf.cl.length := (List.getElem?_eq_some_iff.1 hp).1
  refine ldX h 5 (k := .ptr) (x := some ⟨b, 0, none⟩) ?_
  refine trace_ok h.swap hlen fun s w1 h1 => tyI (k := .sl) ?_
  have hsl : s.len = c.seen.length := RdC.elen (E := elS) h1.rdc (by decide)
  have h1b : Sat W w1 (Blk g (hcells cf n b hs) T_penstocklaw19_hold :: SlR T_api_Seen 7 s (elS.flat c.seen) :: ClM b c :: l) := h1.sel 3 [2, 0, 1]
  refine ldX h1b 5 (k := .ptr) (x := some ⟨b, 0, none⟩) ?_
  refine state_ok h1.swap fun w2 h2 => ?_
  refine ⟨(c.op, c.inc, c.done, ()), rfl, ?_⟩
  have h3 : Sat W w2.drew (Blk g (hcells cf n b hs) T_penstocklaw19_hold :: SlR T_api_Seen 7 s (elS.flat c.seen) :: ClM b c :: l) := h2.drew.sel 3 [2, 1, 0]
  have ops : ∀ {w' : World} {hs : Hs} {t1 t2 : TypeId} {L : List Res} {K : Sl → Prop}, Sat W w' (Blk g (hcells cf n b hs) T_penstocklaw19_hold :: L) → RdC w' cf.cs 2 (elP.flat cf.cl) → (p.os.len = p.ol.length → K p.os) → RdC w' p.os 5 (elO.flat p.ol) →
      RunQ .sl P (Instr.loadAt T_sl_api_Program (.pointer (some (((⟨g, 0, none⟩ : Addr).add 0).add 3)))) w' fun (s16 : Sl) =>
        RunQ (.int .i64) P (Instr.loadAt T_int (.pointer (some ((⟨g, 0, none⟩ : Addr).add 4)))) w' fun (n18 : Int) =>
          RunQ .addr P (Instr.indexAt T_sl_api_Program s16.v (.int .i64 n18)) w' fun (a19 : Addr) =>
            RunQ .sl P (Instr.loadAt T_sl_api_Op (.pointer (some (Go.Addr.add a19 1)))) w' K := by
    intro w' hs t1 t2 L K h' hrc hk hro
    have hcs : cf.cs.len = cf.cl.length := RdC.elen (E := elP) hrc (by decide)
    refine ldX h' 3 (k := .sl) (x := cf.cs) ?_
    refine ldX h' 4 (x := n) ?_
    refine ixEl (E := elP) et_progs rfl hrc hn.1 hp (by omega) fun A2 hA2 => ?_
    refine ldC (k := .sl) (x := p.os) (hA2 1 _ rfl) ?_
    exact hk (RdC.elen (E := elO) hro (by decide))
  refine ⟨fun _ w' => Sat W w' (Blk g (hcells cf n b hs) T_penstocklaw19_hold :: SlR T_api_Seen 7 s (elS.flat c.seen) :: ClM b c :: l), ?_, ?_⟩
  · rintro _ w4 h4
    refine ldX h4 66 (x := hs.sn) ?_
    have hrc := h4.tail.rdc
    have hle : sn.length ≤ c.seen.length := by rw [hsn, List.length_append]; omega
    refine ⟨subSl s 7 hs.sn.toNat s.len, run_sliceLo et_seen (by omega) (by omega) hrc.2.1 w4, ?_⟩
    have hsub : ∀ {w' : World}, RdC w' s 7 (elS.flat c.seen) → RdC w' (subSl s 7 hs.sn.toNat s.len) 7 (elS.flat evs) := by
      intro w' h'
      have h5 := h'.sub (lo := hs.sn.toNat) (hi := s.len) (by omega) (Nat.le_refl _)
      have e1 : hs.sn.toNat = sn.length := by omega
      rw [e1] at h5 ⊢
      have e2 : (elS.flat c.seen).drop (sn.length * 7) = elS.flat evs := by rw [hsn]; exact flat_dropE (E := elS) sn evs
      rw [e2, List.take_of_length_le (by rw [flat_length]; show evs.length * 7 ≤ _; have : evs.length = s.len - sn.length := by rw [hsl, hsn, List.length_append]; omega
                                         rw [this]; exact Nat.le_refl _)] at h5
      exact h5
    have hevl : (subSl s 7 hs.sn.toNat s.len).len = evs.length := by
      show s.len - hs.sn.toNat = _
      rw [hsl, hsn, List.length_append]; omega
    refine ⟨fun z w' => ∃ (i : Nat) (o1 : Int) (d1 : Bool), z.1 = i ∧ i ≤ evs.length ∧ lookS n p.ol.length (o1, d1) (evs.drop i) = some (o, c.done) ∧ Sat W w' (Blk g (hcells cf n b { hs with op := o1, dn := d1 }) T_penstocklaw19_hold :: SlR T_api_Seen 7 s (elS.flat c.seen) :: ClM b c :: l), fun z _ => evs.length - z.1.toNat, ⟨0, hs.op, hs.dn, rfl, Nat.zero_le _, hlk, h4⟩, ?_⟩
    rintro ⟨i', u⟩ w5 ⟨i, o1, d1, hi, hil, hlk1, h5⟩
    simp only at hi ⊢
    subst hi
    refine ifB_dec (fun hlt1 => ?_) fun hge => ?_
    · have hi1 : i < evs.length := by omega
      rw [List.drop_eq_getElem_cons hi1] at hlk1
      obtain ⟨k1, k2, k3, k4, k5, k6⟩ := lookS_cons hlk1
      have k1 : d1 = false := k1
      subst k1
      generalize hev : evs[i] = e at *
      refine ixEl (E := elS) et_seen rfl (hsub h5.tail.rdc) (by omega) (x := e) (by rw [Int.toNat_natCast, List.getElem?_eq_getElem hi1, hev]) (by omega) fun A hA => ?_
      refine ldAggC (cs := e.cells) hA ?_
      refine newAgg (z := ({ zSn with kind := 0 } : Sn).cells) h5 (Sn.ones e) fun m w6 h6 => ?_
      refine ⟨fun _ w' => Sat W w' (Blk m e.cells T_api_Seen :: Blk g (hcells cf n b { hs with op := o1, dn := false }) T_penstocklaw19_hold :: SlR T_api_Seen 7 s (elS.flat c.seen) :: ClM b c :: l), ?_, ?_⟩
      · rintro _ w7 h7
        refine ⟨fun _ w' => Sat W w' (Blk m e.cells T_api_Seen :: Blk g (hcells cf n b { hs with op := if e.kind = 4 then 0 else e.op, dn := false }) T_penstocklaw19_hold :: SlR T_api_Seen 7 s (elS.flat c.seen) :: ClM b c :: l), ?_, ?_⟩
        · rintro _ w8 h8
          refine ldX h8 0 (x := e.kind) ?_
          refine stX h8.swap 69 fun w9 h9 => ?_
          have hev2 : evs.length ≤ c.seen.length := by rw [hsn, List.length_append]; omega
          rw [w_i64 (by omega) (by omega)]
          refine ⟨⟨i + 1, _, _, rfl, by omega, k6, ?_⟩, by omega⟩
          have h9 : Sat W w9 (Blk g (hcells cf n b { hs with op := if e.kind = 4 then 0 else e.op, dn := e.kind == 7 }) T_penstocklaw19_hold :: Blk m e.cells T_api_Seen :: SlR T_api_Seen 7 s (elS.flat c.seen) :: ClM b c :: l) := h9
          have eb : (e.kind == 7) = decide (e.kind = 7) := by
            rw [Bool.eq_iff_iff]; simp
          rw [eb] at h9
          exact h9.cut 1
        · refine ldX h7 0 (x := e.kind) ?_
          refine ifB_beq (fun e4 => ?_) fun e4 => ?_
          · rw [if_pos e4]
            refine stX h7.swap 67 fun w8 h8 => ?_
            exact h8.swap
          · rw [if_neg e4]
            refine ldX h7 2 (x := e.op) ?_
            refine stX h7.swap 67 fun w8 h8 => ?_
            exact h8.swap
      · have h7 := h6.drew
        have h8 := h7.swap
        refine ldX h8 69 (k := .bool) (x := false) ?_
        simp only [ifB_false]
        refine ldX h7 1 (x := e.client) ?_
        refine ldX h8 4 (x := n) ?_
        refine ifB_bne (fun hne => absurd k2 hne) fun _ => ?_
        refine ldX h7 2 (x := e.op) ?_
        refine ifB_dec (fun hlt => absurd hlt (by omega)) fun _ => ?_
        refine ldX h7 2 (x := e.op) ?_
        refine ops (t1 := 0) (t2 := 0) h8 (hr.cl _ h7.tail.tail.tail.tail) (fun hol => ?_) (hr.ol p (List.mem_of_getElem? hp) _ h7.tail.tail.tail.tail)
        refine ifB_dec (fun hlt => absurd hlt (by omega)) fun _ => ?_
        refine ldX h7 2 (x := e.op) ?_
        refine ldX h8 67 (x := o1) ?_
        refine ifB_dec (fun hlt => ?_) fun _ => h7
        refine ldX h7 0 (x := e.kind) ?_
        refine ifB_bne (fun hne => absurd (k5 hlt) hne) fun _ => h7
    · have e : i = evs.length := by omega
      subst e
      rw [List.drop_of_length_le (Nat.le_refl _)] at hlk1
      have e2 : (o1, d1) = (o, c.done) := Option.some.inj hlk1
      obtain ⟨rfl, rfl⟩ := Prod.mk.inj e2
      refine stX h5 66 fun w6 h6 => ?_
      have h6 : Sat W w6 (Blk g (hcells cf n b { hs with sn := (s.len : Int), op := o1, dn := c.done }) T_penstocklaw19_hold :: SlR T_api_Seen 7 s (elS.flat c.seen) :: ClM b c :: l) := h6
      refine ldX h6 69 (k := .bool) (x := c.done) ?_
      rw [show (c.done == c.done) = true from by cases c.done <;> rfl]
      rw [hsl] at h6
      exact hK w6 (h6.cut 1)
  · refine ldX h3 66 (x := hs.sn) ?_
    have hle : sn.length ≤ c.seen.length := by rw [hsn, List.length_append]; omega
    refine ifB_dec (fun hlt => absurd hlt (by omega)) fun _ => ?_
    refine ifB_dec (fun hlt => absurd hlt (by omega)) fun _ => ?_
    refine ops (t1 := 0) (t2 := 0) h3 (hr.cl _ h3.tail.tail.tail) (fun hol => ?_) (hr.ol p (List.mem_of_getElem? hp) _ h3.tail.tail.tail)
    refine ifB_dec (fun hlt => absurd hlt (by rw [hco] at hop; omega)) fun _ => h3
end
end Go.Proofs.Ytajhdjjmhfbhgaa
