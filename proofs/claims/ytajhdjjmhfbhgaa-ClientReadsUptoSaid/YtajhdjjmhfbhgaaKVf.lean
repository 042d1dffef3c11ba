/- Layer 19: something happens to a client: all is well; the law ClientAsks. -/
import Derived.Test.YtajhdjjmhfbhgaaKVe
namespace Go.Proofs.Ytajhdjjmhfbhgaa
open Go Go.Pk
/-- the hold has looked at all that was seen -/
structure Fit (f : Fx) (hs : Hs) (c : Cl) : Prop where
  sn : hs.sn = c.seen.length
  lk : lookS f.number f.ops.length (0, false) c.seen = some (hs.op, hs.dn)
  dn : hs.dn = c.done
  out : c.out = none
theorem nset {cs : List Value} {i j : Nat} {v u : Value} (hne : i ≠ j) (h : cs[j]? = some u) : (cs.set i v)[j]? = some u := by rw [List.getElem?_set_ne hne]; exact h
theorem RpC.set0 {cs : List Value} {m : Rp} (h : RpC cs m) (x : Int) : RpC (cs.set 0 (.int .i64 x)) { m with kind := x } :=
  ⟨by rw [List.length_set]; exact h.len, by rw [List.getElem?_set_self (by have := h.len; omega)], nset (by decide) h.corr, nset (by decide) h.er, nset (by decide) h.offset, nset (by decide) h.inc, nset (by decide) h.pid, nset (by decide) h.epoch, nset (by decide) h.commit, nset (by decide) h.gen, nset (by decide) h.ms, nset (by decide) h.bs, nset (by decide) h.av, nset (by decide) h.high⟩
theorem RpC.set3 {cs : List Value} {m : Rp} (h : RpC cs m) (x : Int) : RpC (cs.set 3 (.int .i64 x)) { m with corr := x } :=
  ⟨by rw [List.length_set]; exact h.len, nset (by decide) h.kind, by rw [List.getElem?_set_self (by have := h.len; omega)], nset (by decide) h.er, nset (by decide) h.offset, nset (by decide) h.inc, nset (by decide) h.pid, nset (by decide) h.epoch, nset (by decide) h.commit, nset (by decide) h.gen, nset (by decide) h.ms, nset (by decide) h.bs, nset (by decide) h.av, nset (by decide) h.high⟩
theorem RpC.set48 {cs : List Value} {m : Rp} (h : RpC cs m) (x : Int) : RpC (cs.set 48 (.int .i64 x)) { m with inc := x } :=
  ⟨by rw [List.length_set]; exact h.len, nset (by decide) h.kind, nset (by decide) h.corr, nset (by decide) h.er, nset (by decide) h.offset, by rw [List.getElem?_set_self (by have := h.len; omega)], nset (by decide) h.pid, nset (by decide) h.epoch, nset (by decide) h.commit, nset (by decide) h.gen, nset (by decide) h.ms, nset (by decide) h.bs, nset (by decide) h.av, nset (by decide) h.high⟩
theorem RpC.set47 {cs : List Value} {m : Rp} (h : RpC cs m) (x : Int) : RpC (cs.set 47 (.int .i64 x)) m :=
  ⟨by rw [List.length_set]; exact h.len, nset (by decide) h.kind, nset (by decide) h.corr, nset (by decide) h.er, nset (by decide) h.offset, nset (by decide) h.inc, nset (by decide) h.pid, nset (by decide) h.epoch, nset (by decide) h.commit, nset (by decide) h.gen, nset (by decide) h.ms, nset (by decide) h.bs, nset (by decide) h.av, nset (by decide) h.high⟩
theorem RpC.set46 {cs : List Value} {m : Rp} (h : RpC cs m) (x : Int) : RpC (cs.set 46 (.int .i64 x)) { m with offset := x } :=
  ⟨by rw [List.length_set]; exact h.len, nset (by decide) h.kind, nset (by decide) h.corr, nset (by decide) h.er, by rw [List.getElem?_set_self (by have := h.len; omega)], nset (by decide) h.inc, nset (by decide) h.pid, nset (by decide) h.epoch, nset (by decide) h.commit, nset (by decide) h.gen, nset (by decide) h.ms, nset (by decide) h.bs, nset (by decide) h.av, nset (by decide) h.high⟩
section
variable {W w : World} {l : List Res} {K : Value → World → Prop} {b g : Nat} {c : Cl} {cf : Cf} {n : Int} {p : Pr} {hs : Hs} {N N' : Nat} {k : Int} {fit : Bool} {cs : List Value} {m : Rp}
theorem Inv.snt {f : Fx} {sn : List Sn} (q : Inv f sn N c) {t : Int} (h : c.out = some t) : Snt f c { c.asked with to := t } ∧ c.done = false := by
  obtain ⟨hw, h1, h2⟩ := q.ot t h
  obtain ⟨w1, _, _, w4, w5, w6, w7, w8, w9⟩ := q.wt hw
  have x := q.fx
  refine ⟨⟨w4, w5.trans x.1, ⟨h1, by rw [← x.2.2.1]; exact h2⟩, w6.trans x.2.1, w9.trans x.2.1, w7, w8.trans x.2.2.2.2.1⟩, w1⟩
/-- what is sent is looked at, and then the trace -/
theorem tells_ok {s vs : Sl} {c2 : Cl} (h : Sat W w (SlR T_api_Msg 59 s (outL c2 vs) :: Blk g (hcells cf n b hs) T_penstocklaw19_hold :: ClM b { c2 with out := none } :: l)) (hr : CfRd W l cf) (hp : cf.cl[n.toNat]? = some p) (hn : 0 ≤ n ∧ n < 4) (hf : (fxOf cf n p).ok)
    (hq : Fit (fxOf cf n p) hs c) (q2 : Inv (fxOf cf n p) c.seen N' c2) (hN : N' ≤ 1000000000000)
    (hK : ∀ hs' w', Fit (fxOf cf n p) hs' { c2 with out := none } → Inv (fxOf cf n p) { c2 with out := none }.seen N' { c2 with out := none } → Sat W w' (Blk g (hcells cf n b hs') T_penstocklaw19_hold :: ClM b { c2 with out := none } :: l) → K (.bool true) w') :
    CallP P F_law19_hold_sends [(.pointer (some ⟨g, 0, none⟩)), s.v] w fun (v43 : Value) w44 =>
     TyP .bool v43 fun (b45 : Bool) =>
      ifB b45
       (CallP P F_law19_hold_looks [(.pointer (some ⟨g, 0, none⟩))] w44 fun (v46 : Value) w47 =>
        TyP .bool v46 fun (b48 : Bool) =>
         K (.bool b48) w47)
       (K (.bool false) w44) := by
  have hnd : 1 ≤ cf.nodes ∧ cf.nodes ≤ 5 := hf.nodes
  obtain ⟨evs, he⟩ := q2.pre
  have x := q2.fx
  obtain ⟨o1, o2, o, o3, o4⟩ := q2.po
  have hlk : lookS n p.ol.length (hs.op, hs.dn) evs = some (o, c2.done) := by
    have e1 : c2.number = n := x.2.1
    have e2 : c2.ops = p.ol := x.2.2.2.2.2
    rw [e1, e2, he, lookS_app] at o3
    have e3 : lookS n p.ol.length (0, false) c.seen = some (hs.op, hs.dn) := hq.lk
    rw [e3] at o3
    exact o3
  have fin : ∀ (hs1 : Hs) w', hs1.sn = hs.sn → hs1.op = hs.op → hs1.dn = hs.dn → Sat W w' (Blk g (hcells cf n b hs1) T_penstocklaw19_hold :: ClM b { c2 with out := none } :: l) →
      CallP P F_law19_hold_looks [(.pointer (some ⟨g, 0, none⟩))] w' fun (v46 : Value) w47 => TyP .bool v46 fun (b48 : Bool) => K (.bool b48) w47 := by
    intro hs1 w' a1 a2 a3 h'
    refine looks_ok (c := { c2 with out := none }) (sn := c.seen) (evs := evs) (o := o) h' hr hp hn x.2.1 x.2.2.2.2.2 o1 he (a1.trans hq.sn) (by show c2.seen.length ≤ _; have := q2.seen; omega) (by rw [a2, a3]; exact hlk) fun w2 h2 => tyI (k := .bool) ?_
    refine hK _ w2 ⟨rfl, ?_, rfl, rfl⟩ ?_ h2
    · show lookS n p.ol.length (0, false) c2.seen = some (o, c2.done)
      have e1 : c2.number = n := x.2.1
      have e2 : c2.ops = p.ol := x.2.2.2.2.2
      rw [← e1, ← e2]
      exact o3
    · have q3 := q2.taken
      exact ⟨q3.fx, q3.tg, q3.pl, q3.po, q3.nx, q3.wt, q3.vl, q3.ot, q3.seen, q3.added, [], by simp⟩
  cases ho : c2.out with
  | none =>
    have h0 : s.len = 0 := by
      have e := h.slLen.1
      rw [show outL c2 vs = [] from by unfold outL; rw [ho]] at e
      simp at e; omega
    refine sends_none h.tail h0 (tyI (k := .bool) ?_)
    simp only [ifB_true]
    exact fin hs w rfl rfl rfl h.tail
  | some t =>
    have e : outL c2 vs = ({ c2.asked with to := t } : Aq).cells vs := by unfold outL; rw [ho]
    rw [e] at h
    obtain ⟨z1, z2⟩ := q2.snt ho
    have hdn : hs.dn = false := by
      cases hb : hs.dn with
      | false => rfl
      | true =>
        rw [hb] at hlk
        cases evs with
        | nil =>
          have : (hs.op, true) = (o, c2.done) := Option.some.inj hlk
          have := (Prod.mk.inj this).2
          rw [z2] at this; cases this
        | cons ev evs =>
          have := (lookS_cons hlk).1
          cases this
    refine sends_one (c := { c2 with out := none }) h.swap hr hp hn hnd.2 (by omega) hdn ⟨z1.kind, z1.frm, z1.to, z1.tx, z1.member, z1.inc, z1.group⟩ fun w2 h2 => tyI (k := .bool) ?_
    simp only [ifB_true]
    exact fin { hs with last := { c2.asked with to := t }, vs := vs, any := true } w2 rfl rfl rfl (h2.cut 1)
theorem play_ok (h : Sat W w (Blk g (hcells cf n b hs) T_penstocklaw19_hold :: ClM b c :: l)) (hr : CfRd W l cf) (hp : cf.cl[n.toNat]? = some p) (hn : 0 ≤ n ∧ n < 4) (hf : (fxOf cf n p).ok) (hq : Fit (fxOf cf n p) hs c) (q : Inv (fxOf cf n p) c.seen N c)
    (hm : RpC cs m) (hrd : RpRd W l m) (hml : m.bl.length ≤ 1000000000 ∧ vtot m.bl ≤ 1000000000 ∧ m.al.length ≤ 1000000000) (hv : ∀ d ∈ m.bl, ∀ v ∈ d.bs, v.length ≤ 140737488355328) (hN : N + vtot m.bl + 24 ≤ 1000000000000) (hone : ∀ u ∈ cs, u.oneCell' = true)
    (hK : ∀ hs' c' w', Fit (fxOf cf n p) hs' c' → Inv (fxOf cf n p) c'.seen (N + vtot m.bl + 24) c' → Sat W w' (Blk g (hcells cf n b hs') T_penstocklaw19_hold :: ClM b c' :: l) → K (.bool true) w') :
    CallP P F_law19_hold_play [.pointer (some ⟨g, 0, none⟩), .agg (.int .i64 k :: .bool fit :: cs).toArray] w K := by
  apply c_law19_hold_play
  unfold S_law19_hold_play
  have hcl := hm.len
  refine boxB h fun a w1 h1 => ?_
  have h1 : Sat W w1 (Blk a (.int .i64 k :: .bool fit :: cs) T_penstocklaw19_Op :: Blk g (hcells cf n b hs) T_penstocklaw19_hold :: ClM b c :: l) := h1
  refine ⟨fun t w' => ∃ (c2 : Cl) (vs : Sl), Inv (fxOf cf n p) c.seen (N + vtot m.bl + 24) c2 ∧ Sat W w' (SlR T_api_Msg 59 t.1 (outL c2 vs) :: Blk g (hcells cf n b hs) T_penstocklaw19_hold :: ClM b { c2 with out := none } :: l), ?_, ?_⟩
  · rintro ⟨s, u⟩ w2 ⟨c2, vs, q2, h2⟩
    exact tells_ok h2 hr hp hn hf hq q2 (by omega) fun hs' w' a1 a2 a3 => hK hs' _ w' a1 a2 a3
  · have hg := q.good hf (by omega) hq.out
    have h1g := h1.swap
    refine ldX h1 0 (x := k) ?_
    refine ifB_beq (fun _ => ?_) fun _ => ?_
    · refine ldX h1g 5 (k := .ptr) (x := some ⟨b, 0, none⟩) ?_
      have h2 : Sat W w1 (ClM b c :: Blk g (hcells cf n b hs) T_penstocklaw19_hold :: l) := (h1.cut 0).swap
      refine tick_ok h2 hg (fun hw => q.partOf hf hw) fun pp w3 h3 => tyI (k := .sl) ?_
      exact ⟨c.tick, pp.vs, (q.tick hf).mono (by omega), (show Sat W w3 (ClM b { c.tick with out := none } :: SlR T_api_Msg 59 pp.out (outL c.tick pp.vs) :: Blk g (hcells cf n b hs) T_penstocklaw19_hold :: l) from sat_cl.2 ⟨_, h3.sel 14 [1, 2, 3, 4, 5, 6, 7, 8, 9, 10, 11, 12, 13, 0]⟩).sel 3 [1, 2, 0]⟩
    · refine ifB_beq (fun _ => ?_) fun _ => ?_
      · refine ldAggX 2 59 h1 ?_ (by show 2 + 59 ≤ cs.length + 2; omega)
        have e : ((.int .i64 k :: .bool fit :: cs : List Value).drop 2).take 59 = cs := by
          show cs.take 59 = cs
          rw [List.take_of_length_le (by omega)]
        rw [e]
        refine newAgg (z := zAq.cells ⟨none, 0, 0⟩) h1 hone (hl := by rw [hcl]; rfl) (ht := by rw [hcl]; kernel_rfl) fun mb w3 h3 => ?_
        refine stX h3 0 (hi := by omega) fun w4 h4 => ?_
        have hm0 := hm.set0 15
        refine ⟨fun _ w' => ∃ (m2 : Rp) (cs2 : List Value), RpC cs2 m2 ∧ RpRd W l m2 ∧ m2.bl = m.bl ∧ m2.al = m.al ∧ Sat W w' (Blk mb cs2 T_api_Msg :: Blk a (.int .i64 k :: .bool fit :: cs) T_penstocklaw19_Op :: Blk g (hcells cf n b hs) T_penstocklaw19_hold :: ClM b c :: l), ?_, ?_⟩
        · rintro _ w5 ⟨m2, cs2, hm2, hr2, eb, ea, h5⟩
          let S : World → Prop := fun w => ∃ L, Sat W w (Blk mb cs2 T_api_Msg :: Blk g (hcells cf n b hs) T_penstocklaw19_hold :: L)
          have h6 : Sat W w5.drew (Blk mb cs2 T_api_Msg :: Blk g (hcells cf n b hs) T_penstocklaw19_hold :: ClM b c :: l) := h5.drew.cut 1
          refine ⟨S, ⟨_, h6⟩, ?_⟩
          refine hldX (S := S) (fun w ⟨L, h⟩ => ⟨_, h.swap⟩) 5 (k := .ptr) (x := some ⟨b, 0, none⟩) ?_
          refine hldAggB (S := S) (cs := cs2) (fun w ⟨L, h⟩ => ⟨_, h⟩) (by rw [hm2.len]; kernel_rfl) ?_
          have h7 : Sat W w5.drew (ClM b c :: Blk mb cs2 T_api_Msg :: Blk g (hcells cf n b hs) T_penstocklaw19_hold :: l) := h6.sel 3 [2, 0, 1]
          have hN2 : N ≤ 1000000000000 := by omega
          have qh : Inv (fxOf cf n p) c.seen (N + vtot m.bl + 24) (c.handle m2) := by
            have := q.handle (m := m2) hf hq.out (by rw [eb]; exact hv) (by omega)
            rw [eb] at this
            exact this
          refine handle_ok h7 hm2 hr2.cons.cons hg q.waits (by rw [eb, ea]; exact hml) ?_ (fun w8 ho h8 => tyI (k := .sl) (x := ⟨none, 0, 0⟩) ?_) fun pp w8 h8 => tyI (k := .sl) ?_
          · intro hwt j hj c1 hc1 hw1 hd1
            have qf := Inv.decides hf j _ _ (q.first (m := m2) hf hwt hq.out (by rw [eb]; exact hv) hN2)
            rw [← hc1] at qf
            exact qf.good hf (by rw [eb]; omega) (qf.noOut hw1)
          · have h9 := Sat.nilSlr h8 T_api_Msg 59
            have h9 : Sat W w8 (SlR T_api_Msg 59 ⟨none, 0, 0⟩ [] :: ClM b (c.handle m2) :: Blk mb cs2 T_api_Msg :: Blk g (hcells cf n b hs) T_penstocklaw19_hold :: l) := h9
            have e1 : ({ c.handle m2 with out := none } : Cl) = c.handle m2 := by rw [← ho]
            have e2 : outL (c.handle m2) ⟨none, 0, 0⟩ = [] := by unfold outL; rw [ho]
            refine ⟨⟨_, h9.sel 4 [2, 3, 0, 1]⟩, c.handle m2, ⟨none, 0, 0⟩, qh, ?_⟩
            rw [e1, e2]
            exact h9.sel 4 [0, 3, 1]
          · have h9 : Sat W w8 (SlR T_api_Msg 59 pp.out (outL (c.handle m2) pp.vs) :: ClL b { c.handle m2 with out := none } { pp with out := ⟨none, 0, 0⟩ } (Blk mb cs2 T_api_Msg :: Blk g (hcells cf n b hs) T_penstocklaw19_hold :: l)) := h8
            have h10 : Sat W w8 (ClM b { c.handle m2 with out := none } :: SlR T_api_Msg 59 pp.out (outL (c.handle m2) pp.vs) :: Blk mb cs2 T_api_Msg :: Blk g (hcells cf n b hs) T_penstocklaw19_hold :: l) := sat_cl.2 ⟨_, h9.sel 14 [1, 2, 3, 4, 5, 6, 7, 8, 9, 10, 11, 12, 13, 0]⟩
            exact ⟨⟨_, h10.sel 4 [2, 3, 0, 1]⟩, c.handle m2, pp.vs, qh, h10.sel 4 [1, 3, 0]⟩
        · have h5 : Sat W w4 (Blk mb (cs.set 0 (.int .i64 15)) T_api_Msg :: Blk a (.int .i64 k :: .bool fit :: cs) T_penstocklaw19_Op :: Blk g (hcells cf n b hs) T_penstocklaw19_hold :: ClM b c :: l) := h4
          have hr0 : RpRd W l { m with kind := 15 } := ⟨hrd.mi, hrd.bl, hrd.vs, hrd.al⟩
          refine ldX (h5.up 1) 1 (k := .bool) (x := fit) ?_
          refine ifB_intro (fun _ => ?_) fun _ => ⟨_, _, hm0, hr0, rfl, rfl, h5⟩
          have h5h : Sat W w4 (Blk g (hcells cf n b hs) T_penstocklaw19_hold :: Blk mb (cs.set 0 (.int .i64 15)) T_api_Msg :: Blk a (.int .i64 k :: .bool fit :: cs) T_penstocklaw19_Op :: ClM b c :: l) := h5.sel 4 [2, 0, 1, 3]
          refine ldX h5h 65 (k := .bool) (x := hs.any) ?_
          refine ifB_intro (fun _ => ?_) fun _ => ⟨_, _, hm0, hr0, rfl, rfl, h5⟩
          refine ldX h5h 9 (x := hs.last.corr) ?_
          refine stX h5 3 (hi := by rw [hm0.len]; decide) fun w5 h6 => ?_
          have hm1 := hm0.set3 hs.last.corr
          have h6h := h6.up 2
          refine ldX h6h 54 (x := hs.last.inc) ?_
          refine stX h6 48 (hi := by rw [hm1.len]; decide) fun w6 h7 => ?_
          have hm2 := hm1.set48 hs.last.inc
          have h7h := h7.up 2
          refine ldX h7h 53 (x := hs.last.tx) ?_
          refine stX h7 47 (hi := by rw [hm2.len]; decide) fun w7 h8 => ?_
          exact ⟨_, _, hm2.set47 hs.last.tx, ⟨hrd.mi, hrd.bl, hrd.vs, hrd.al⟩, rfl, rfl, h8⟩
      · refine ldX h1g 5 (k := .ptr) (x := some ⟨b, 0, none⟩) ?_
        have h2 : Sat W w1 (ClM b c :: Blk g (hcells cf n b hs) T_penstocklaw19_hold :: l) := (h1.cut 0).swap
        have hpp := q.pp hf
        refine anew_ok h2 (by omega) hpp.2 fun w3 h3 => tupU rfl ?_
        exact ⟨c.anew, ⟨none, 0, 0⟩, (q.anew hf).mono (by omega), (Sat.nilSlr h3 T_api_Msg 59).sel 3 [0, 2, 1]⟩
end
end Go.Proofs.Ytajhdjjmhfbhgaa
