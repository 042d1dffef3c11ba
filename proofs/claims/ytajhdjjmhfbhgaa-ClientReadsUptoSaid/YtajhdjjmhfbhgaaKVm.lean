/- Layer 19: steps of a client that writes, plain; a step of its, with what is sent. -/
import Derived.Test.YtajhdjjmhfbhgaaKVl
namespace Go.Proofs.Ytajhdjjmhfbhgaa
open Go Go.Pk
/-! plain -/
theorem decides_one {d : Cl} (h1 : d.waits = false) (h2 : d.done = false) (h3 : d.decide.waits = true ∨ d.decide.done = true) : decides 8 d = d.decide := by
  show (if d.waits = true ∨ d.done = true then d else decides 7 d.decide) = _
  rw [if_neg (by rw [h1, h2]; decide)]
  exact decides_stop h3
theorem handle_eq {c : Cl} {m : Rp} (hw : c.waits = true) (hk : m.kind = 15) (hc : m.corr = c.asked.corr) (hi : m.inc = c.inc) (he : m.er = 0) : c.handle m = decides 8 (({ c with waits := false } : Cl).answered m) := by
  unfold Cl.handle
  rw [if_neg (by rw [hw, hk, hc, hi]; simp), he, if_neg (by decide), if_neg (by decide), if_pos rfl]
theorem dec_send {c : Cl} {o : Oc} (hd : c.done = false) (hr : c.opn ≥ 0 → c.ready = true) (ho : c.ops[c.op.toNat]? = some o) (hk : o.kind = 1) : c.decide = c.send o.part [o.value] := by
  unfold Cl.decide
  rw [if_neg (by rw [hd]; decide), if_neg (by rintro ⟨h1, h2⟩; rw [hr h1] at h2; cases h2), ho]
  show c.deed o = _
  unfold Cl.deed
  rw [if_pos hk]
theorem dec_end {c : Cl} {o : Oc} {t : Bool} (hd : c.done = false) (hr : c.opn ≥ 0 → c.ready = true) (ho : c.ops[c.op.toNat]? = some o) (hk : o.kind = if t then 2 else 3) : c.decide = c.endT t := by
  unfold Cl.decide
  rw [if_neg (by rw [hd]; decide), if_neg (by rintro ⟨h1, h2⟩; rw [hr h1] at h2; cases h2), ho]
  show c.deed o = _
  unfold Cl.deed
  cases t with
  | true =>
    have hk : o.kind = 2 := hk
    rw [if_neg (by rw [hk]; decide), if_pos hk]
  | false =>
    have hk : o.kind = 3 := hk
    rw [if_neg (by rw [hk]; decide), if_neg (by rw [hk]; decide), if_pos hk]
theorem send_init {c : Cl} {part : Int} {vals : List ByteArray} (hr : c.ready = false) : c.send part vals = c.ask qInit := by
  have e : c.prepare part = (c.ask qInit, false) := by unfold Cl.prepare; rw [if_pos hr]
  unfold Cl.send
  rw [e]; rfl
theorem send_add {c : Cl} {part : Int} {vals : List ByteArray} (hr : c.ready = true) (ha : part ∉ c.added) (ho : c.opn < 0) : c.send part vals = ({ c with opn := c.epoch, begin := c.op } : Cl).ask { zAq with kind := 8, pid := c.pid, epoch := c.epoch, offset := part } := by
  have e : c.prepare part = (({ c with opn := c.epoch, begin := c.op } : Cl).ask { zAq with kind := 8, pid := c.pid, epoch := c.epoch, offset := part }, false) := by
    unfold Cl.prepare
    rw [if_neg (by rw [hr]; decide), if_neg ha, if_pos ho]
  unfold Cl.send
  rw [e]; rfl
theorem send_go {c : Cl} {part : Int} {vals : List ByteArray} (hr : c.ready = true) (ha : part ∈ c.added) : c.send part vals = c.ask { zAq with kind := 5, part := part, bp := c.pid, be := c.epoch, bs := geti c.next part, bt := true, vals := vals.map fun v => v.data.toList } := by
  have e : c.prepare part = (c, true) := by
    unfold Cl.prepare
    rw [if_neg (by rw [hr]; decide), if_pos ha]
  unfold Cl.send
  rw [e]; rfl
theorem sent_one {c : Cl} {m : Rp} (h : c.kindAt ≠ 5) : c.sent m = { c with seen := c.seen ++ sentL c c.asked.part m.offset 0 c.asked.vals, next := seti c.next c.asked.part (IntKind.i64.wrap (geti c.next c.asked.part + (c.asked.vals.length : Int))), op := nx c.op } := by
  unfold Cl.sent
  simp only [tells_eq]
  rw [if_neg h]
/-- what stays as it is while a client writes -/
def Ph (ol : List Oc) (inc : Int) (c : Cl) : Prop := c.ops = ol ∧ c.parts = 1 ∧ c.done = false ∧ c.inc = inc
/-- values to be written, and how it ends -/
structure Prog (ol : List Oc) (n : Nat) (t : Bool) : Prop where
  len : ol.length = n + 1
  pos : 0 < n
  small : n ≤ 20
  send : ∀ i, i < n → ∃ v, ol[i]? = some ⟨1, 0, 0, 0, v⟩
  last : ∃ v, ol[n]? = some ⟨if t then 2 else 3, 0, 0, 0, v⟩
def Q0 (ol : List Oc) (c : Cl) : Prop := Ph ol 0 c ∧ c.waits = true ∧ c.op = 0 ∧ c.opn = -1 ∧ c.ready = false ∧ c.asked.kind = 7 ∧ c.asked.vals = [] ∧ c.asked.inc = 0 ∧ c.seen.length = 0
def Q1 (ol : List Oc) (E : Int) (c : Cl) : Prop := Ph ol 0 c ∧ c.waits = true ∧ c.op = 0 ∧ c.opn = E ∧ c.ready = true ∧ c.pid = 7 ∧ c.epoch = E ∧ c.begin = 0 ∧ c.added = [] ∧ c.next = [0, 0, 0] ∧ c.seen.length = 0 ∧
  c.asked.kind = 8 ∧ c.asked.vals = [] ∧ c.asked.inc = 0 ∧ c.asked.pid = 7 ∧ c.asked.epoch = E ∧ c.asked.offset = 0
def Q2 (ol : List Oc) (E : Int) (k : Nat) (c : Cl) : Prop := Ph ol 0 c ∧ c.waits = true ∧ c.op = k ∧ c.opn = E ∧ c.ready = true ∧ c.pid = 7 ∧ c.epoch = E ∧ c.begin = 0 ∧ c.added = [0] ∧ c.next = [(k : Int), 0, 0] ∧ c.seen.length = k ∧
  c.asked.kind = 5 ∧ c.asked.vals.length = 1 ∧ c.asked.inc = 0 ∧ c.asked.part = 0 ∧ c.asked.be = E ∧ c.asked.bs = k
def Q3 (ol : List Oc) (E : Int) (n : Nat) (t : Bool) (c : Cl) : Prop := Ph ol 0 c ∧ c.waits = true ∧ c.op = n ∧ c.opn = E ∧ c.pid = 7 ∧ c.begin = 0 ∧ c.seen.length = n ∧
  c.asked.kind = 9 ∧ c.asked.vals = [] ∧ c.asked.inc = 0 ∧ c.asked.pid = 7 ∧ c.asked.epoch = E ∧ c.asked.commit = t
section
variable {ol : List Oc} {n k : Nat} {t : Bool} {E : Int} {c : Cl} {m : Rp}
/-- what is decided behind k values: the next one, or the end -/
theorem next_go (hp : Prog ol n t) (hk : k ≤ n) (hE : 0 ≤ E) {d : Cl} (h1 : Ph ol 0 d) (h3 : d.op = k) (h4 : d.opn = E) (h5 : d.ready = true) (h6 : d.pid = 7) (h7 : d.epoch = E) (h8 : d.begin = 0) (h9 : d.added = [0]) (h10 : d.next = [(k : Int), 0, 0]) (h11 : d.seen.length = k) :
    (k < n ∧ Q2 ol E k d.decide ∨ k = n ∧ Q3 ol E n t d.decide) ∧ d.decide.waits = true ∧ ∃ to, d.decide.out = some to := by
  obtain ⟨p1, p2, p3, p4⟩ := h1
  rcases Nat.lt_or_ge k n with hlt | hge
  · obtain ⟨v, hv⟩ := hp.send k hlt
    have e : d.decide = d.ask { zAq with kind := 5, part := 0, bp := d.pid, be := d.epoch, bs := geti d.next 0, bt := true, vals := [v].map fun v => v.data.toList } := by
      rw [dec_send (o := ⟨1, 0, 0, 0, v⟩) p3 (fun _ => h5) (by rw [p1, h3, Int.toNat_natCast]; exact hv) rfl]
      exact send_go h5 (by rw [h9]; simp)
    rw [e]
    refine ⟨.inl ⟨hlt, ⟨p1, p2, p3, p4⟩, rfl, h3, h4, h5, h6, h7, h8, h9, h10, h11, rfl, rfl, p4, rfl, h7, ?_⟩, rfl, _, rfl⟩
    show geti d.next 0 = k
    rw [h10]; rfl
  · have hkn : k = n := by omega
    obtain ⟨v, hv⟩ := hp.last
    have e : d.decide = d.ask { zAq with kind := 9, pid := d.pid, epoch := d.opn, commit := t } := by
      rw [dec_end (t := t) (o := ⟨if t then 2 else 3, 0, 0, 0, v⟩) p3 (fun _ => h5) (by rw [p1, h3, Int.toNat_natCast, hkn]; exact hv) rfl]
      unfold Cl.endT
      rw [if_neg (by rw [h4]; omega)]
    rw [e]
    exact ⟨.inr ⟨hkn, ⟨p1, p2, p3, p4⟩, rfl, by show d.op = n; omega, h4, h6, h8, by show d.seen.length = n; omega, rfl, rfl, p4, h6, h4, rfl⟩, rfl, _, rfl⟩
theorem go0 (hp : Prog ol n t) (hE : 0 ≤ E) (q : Q0 ol c) (hk : m.kind = 15) (hc : m.corr = c.asked.corr) (hi : m.inc = 0) (he : m.er = 0) (hpid : m.pid = 7) (hep : m.epoch = E) : Q1 ol E (c.handle m) ∧ ∃ to, (c.handle m).out = some to := by
  obtain ⟨⟨p1, p2, p3, p4⟩, q2, q3, q4, q5, q6, q7, q8, q9⟩ := q
  obtain ⟨v, hv⟩ := hp.send 0 hp.pos
  have e1 : ({ c with waits := false } : Cl).answered m = ({ c with waits := false, ready := true, pid := m.pid, epoch := m.epoch } : Cl).close := by
    unfold Cl.answered
    rw [if_pos q6]
    unfold Cl.given
    simp only
    rw [if_pos (by rw [q4]; decide)]
  have e2 : (({ c with waits := false, ready := true, pid := m.pid, epoch := m.epoch } : Cl).close).decide = ({ (({ c with waits := false, ready := true, pid := m.pid, epoch := m.epoch } : Cl).close) with opn := m.epoch, begin := c.op } : Cl).ask { zAq with kind := 8, pid := m.pid, epoch := m.epoch, offset := 0 } := by
    rw [dec_send (c := ({ c with waits := false, ready := true, pid := m.pid, epoch := m.epoch } : Cl).close) (o := ⟨1, 0, 0, 0, v⟩) p3 (fun _ => rfl) (by show c.ops[c.op.toNat]? = _; rw [p1, q3]; exact hv) rfl]
    exact send_add rfl (by simp [Cl.close]) (by show (-1 : Int) < 0; decide)
  have e : c.handle m = ({ (({ c with waits := false, ready := true, pid := m.pid, epoch := m.epoch } : Cl).close) with opn := m.epoch, begin := c.op } : Cl).ask { zAq with kind := 8, pid := m.pid, epoch := m.epoch, offset := 0 } := by
    rw [handle_eq q2 hk hc (by rw [hi, p4]) he, e1, decides_one (d := ({ c with waits := false, ready := true, pid := m.pid, epoch := m.epoch } : Cl).close) rfl p3 (by rw [e2]; exact .inl rfl), e2]
  rw [e]
  refine ⟨⟨⟨p1, p2, p3, p4⟩, rfl, q3, hep, rfl, hpid, hep, q3, rfl, ?_, q9, rfl, rfl, p4, hpid, hep, rfl⟩, _, rfl⟩
  show List.replicate (c.parts + 2).toNat (0 : Int) = [0, 0, 0]
  rw [p2]; rfl
theorem go1 (hp : Prog ol n t) (hE : 0 ≤ E) (q : Q1 ol E c) (hk : m.kind = 15) (hc : m.corr = c.asked.corr) (hi : m.inc = 0) (he : m.er = 0) : Q2 ol E 0 (c.handle m) ∧ ∃ to, (c.handle m).out = some to := by
  obtain ⟨⟨p1, p2, p3, p4⟩, q2, q3, q4, q5, q6, q7, q8, q9, q10, q11, q12, q13, q14, q15, q16, q17⟩ := q
  have e1 : ({ c with waits := false } : Cl).answered m = { c with waits := false, added := c.added ++ [c.asked.offset] } := by
    unfold Cl.answered
    rw [if_neg (by show ¬ c.asked.kind = 7; omega), if_pos q12]
  have e0 : c.handle m = decides 8 { c with waits := false, added := c.added ++ [c.asked.offset] } := by
    rw [handle_eq q2 hk hc (by rw [hi, p4]) he, e1]
  have g := next_go (k := 0) (d := { c with waits := false, added := c.added ++ [c.asked.offset] }) hp (Nat.zero_le _) hE ⟨p1, p2, p3, p4⟩ q3 q4 q5 q6 q7 q8 (by show c.added ++ [c.asked.offset] = [0]; rw [q9, q17]; rfl) q10 q11
  rw [e0, decides_one (d := { c with waits := false, added := c.added ++ [c.asked.offset] }) rfl p3 (.inl g.2.1)]
  refine ⟨?_, g.2.2⟩
  rcases g.1 with g1 | g1
  · exact g1.2
  · have := hp.pos; omega
theorem go2 (hp : Prog ol n t) (hE : 0 ≤ E) (hkn : k < n) (q : Q2 ol E k c) (hk : m.kind = 15) (hc : m.corr = c.asked.corr) (hi : m.inc = 0) (he : m.er = 0) : (k + 1 < n ∧ Q2 ol E (k + 1) (c.handle m) ∨ k + 1 = n ∧ Q3 ol E n t (c.handle m)) ∧ ∃ to, (c.handle m).out = some to := by
  obtain ⟨⟨p1, p2, p3, p4⟩, q2, q3, q4, q5, q6, q7, q8, q9, q10, q11, q12, q13, q14, q15, q16, q17⟩ := q
  have hsm := hp.small
  obtain ⟨v, hv⟩ := hp.send k hkn
  have hka : ({ c with waits := false } : Cl).kindAt = 1 := by
    unfold Cl.kindAt
    show (match c.ops[c.op.toNat]? with | some o => o.kind | none => 0) = 1
    rw [p1, q3, Int.toNat_natCast, hv]
  have hnx : IntKind.i64.wrap (geti c.next 0 + (c.asked.vals.length : Int)) = (k : Int) + 1 := by
    rw [q10, q13]
    show IntKind.i64.wrap ((k : Int) + 1) = _
    exact w_i64 (by omega) (by omega)
  have hop : nx c.op = (k : Int) + 1 := by rw [q3]; exact w_i64 (by omega) (by omega)
  have e1 : ({ c with waits := false } : Cl).answered m = { c with waits := false, seen := c.seen ++ sentL { c with waits := false } 0 m.offset 0 c.asked.vals, next := [(k : Int) + 1, 0, 0], op := (k : Int) + 1 } := by
    unfold Cl.answered
    rw [if_neg (by show ¬ c.asked.kind = 7; omega), if_neg (by show ¬ c.asked.kind = 8; omega), if_pos q12]
    rw [sent_one (c := { c with waits := false }) (by rw [hka]; decide)]
    show ({ c with waits := false, seen := c.seen ++ sentL { c with waits := false } c.asked.part m.offset 0 c.asked.vals, next := seti c.next c.asked.part (IntKind.i64.wrap (geti c.next c.asked.part + (c.asked.vals.length : Int))), op := nx c.op } : Cl) = _
    rw [q15, hnx, hop, q10]
    rfl
  have e0 : c.handle m = decides 8 { c with waits := false, seen := c.seen ++ sentL { c with waits := false } 0 m.offset 0 c.asked.vals, next := [(k : Int) + 1, 0, 0], op := (k : Int) + 1 } := by
    rw [handle_eq q2 hk hc (by rw [hi, p4]) he, e1]
  have g := next_go (k := k + 1) (d := { c with waits := false, seen := c.seen ++ sentL { c with waits := false } 0 m.offset 0 c.asked.vals, next := [(k : Int) + 1, 0, 0], op := (k : Int) + 1 }) hp (by omega) hE ⟨p1, p2, p3, p4⟩ rfl q4 q5 q6 q7 q8 q9 rfl
    (by show (c.seen ++ _).length = _; rw [List.length_append, sentL_len]; omega)
  rw [e0, decides_one (d := { c with waits := false, seen := c.seen ++ sentL { c with waits := false } 0 m.offset 0 c.asked.vals, next := [(k : Int) + 1, 0, 0], op := (k : Int) + 1 }) rfl p3 (.inl g.2.1)]
  exact ⟨g.1, g.2.2⟩
end
section
variable {W w : World} {l : List Res} {K : Value → World → Prop} {b : Nat} {c : Cl} {f : Fx} {sn : List Sn} {N : Nat} {m : Rp} {cs : List Value}
/-- an answer without lists -/
theorem hstep (h : Sat W w (ClM b c :: l)) (hm : RpC cs m) (hrd : RpRd W l m) (hb : m.bl = [] ∧ m.al = []) (hf : f.ok) (q : Inv f sn N c) (ho : c.out = none) (hN : N ≤ 1000000000)
    (hK : ∀ s vs w', vs.len = (c.handle m).asked.vals.length → Inv f sn (N + 24) (c.handle m) → Sat W w' (SlR T_api_Msg 59 s (outL (c.handle m) vs) :: ClM b { c.handle m with out := none } :: l) → K s.v w') : CallP P F_client_Client_Handle [.pointer (some ⟨b, 0, none⟩), .agg cs.toArray] w K := by
  have hv0 : vtot m.bl = 0 := by rw [hb.1]; rfl
  have hvv : ∀ d ∈ m.bl, ∀ v ∈ d.bs, v.length ≤ 140737488355328 := by rw [hb.1]; intro d hd; cases hd
  have qh : Inv f sn (N + 24) (c.handle m) := (q.handle (m := m) hf ho hvv (by omega)).mono (by omega)
  refine handle_ok h hm hrd (q.good hf (by omega) ho) q.waits (by rw [hb.1, hb.2]; exact ⟨Nat.zero_le _, Nat.zero_le _, Nat.zero_le _⟩) ?_ (fun w8 ho8 h8 => ?_) fun pp w8 h8 => ?_
  · intro hwt j hj c1 hc1 hw1 hd1
    have qf := Inv.decides hf j _ _ (q.first (m := m) hf hwt ho hvv (by omega))
    rw [← hc1] at qf
    exact qf.good hf (by omega) (qf.noOut hw1)
  · obtain ⟨p, h9⟩ := sat_cl.1 h8
    have hvl : p.vl.map Prod.snd = (c.handle m).asked.vals := by
      have := (Sat.up (L := ClL b (c.handle m) p l) h9 3 : Sat W w8 (Pure (p.vl.map Prod.snd = (c.handle m).asked.vals) :: _))
      exact (sat_pure.1 this).1
    have hvs : p.vs.len = p.vl.length := (own_len (Sat.up (L := ClL b (c.handle m) p l) h9 4) (by decide)).1
    have e1 : ({ c.handle m with out := none } : Cl) = c.handle m := by rw [← ho8]
    have e2 : outL (c.handle m) p.vs = [] := by unfold outL; rw [ho8]
    refine hK ⟨none, 0, 0⟩ p.vs w8 (by rw [hvs, ← hvl, List.length_map]) qh ?_
    rw [e1, e2]
    exact Sat.nilSlr h8 T_api_Msg 59
  · have h9 : Sat W w8 (SlR T_api_Msg 59 pp.out (outL (c.handle m) pp.vs) :: ClL b { c.handle m with out := none } { pp with out := ⟨none, 0, 0⟩ } l) := h8
    have h9c : Sat W w8 (ClL b { c.handle m with out := none } { pp with out := ⟨none, 0, 0⟩ } l) := h9.tail
    have hvl : pp.vl.map Prod.snd = (c.handle m).asked.vals := by
      have := (Sat.up (L := ClL b { c.handle m with out := none } { pp with out := ⟨none, 0, 0⟩ } l) h9c 3 : Sat W w8 (Pure (pp.vl.map Prod.snd = (c.handle m).asked.vals) :: _))
      exact (sat_pure.1 this).1
    have hvs : pp.vs.len = pp.vl.length := (own_len (Sat.up (L := ClL b { c.handle m with out := none } { pp with out := ⟨none, 0, 0⟩ } l) h9c 4) (by decide)).1
    have h10 : Sat W w8 (ClM b { c.handle m with out := none } :: SlR T_api_Msg 59 pp.out (outL (c.handle m) pp.vs) :: l) := sat_cl.2 ⟨_, h9.sel 14 [1, 2, 3, 4, 5, 6, 7, 8, 9, 10, 11, 12, 13, 0]⟩
    exact hK pp.out pp.vs w8 (by rw [hvs, ← hvl, List.length_map]) qh h10.swap
theorem tstep (h : Sat W w (ClM b c :: l)) (hf : f.ok) (q : Inv f sn N c) (ho : c.out = none) (hN : N ≤ 1000000000)
    (hK : ∀ s vs w', vs.len = c.tick.asked.vals.length → Inv f sn (N + 1) c.tick → Sat W w' (SlR T_api_Msg 59 s (outL c.tick vs) :: ClM b { c.tick with out := none } :: l) → K s.v w') : CallP P F_client_Client_Tick [.pointer (some ⟨b, 0, none⟩)] w K := by
  refine tick_ok h (q.good hf (by omega) ho) (fun hw => q.partOf hf hw) fun pp w8 h8 => ?_
  have h9 : Sat W w8 (SlR T_api_Msg 59 pp.out (outL c.tick pp.vs) :: ClL b { c.tick with out := none } { pp with out := ⟨none, 0, 0⟩ } l) := h8
  have h9c : Sat W w8 (ClL b { c.tick with out := none } { pp with out := ⟨none, 0, 0⟩ } l) := h9.tail
  have hvl : pp.vl.map Prod.snd = c.tick.asked.vals := by
    have := (Sat.up (L := ClL b { c.tick with out := none } { pp with out := ⟨none, 0, 0⟩ } l) h9c 3 : Sat W w8 (Pure (pp.vl.map Prod.snd = c.tick.asked.vals) :: _))
    exact (sat_pure.1 this).1
  have hvs : pp.vs.len = pp.vl.length := (own_len (Sat.up (L := ClL b { c.tick with out := none } { pp with out := ⟨none, 0, 0⟩ } l) h9c 4) (by decide)).1
  have h10 : Sat W w8 (ClM b { c.tick with out := none } :: SlR T_api_Msg 59 pp.out (outL c.tick pp.vs) :: l) := sat_cl.2 ⟨_, h9.sel 14 [1, 2, 3, 4, 5, 6, 7, 8, 9, 10, 11, 12, 13, 0]⟩
  exact hK pp.out pp.vs w8 (by rw [hvs, ← hvl, List.length_map]) (q.tick hf) h10.swap
end
end Go.Proofs.Ytajhdjjmhfbhgaa
