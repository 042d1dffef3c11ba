/- Layer 19: how a client learns what has become of its transaction, plain. -/
import Derived.Test.YtajhdjjmhfbhgaaKVn
namespace Go.Proofs.Ytajhdjjmhfbhgaa
open Go Go.Pk
def Q4 (ol : List Oc) (E : Int) (n : Nat) (c : Cl) : Prop := Ph ol 1 c ∧ c.op = n ∧ c.opn = E ∧ c.pid = 7 ∧ c.begin = 0 ∧ c.seen.length = n ∧ c.ready = false
section
variable {ol : List Oc} {n : Nat} {t : Bool} {E : Int} {c : Cl} {m : Rp}
theorem q_anew (q : Q3 ol E n t c) : Q4 ol E n c.anew ∧ c.anew.waits = false ∧ c.anew.out = none := by
  obtain ⟨⟨p1, p2, p3, p4⟩, q2, q3, q4, q5, q6, q7, q8⟩ := q
  refine ⟨⟨⟨p1, p2, p3, ?_⟩, q3, q4, q5, q6, q7, rfl⟩, rfl, rfl⟩
  show nx c.inc = 1
  rw [p4]; rfl
theorem q_tick (hE : 0 ≤ E) (q : Q4 ol E n c) (hw : c.waits = false) : c.tick = c.ask qInit := by
  obtain ⟨⟨p1, p2, p3, p4⟩, q3, q4, q5, q6, q7, q8⟩ := q
  unfold Cl.tick
  rw [if_pos hw]
  unfold Cl.decide
  rw [if_neg (by rw [p3]; decide), if_pos ⟨by rw [q4]; exact hE, q8⟩]
/-- it has ended as it was asked to: that is seen, and then that all is done -/
theorem q_good (hp : Prog ol n t) (hE : 0 ≤ E) (q : Q4 ol E n c) (ha : c.asked.kind = 7) (hw : c.waits = true) (hk : m.kind = 15) (hc : m.corr = c.asked.corr) (hi : m.inc = 1) (he : m.er = 0) (hoff : m.offset = E) (hh : m.high = 7) (hcm : m.commit = t) :
    (c.handle m).done = true ∧ (c.handle m).waits = false ∧ (c.handle m).out = c.out ∧ ∃ (l1 l2 : List Sn) (e : Sn), (c.handle m).seen = l1 ++ e :: l2 ∧ l1.length = n ∧ e.kind = (if t then 2 else 3) ∧ e.op = n := by
  obtain ⟨⟨p1, p2, p3, p4⟩, q3, q4, q5, q6, q7, q8⟩ := q
  have hsm := hp.small
  obtain ⟨v, hv⟩ := hp.last
  have hka : ({ c with waits := false } : Cl).kindAt = if t then 2 else 3 := by
    unfold Cl.kindAt
    show (match c.ops[c.op.toNat]? with | some o => o.kind | none => 0) = _
    rw [p1, q3, Int.toNat_natCast, hv]
  have hmine : (m.offset == c.opn && IntKind.u64.wrap m.high == c.pid) = true := by rw [hoff, q4, hh, q5]; simp; rfl
  have hop : IntKind.i64.wrap (c.op + 1) = (n : Int) + 1 := by rw [q3]; exact w_i64 (by omega) (by omega)
  have e1 : ({ c with waits := false } : Cl).answered m = (({ c with waits := false, ready := true, pid := m.pid, epoch := m.epoch } : Cl).close).ended t := by
    unfold Cl.answered
    rw [if_pos ha]
    unfold Cl.given
    simp only
    rw [if_neg (by rw [q4]; omega), hmine, hka, hcm]
    cases t with
    | true => rw [if_pos ⟨rfl, rfl, .inl rfl⟩]
    | false => rw [if_neg (by rintro ⟨_, h, _⟩; cases h), if_pos ⟨rfl, rfl, rfl⟩]
  have e2 : ((({ c with waits := false, ready := true, pid := m.pid, epoch := m.epoch } : Cl).close).ended t).decide = ((({ c with waits := false, ready := true, pid := m.pid, epoch := m.epoch } : Cl).close).ended t).finished := by
    unfold Cl.decide
    rw [if_neg (by show ¬ c.done = true; rw [p3]; decide), if_neg (by rintro ⟨_, h⟩; cases h)]
    have : ((({ c with waits := false, ready := true, pid := m.pid, epoch := m.epoch } : Cl).close).ended t).ops[((({ c with waits := false, ready := true, pid := m.pid, epoch := m.epoch } : Cl).close).ended t).op.toNat]? = none := by
      show c.ops[(IntKind.i64.wrap (c.op + 1)).toNat]? = none
      rw [hop, p1]
      exact List.getElem?_eq_none (by have := hp.len; omega)
    rw [this]
  have e : c.handle m = ((({ c with waits := false, ready := true, pid := m.pid, epoch := m.epoch } : Cl).close).ended t).finished := by
    rw [handle_eq hw hk hc (by rw [hi, p4]) he, e1, decides_one (d := (({ c with waits := false, ready := true, pid := m.pid, epoch := m.epoch } : Cl).close).ended t) rfl p3 (by rw [e2]; exact .inr rfl), e2]
  rw [e]
  exact ⟨rfl, rfl, rfl, c.seen, [_], ({ ({ zSn with kind := if t then 2 else 3 } : Sn) with client := c.number, op := c.op } : Sn), List.append_assoc c.seen _ _, q7, rfl, q3⟩
/-- it has not, or nobody knows: all of it is done anew -/
theorem q_fail (hp : Prog ol n t) (hE : 0 ≤ E) (q : Q4 ol E n c) (ha : c.asked.kind = 7) (hw : c.waits = true) (hk : m.kind = 15) (hc : m.corr = c.asked.corr) (hi : m.inc = 1) (he : m.er = 0) (hno : m.offset ≠ E ∨ m.commit ≠ t) :
    (c.handle m).done = false ∧ (c.handle m).op = 0 ∧ (∃ to, (c.handle m).out = some to) ∧ (c.handle m).asked.kind = 8 ∧ (c.handle m).asked.epoch = m.epoch ∧ ∃ (l1 l2 : List Sn) (e : Sn), (c.handle m).seen = l1 ++ e :: l2 ∧ l1.length = n ∧ e.kind = 4 ∧ e.op = n := by
  obtain ⟨⟨p1, p2, p3, p4⟩, q3, q4, q5, q6, q7, q8⟩ := q
  obtain ⟨v, hv⟩ := hp.last
  obtain ⟨v0, hv0⟩ := hp.send 0 hp.pos
  have hka : ({ c with waits := false } : Cl).kindAt = if t then 2 else 3 := by
    unfold Cl.kindAt
    show (match c.ops[c.op.toNat]? with | some o => o.kind | none => 0) = _
    rw [p1, q3, Int.toNat_natCast, hv]
  let c1 : Cl := ({ c with waits := false, ready := true, pid := m.pid, epoch := m.epoch } : Cl).close
  let d : Cl := { c1.tell { zSn with kind := 4, e := 14 } with op := c.begin }
  have e1 : ({ c with waits := false } : Cl).answered m = d := by
    unfold Cl.answered
    rw [if_pos ha]
    unfold Cl.given
    simp only
    rw [if_neg (by rw [q4]; omega), hka]
    rw [if_neg, if_neg]
    · rintro ⟨h1, h2, h3⟩
      have h1 : m.offset = c.opn := by
        have := (Bool.and_eq_true_iff.1 h1).1
        simpa using this
      rcases hno with hno | hno
      · exact hno (h1.trans q4)
      · cases t with
        | true => exact absurd h3 (by decide)
        | false => exact hno h2
    · rintro ⟨h1, h2, h3⟩
      have h1 : m.offset = c.opn := by
        have := (Bool.and_eq_true_iff.1 h1).1
        simpa using this
      rcases hno with hno | hno
      · exact hno (h1.trans q4)
      · cases t with
        | true => exact hno h2
        | false => exact absurd h3 (by decide)
  have e2 : d.decide = ({ d with opn := d.epoch, begin := d.op } : Cl).ask { zAq with kind := 8, pid := d.pid, epoch := d.epoch, offset := 0 } := by
    rw [dec_send (c := d) (o := ⟨1, 0, 0, 0, v0⟩) p3 (fun _ => rfl) (by show c.ops[c.begin.toNat]? = _; rw [p1, q6]; exact hv0) rfl]
    exact send_add rfl (fun h => by cases h) (by show (-1 : Int) < 0; decide)
  have e : c.handle m = ({ d with opn := d.epoch, begin := d.op } : Cl).ask { zAq with kind := 8, pid := d.pid, epoch := d.epoch, offset := 0 } := by
    rw [handle_eq hw hk hc (by rw [hi, p4]) he, e1, decides_one (d := d) rfl p3 (by rw [e2]; exact .inl rfl), e2]
  rw [e]
  refine ⟨p3, q6, ⟨_, rfl⟩, rfl, rfl, c.seen, [], ({ ({ zSn with kind := 4, e := 14 } : Sn) with client := c.number, op := c.op } : Sn), rfl, q7, rfl, q3⟩
end
end Go.Proofs.Ytajhdjjmhfbhgaa
