/- Layer 19: what stays true of a client, whatever happens. -/
import Derived.Test.YtajhdjjmhfbhgaaKAg
namespace Go.Proofs.Ytajhdjjmhfbhgaa
open Go Go.Pk
/-- what never changes -/
structure Fx where
  id : Int
  number : Int
  nodes : Int
  parts : Int
  group : Int
  ops : List Oc
structure Fx.ok (f : Fx) : Prop where
  parts : 1 ≤ f.parts ∧ f.parts ≤ 4
  nodes : 1 ≤ f.nodes ∧ f.nodes ≤ 5
  opsN : f.ops.length ≤ 64
  ops : ∀ o ∈ f.ops, opBad f.parts o = false
/-- a look at a trace: which operation is the last, is all done? none: something isn't as it should be -/
def lookS (n N : Int) : Int × Bool → List Sn → Option (Int × Bool)
  | st, [] => some st
  | st, s :: l => if st.2 = true ∨ s.client ≠ n ∨ s.op < 0 ∨ s.op > N ∨ (s.op < st.1 ∧ s.kind ≠ 4) then none else lookS n N (if s.kind = 4 then 0 else s.op, decide (s.kind = 7)) l
theorem lookS_app {n N : Int} : ∀ (l l2 : List Sn) (st : Int × Bool), lookS n N st (l ++ l2) = (lookS n N st l).bind fun st => lookS n N st l2
  | [], _, _ => rfl
  | s :: l, l2, st => by
    simp only [List.cons_append, lookS]
    split
    · rfl
    · exact lookS_app l l2 _
def Fixed (f : Fx) (c : Cl) : Prop := c.id = f.id ∧ c.number = f.number ∧ c.nodes = f.nodes ∧ c.parts = f.parts ∧ c.group = f.group ∧ c.ops = f.ops
def Tgs (c : Cl) : Prop := c.targets.length = (c.parts + 2).toNat ∧ ∀ t ∈ c.targets, 0 ≤ t ∧ t < c.nodes
def Pls (n : Nat) (c : Cl) : Prop := c.att.length = c.parts.toNat ∧ c.sure.length = c.parts.toNat ∧ (∀ k ∈ c.mine, 0 ≤ k ∧ k < c.parts) ∧ c.mine.length ≤ 4 ∧ (0 ≤ c.turn ∧ c.turn ≤ n) ∧ (0 ≤ c.dry ∧ c.dry ≤ n) ∧ c.values.length ≤ 16 ∧ ∀ v ∈ c.values, v.data.toList.length ≤ 140737488355328
def Ops (c : Cl) : Prop := (0 ≤ c.op ∧ c.op ≤ c.ops.length) ∧ (0 ≤ c.begin ∧ c.begin ≤ c.ops.length) ∧ ∃ o, lookS c.number c.ops.length (0, false) c.seen = some (o, c.done) ∧ o ≤ c.op
def Nxt (c : Cl) : Prop := (c.ready = true ∨ c.step = 2 ∨ c.asked.kind = 5 ∨ c.asked.kind = 13) → c.next.length = (c.parts + 2).toNat
def asks (k : Int) : Prop := k = 7 ∨ k = 8 ∨ k = 5 ∨ k = 9 ∨ k = 11 ∨ k = 14 ∨ k = 6 ∨ k = 12 ∨ k = 13
def Wts (c : Cl) : Prop := c.waits = true → c.done = false ∧ (c.asked.kind = 5 ∨ c.asked.kind = 6 ∨ c.asked.kind = 12 ∨ c.asked.kind = 14 → 0 ≤ c.asked.part ∧ c.asked.part < c.parts) ∧ (c.asked.kind ≠ 7 → c.op < c.ops.length) ∧
  asks c.asked.kind ∧ c.asked.frm = c.id ∧ c.asked.tx = c.number ∧ c.asked.inc = c.inc ∧ c.asked.group = c.group ∧ c.asked.member = c.number
def Ots (c : Cl) : Prop := ∀ t, c.out = some t → c.waits = true ∧ 0 ≤ t ∧ t < c.nodes
structure Inv (f : Fx) (sn : List Sn) (n : Nat) (c : Cl) : Prop where
  fx : Fixed f c
  tg : Tgs c
  pl : Pls n c
  po : Ops c
  nx : Nxt c
  wt : Wts c
  vl : c.asked.vals.length ≤ 16
  ot : Ots c
  seen : c.seen.length ≤ n
  added : c.added.length ≤ n
  pre : ∃ evs, c.seen = sn ++ evs
section
variable {f : Fx} {sn : List Sn} {n m : Nat} {c : Cl}
theorem Inv.mono (q : Inv f sn n c) (h : n ≤ m) : Inv f sn m c :=
  ⟨q.fx, q.tg, ⟨q.pl.1, q.pl.2.1, q.pl.2.2.1, q.pl.2.2.2.1, ⟨q.pl.2.2.2.2.1.1, by have := q.pl.2.2.2.2.1.2; omega⟩, ⟨q.pl.2.2.2.2.2.1.1, by have := q.pl.2.2.2.2.2.1.2; omega⟩, q.pl.2.2.2.2.2.2⟩, q.po, q.nx, q.wt, q.vl, q.ot, Nat.le_trans q.seen h, Nat.le_trans q.added h, q.pre⟩
theorem Inv.pp (q : Inv f sn n c) (hf : f.ok) : 1 ≤ c.parts ∧ c.parts ≤ 4 := by rw [q.fx.2.2.2.1]; exact hf.parts
theorem Inv.nn (q : Inv f sn n c) (hf : f.ok) : 1 ≤ c.nodes ∧ c.nodes ≤ 5 := by rw [q.fx.2.2.1]; exact hf.nodes
theorem Inv.opsN (q : Inv f sn n c) (hf : f.ok) : c.ops.length ≤ 64 := by rw [q.fx.2.2.2.2.2]; exact hf.opsN
theorem Inv.oo (q : Inv f sn n c) (hf : f.ok) : ∀ o ∈ c.ops, opBad c.parts o = false := by rw [q.fx.2.2.2.2.2, q.fx.2.2.2.1]; exact hf.ops
theorem Inv.noOut (q : Inv f sn n c) (hw : c.waits = false) : c.out = none := by
  cases h : c.out with
  | none => rfl
  | some t => rw [(q.ot t h).1] at hw; cases hw
theorem Inv.good (q : Inv f sn n c) (hf : f.ok) (hn : n ≤ 1000000000000) (ho : c.out = none) : Good c :=
  ⟨q.pp hf, q.nn hf, q.tg.1, q.tg.2, q.opsN hf, q.oo hf, q.po.1, q.nx, q.pl.1, q.pl.2.1, q.pl.2.2.1, q.pl.2.2.2.1, q.pl.2.2.2.2.1.1, q.pl.2.2.2.2.2.1.1, ⟨by have := q.pl.2.2.2.2.2.2.1; omega, q.pl.2.2.2.2.2.2.2⟩, by have := q.seen; omega, by have := q.added; omega, ho⟩
theorem Inv.waits (q : Inv f sn n c) (hw : c.waits = true) : Waits c :=
  ⟨(q.wt hw).2.1, fun h => (q.wt hw).2.2.1 (by omega), by have := q.vl; omega⟩
theorem Inv.partOf (q : Inv f sn n c) (hf : f.ok) (hw : c.waits = true) : 0 ≤ c.partOf ∧ c.partOf.toNat < c.targets.length := by
  have h1 := q.pp hf
  have h2 := (q.wt hw).2.1
  rw [q.tg.1]
  unfold Cl.partOf
  split
  · omega
  · split
    · rename_i h; have := h2 (by omega); omega
    · rw [w_i64 (by omega) (by omega)]; omega
theorem getD_mem {l : List Int} {k : Nat} (h : k < l.length) : l.getD k 0 ∈ l := by
  rw [List.getD_eq_getElem?_getD, List.getElem?_eq_getElem h]
  exact List.getElem_mem h
theorem Inv.again (q : Inv f sn n c) (hf : f.ok) (hw : c.waits = true) : Inv f sn n c.again :=
  ⟨q.fx, q.tg, q.pl, q.po, q.nx, q.wt, q.vl, fun t ht => by
    have e : c.targets.getD c.partOf.toNat 0 = t := Option.some.inj ht
    exact ⟨hw, by rw [← e]; exact q.tg.2 _ (getD_mem (q.partOf hf hw).2)⟩, q.seen, q.added, q.pre⟩
theorem Inv.ask {a : Aq} (q : Inv f sn n c) (hf : f.ok) (hd : c.done = false) (hk : asks a.kind) (hp : a.kind = 5 ∨ a.kind = 6 ∨ a.kind = 12 ∨ a.kind = 14 → 0 ≤ a.part ∧ a.part < c.parts) (ho : a.kind ≠ 7 → c.op < c.ops.length) (hv : a.vals.length ≤ 16)
    (hn : a.kind = 5 ∨ a.kind = 13 → c.next.length = (c.parts + 2).toNat) : Inv f sn n (c.ask a) := by
  refine Inv.again ⟨q.fx, q.tg, q.pl, q.po, ?_, ?_, hv, ?_, q.seen, q.added, q.pre⟩ hf rfl
  · rintro (h | h | h | h)
    · exact q.nx (.inl h)
    · exact q.nx (.inr (.inl h))
    · exact hn (.inl h)
    · exact hn (.inr h)
  · intro _
    exact ⟨hd, hp, ho, hk, rfl, rfl, rfl, rfl, rfl⟩
  · intro t ht
    exact ⟨rfl, (q.ot t ht).2⟩
/-- whoever has ended has nothing to add -/
theorem look_same {n N : Int} : ∀ (evs : List Sn) (o x : Int), (∀ e ∈ evs, e.client = n ∧ e.op = x ∧ e.kind ≠ 4 ∧ e.kind ≠ 7) → o ≤ x → 0 ≤ x → x ≤ N → ∃ o', lookS n N (o, false) evs = some (o', false) ∧ o' ≤ x
  | [], o, x, _, h, _, _ => ⟨o, rfl, h⟩
  | e :: evs, o, x, h, ho, h0, h1 => by
    obtain ⟨a1, a2, a3, a4⟩ := h e (by simp)
    simp only [lookS]
    rw [if_neg (by rintro (h | h | h | h | h); cases h; exact h a1; omega; omega; omega), if_neg a3, a2, decide_eq_false a4]
    exact look_same evs x x (fun e he => h e (by simp [he])) (Int.le_refl _) h0 h1
theorem Inv.more {evs : List Sn} (q : Inv f sn n c) (hw : c.waits = false) (hd : c.done = false) (h : ∀ e ∈ evs, e.client = c.number ∧ e.op = c.op ∧ e.kind ≠ 4 ∧ e.kind ≠ 7) : Inv f sn (n + evs.length) { c with seen := c.seen ++ evs } := by
  obtain ⟨h1, h2, o, h3, h4⟩ := q.po
  refine ⟨q.fx, q.tg, (q.mono (m := n + evs.length) (by omega)).pl, ⟨h1, h2, ?_⟩, q.nx, (fun h => by rw [show c.waits = true from h] at hw; cases hw), q.vl, q.ot, ?_, Nat.le_trans q.added (by omega), ?_⟩
  · show ∃ o', lookS c.number c.ops.length (0, false) (c.seen ++ evs) = some (o', c.done) ∧ o' ≤ c.op
    rw [lookS_app, h3, hd]
    exact look_same evs o c.op h h4 h1.1 h1.2
  · show (c.seen ++ evs).length ≤ _
    rw [List.length_append]; have := q.seen; omega
  · obtain ⟨e1, h5⟩ := q.pre
    exact ⟨e1 ++ evs, by show c.seen ++ evs = _; rw [h5, List.append_assoc]⟩
theorem Inv.tell {s : Sn} (q : Inv f sn n c) (hw : c.waits = false) (hd : c.done = false) (hs : s.kind ≠ 4) (h7 : s.kind ≠ 7) : Inv f sn (n + 1) (c.tell s) :=
  q.more (evs := [{ s with client := c.number, op := c.op }]) hw hd fun e he => by
    rw [List.mem_singleton.1 he]; exact ⟨rfl, rfl, hs, h7⟩
/-- another operation -/
theorem Inv.goto {x : Int} (q : Inv f sn n c) (hw : c.waits = false) (hx : c.op ≤ x) (hx2 : x ≤ c.ops.length) : Inv f sn n { c with op := x } := by
  obtain ⟨h1, h2, o, h3, h4⟩ := q.po
  exact ⟨q.fx, q.tg, q.pl, ⟨⟨Int.le_trans h1.1 hx, hx2⟩, h2, o, h3, Int.le_trans h4 hx⟩, q.nx, (fun h => by rw [show c.waits = true from h] at hw; cases hw), q.vl, q.ot, q.seen, q.added, q.pre⟩
theorem Inv.fail {x e : Int} (q : Inv f sn n c) (hw : c.waits = false) (hd : c.done = false) (hx : 0 ≤ x) (hx2 : x ≤ c.ops.length) : Inv f sn (n + 1) { c.tell { zSn with kind := 4, e := e } with op := x } := by
  obtain ⟨h1, h2, o, h3, h4⟩ := q.po
  refine ⟨q.fx, q.tg, (q.mono (m := n + 1) (by omega)).pl, ⟨⟨hx, hx2⟩, h2, 0, ?_, hx⟩, q.nx, (fun h => by rw [show c.waits = true from h] at hw; cases hw), q.vl, q.ot, ?_, Nat.le_trans q.added (by omega), ?_⟩
  · show lookS c.number c.ops.length (0, false) (c.seen ++ [_]) = some (0, c.done)
    rw [lookS_app, h3, hd]
    simp only [Option.bind_some, lookS]
    rw [if_neg (by rintro (h | h | h | h | h); cases h; exact h rfl; omega; omega; exact h.2 rfl)]
    rfl
  · show (c.seen ++ [_]).length ≤ _
    rw [List.length_append, List.length_singleton]; have := q.seen; omega
  · obtain ⟨e1, h5⟩ := q.pre
    exact ⟨e1 ++ [_], by show c.seen ++ [_] = _; rw [h5, List.append_assoc]⟩
theorem Inv.finish (q : Inv f sn n c) (hw : c.waits = false) (hd : c.done = false) : Inv f sn (n + 1) c.finished := by
  obtain ⟨h1, h2, o, h3, h4⟩ := q.po
  refine ⟨q.fx, q.tg, (q.mono (m := n + 1) (by omega)).pl, ⟨h1, h2, c.op, ?_, Int.le_refl _⟩, q.nx, (fun h => by rw [show c.waits = true from h] at hw; cases hw), q.vl, q.ot, ?_, Nat.le_trans q.added (by omega), ?_⟩
  · show lookS c.number c.ops.length (0, false) (c.seen ++ [_]) = some (c.op, true)
    rw [lookS_app, h3, hd]
    simp only [Option.bind_some, lookS]
    rw [if_neg (by rintro (h | h | h | h | h); cases h; exact h rfl; omega; omega; omega)]
    rfl
  · show (c.seen ++ [_]).length ≤ _
    rw [List.length_append, List.length_singleton]; have := q.seen; omega
  · obtain ⟨e1, h5⟩ := q.pre
    exact ⟨e1 ++ [_], by show c.seen ++ [_] = _; rw [h5, List.append_assoc]⟩
theorem Inv.away (q : Inv f sn n c) (hf : f.ok) : Inv f sn n c.away := by
  refine ⟨q.fx, q.tg, ⟨List.length_replicate, List.length_replicate, fun k hk => (by cases hk), Nat.zero_le _, ⟨Int.le_refl _, Int.natCast_nonneg n⟩, ⟨Int.le_refl _, Int.natCast_nonneg n⟩, Nat.zero_le _, fun v hv => by cases hv⟩, q.po, ?_, q.wt, q.vl, q.ot, q.seen, q.added, q.pre⟩
  rintro (h | h | h | h)
  · exact q.nx (.inl h)
  · cases h
  · exact q.nx (.inr (.inr (.inl h)))
  · exact q.nx (.inr (.inr (.inr h)))
theorem Inv.close (q : Inv f sn n c) : Inv f sn n c.close := by
  refine ⟨q.fx, q.tg, q.pl, q.po, fun _ => List.length_replicate, q.wt, q.vl, q.ot, q.seen, Nat.zero_le _, q.pre⟩
theorem Inv.ended {t : Bool} (q : Inv f sn n c) (hf : f.ok) (hw : c.waits = false) (hd : c.done = false) (ho : c.op < c.ops.length) : Inv f sn (n + 1) (c.ended t) := by
  have h0 := q.po.1
  have hl := q.opsN hf
  have hs : ({ zSn with kind := if t then 2 else 3 } : Sn).kind = 2 ∨ ({ zSn with kind := if t then 2 else 3 } : Sn).kind = 3 := by cases t; right; rfl; left; rfl
  have q2 := q.tell hw hd (s := { zSn with kind := if t then 2 else 3 }) (by omega) (by omega)
  have q3 := q2.goto (x := IntKind.i64.wrap (c.op + 1)) hw (by rw [w_i64 (by omega) (by omega)]; show c.op ≤ _; omega) (by rw [w_i64 (by omega) (by omega)]; show _ ≤ (c.ops.length : Int); omega)
  exact q3.close
theorem Inv.settle {ps : List Int} (q : Inv f sn n c) (hf : f.ok) (hd : c.done = false) (ho : c.op < c.ops.length) (hps : ∀ k ∈ ps, 0 ≤ k ∧ k < c.parts) : Inv f sn n (c.settle ps).1 ∧ ((c.settle ps).2 = true → (c.settle ps).1 = c) := by
  unfold Cl.settle
  split
  · exact ⟨q.ask hf hd (.inr (.inr (.inr (.inr (.inl rfl))))) (by intro h; exfalso; revert h; decide) (fun _ => ho) (Nat.zero_le _) (by intro h; exfalso; revert h; decide), fun h => by cases h⟩
  · split
    · rename_i k hk
      have hm := hps k (List.mem_of_find?_eq_some hk)
      exact ⟨q.ask hf hd (.inr (.inr (.inr (.inr (.inr (.inl rfl)))))) (fun _ => hm) (fun _ => ho) (Nat.zero_le _) (by intro h; exfalso; revert h; show ¬ ((14 : Int) = 5 ∨ (14 : Int) = 13); decide), fun h => by cases h⟩
    · exact ⟨q, fun _ => rfl⟩
theorem Inv.qInit (q : Inv f sn n c) (hf : f.ok) (hd : c.done = false) : Inv f sn n (c.ask qInit) :=
  q.ask hf hd (.inl rfl) (by intro h; exfalso; revert h; decide) (fun h => absurd rfl h) (Nat.zero_le _) (by intro h; exfalso; revert h; decide)
theorem Inv.prepare {part : Int} (q : Inv f sn n c) (hf : f.ok) (hd : c.done = false) (ho : c.op < c.ops.length) : Inv f sn n (c.prepare part).1 ∧ ((c.prepare part).2 = true → (c.prepare part).1 = c ∧ c.ready = true) := by
  unfold Cl.prepare
  split
  · exact ⟨q.qInit hf hd, fun h => by cases h⟩
  · rename_i h
    split
    · exact ⟨q, fun _ => ⟨rfl, by simpa using h⟩⟩
    · refine ⟨?_, fun h => by cases h⟩
      have q2 : Inv f sn n (if c.opn < 0 then { c with opn := c.epoch, begin := c.op } else c : Cl) := by
        split
        · exact ⟨q.fx, q.tg, q.pl, ⟨q.po.1, q.po.1, q.po.2.2⟩, q.nx, q.wt, q.vl, q.ot, q.seen, q.added, q.pre⟩
        · exact q
      refine q2.ask hf (by split <;> exact hd) (.inr (.inl rfl)) (by intro h; exfalso; revert h; show ¬ ((8 : Int) = 5 ∨ (8 : Int) = 6 ∨ (8 : Int) = 12 ∨ (8 : Int) = 14); decide) (fun _ => by split <;> exact ho) (Nat.zero_le _) (by intro h; exfalso; revert h; show ¬ ((8 : Int) = 5 ∨ (8 : Int) = 13); decide)
theorem Inv.send {part : Int} {vals : List ByteArray} (q : Inv f sn n c) (hf : f.ok) (hd : c.done = false) (ho : c.op < c.ops.length) (hp : 0 ≤ part ∧ part < c.parts) (hv : vals.length ≤ 16) : Inv f sn n (c.send part vals) := by
  have h1 := q.prepare (part := part) hf hd ho
  unfold Cl.send
  split
  · exact h1.1
  · rename_i h
    have hr := (h1.2 (by simpa using h)).2
    exact q.ask hf hd (.inr (.inr (.inl rfl))) (fun _ => hp) (fun _ => ho) (by show (vals.map _).length ≤ 16; rw [List.length_map]; exact hv) (fun _ => q.nx (.inl hr))
theorem Inv.endT {t : Bool} (q : Inv f sn n c) (hf : f.ok) (hw : c.waits = false) (hd : c.done = false) (ho : c.op < c.ops.length) : Inv f sn (n + 1) (c.endT t) := by
  unfold Cl.endT
  split
  · exact q.ended hf hw hd ho
  · exact (q.mono (by omega)).ask hf hd (.inr (.inr (.inr (.inl rfl)))) (by intro h; exfalso; revert h; show ¬ ((9 : Int) = 5 ∨ (9 : Int) = 6 ∨ (9 : Int) = 12 ∨ (9 : Int) = 14); decide) (fun _ => ho) (Nat.zero_le _) (by intro h; exfalso; revert h; show ¬ ((9 : Int) = 5 ∨ (9 : Int) = 13); decide)
end
end Go.Proofs.Ytajhdjjmhfbhgaa
