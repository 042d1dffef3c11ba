/- Layer 19: what stays true of a client through a step of its. -/
import Derived.Test.YtajhdjjmhfbhgaaKVa
namespace Go.Proofs.Ytajhdjjmhfbhgaa
open Go Go.Pk
theorem find_mem {l : List Int} {p : Int → Bool} {k : Int} (h : l.find? p = some k) : k ∈ l := List.mem_of_find?_eq_some h
section
variable {f : Fx} {sn : List Sn} {n m : Nat} {c : Cl}
theorem tmod_in {a : Int} {l : List Int} (h0 : 0 ≤ a) (hl : 0 < l.length) : geti l (a.tmod l.length) ∈ l := by
  have h1 : 0 ≤ a.tmod l.length := Int.tmod_nonneg _ h0
  have h2 : a.tmod l.length < l.length := Int.tmod_lt_of_pos _ (by omega)
  unfold geti
  exact getD_mem (by omega)
theorem seti_len {l : List Int} {k v : Int} : (seti l k v).length = l.length := List.length_set
/-- the places change in their numbers alone -/
theorem Inv.place {c' : Cl} (q : Inv f sn n c) (h : c' = { c with att := c'.att, sure := c'.sure, turn := c'.turn, dry := c'.dry, count := c'.count, offset := c'.offset, values := c'.values, step := c'.step }) (hp : Pls n c') (hs : c'.step = 2 → c'.next.length = (c'.parts + 2).toNat) : Inv f sn n c' := by
  rw [h] at hp hs ⊢
  refine ⟨q.fx, q.tg, hp, q.po, ?_, q.wt, q.vl, q.ot, q.seen, q.added, q.pre⟩
  rintro (h | h | h | h)
  · exact q.nx (.inl h)
  · exact hs h
  · exact q.nx (.inr (.inr (.inl h)))
  · exact q.nx (.inr (.inr (.inr h)))
theorem nx_op (q : Inv f sn n c) (hf : f.ok) : nx c.op = c.op + 1 := by
  have := q.po.1; have := q.opsN hf
  exact w_i64 (by omega) (by omega)
theorem Inv.poll {o : Oc} (q : Inv f sn n c) (hf : f.ok) (hw : c.waits = false) (hd : c.done = false) (ho : c.op < c.ops.length) : Inv f sn n (c.poll o) := by
  have h1 := q.settle (ps := c.mine) hf hd ho q.pl.2.2.1
  unfold Cl.poll
  split
  · exact h1.1
  · split
    · rename_i h2
      have hl : 0 < c.mine.length := by have := q.pl.2.2.2.2.2.1.1; omega
      have hm := q.pl.2.2.1 _ (tmod_in q.pl.2.2.2.2.1.1 hl)
      exact q.ask hf hd (.inr (.inr (.inr (.inr (.inr (.inr (.inl rfl))))))) (fun _ => hm) (fun _ => ho) (Nat.zero_le _) (by intro h; exfalso; revert h; show ¬ ((6 : Int) = 5 ∨ (6 : Int) = 13); decide)
    · split
      · rename_i k hk
        have hm := q.pl.2.2.1 _ (find_mem hk)
        have q2 : Inv f sn n (if c.step = 0 then { c with step := 1 } else c : Cl) := by
          split
          · exact q.place (c' := { c with step := 1 }) rfl q.pl (fun h => by cases h)
          · exact q
        refine q2.ask hf (by split <;> exact hd) (.inr (.inr (.inr (.inr (.inr (.inr (.inr (.inl rfl)))))))) (fun _ => by split <;> exact hm) (fun _ => by split <;> exact ho) (Nat.zero_le _) (by intro h; exfalso; revert h; show ¬ ((12 : Int) = 5 ∨ (12 : Int) = 13); decide)
      · have q2 : Inv f sn n { c with step := 0, count := 0, dry := 0 } := q.place rfl ⟨q.pl.1, q.pl.2.1, q.pl.2.2.1, q.pl.2.2.2.1, q.pl.2.2.2.2.1, ⟨Int.le_refl _, Int.natCast_nonneg n⟩, q.pl.2.2.2.2.2.2⟩ (fun h => by cases h)
        exact q2.goto hw (by rw [nx_op q hf]; show c.op ≤ _; omega) (by rw [nx_op q hf]; show _ ≤ (c.ops.length : Int); omega)
theorem Inv.copy {o : Oc} (q : Inv f sn n c) (hf : f.ok) (hw : c.waits = false) (hd : c.done = false) (ho : c.op < c.ops.length) (hp : 0 ≤ o.part ∧ o.part < c.parts) (ht : 0 ≤ o.to ∧ o.to < c.parts) : Inv f sn (n + 1) (c.copy o) := by
  have e := nx_op q hf
  have h0 := q.po.1
  have q1 : Inv f sn (n + 1) c := q.mono (by omega)
  unfold Cl.copy
  split
  · exact q.fail hw hd (by rw [e]; omega) (by rw [e]; omega)
  split
  · exact (q1.settle hf hd ho fun k hk => by cases hk).1
  split
  · have q2 : Inv f sn (n + 1) { c with step := 0 } := q1.place rfl q1.pl (fun h => by cases h)
    exact q2.goto hw (by rw [e]; show c.op ≤ _; omega) (by rw [e]; show _ ≤ (c.ops.length : Int); omega)
  split
  · split
    · exact (q1.settle hf hd ho fun k hk => by rw [List.mem_singleton.1 hk]; exact hp).1
    · exact q1.ask hf hd (.inr (.inr (.inr (.inr (.inr (.inr (.inl rfl))))))) (fun _ => hp) (fun _ => ho) (Nat.zero_le _) (by intro h; exfalso; revert h; show ¬ ((6 : Int) = 5 ∨ (6 : Int) = 13); decide)
  split
  · split
    · exact (q1.prepare hf hd ho).1
    · exact q1.send hf hd ho ht q1.pl.2.2.2.2.2.2.1
  split
  · rename_i h2
    exact q1.ask hf hd (.inr (.inr (.inr (.inr (.inr (.inr (.inr (.inr rfl)))))))) (by intro h; exfalso; revert h; show ¬ ((13 : Int) = 5 ∨ (13 : Int) = 6 ∨ (13 : Int) = 12 ∨ (13 : Int) = 14); decide) (fun _ => ho) (by show 1 ≤ 16; omega) (fun _ => q.nx (.inr (.inl h2)))
  · have q2 := q.endT (t := true) hf hw hd ho
    exact q2.place (c' := { c.endT true with att := seti (c.endT true).att o.part (-1) }) rfl ⟨by show (seti _ _ _).length = _; rw [seti_len]; exact q2.pl.1, q2.pl.2⟩ (fun h => q2.nx (.inr (.inl h)))
theorem Inv.deed {o : Oc} (q : Inv f sn n c) (hf : f.ok) (hw : c.waits = false) (hd : c.done = false) (ho : c.op < c.ops.length) (hb : opBad c.parts o = false) : Inv f sn (n + 1) (c.deed o) := by
  have hi := op_in hb
  have q1 : Inv f sn (n + 1) c := q.mono (by omega)
  unfold Cl.deed
  split
  · exact q1.send hf hd ho ⟨hi.2.2.1, hi.2.2.2.1⟩ (by show 1 ≤ 16; omega)
  split
  · exact q.endT hf hw hd ho
  split
  · exact q.endT hf hw hd ho
  split
  · exact q1.poll hf hw hd ho
  · exact q.copy hf hw hd ho ⟨hi.2.2.1, hi.2.2.2.1⟩ ⟨hi.2.2.2.2.1, hi.2.2.2.2.2.1⟩
theorem Inv.decide (q : Inv f sn n c) (hf : f.ok) (hw : c.waits = false) : Inv f sn (n + 1) c.decide := by
  unfold Cl.decide
  split
  · exact q.mono (by omega)
  · rename_i hd
    have hd : c.done = false := by simpa using hd
    split
    · exact (q.mono (by omega)).qInit hf hd
    · split
      · exact q.finish hw hd
      · rename_i o he
        have hl : c.op.toNat < c.ops.length := by
          rcases Nat.lt_or_ge c.op.toNat c.ops.length with h | h
          · exact h
          · rw [List.getElem?_eq_none h] at he; cases he
        have h0 := q.po.1
        exact q.deed hf hw hd (by omega) (q.oo hf o (List.mem_of_getElem? he))
theorem Inv.decides (hf : f.ok) : ∀ (k n : Nat) (c : Cl), Inv f sn n c → Inv f sn (n + k) (decides k c)
  | 0, _, _, q => q
  | k + 1, n, c, q => by
    show Inv f sn _ (if c.waits = true ∨ c.done = true then c else Go.Proofs.Ytajhdjjmhfbhgaa.decides k c.decide)
    split
    · exact q.mono (by omega)
    · rename_i h
      have hw : c.waits = false := by cases hc : c.waits with | false => rfl | true => exact absurd (.inl hc) h
      exact (Inv.decides hf k (n + 1) c.decide (q.decide hf hw)).mono (by omega)
theorem Inv.nextT (q : Inv f sn n c) (hf : f.ok) (hw : c.waits = true) : Inv f sn n c.nextT := by
  have hn := q.nn hf
  have hp := q.partOf hf hw
  refine ⟨q.fx, ⟨by show (seti _ _ _).length = _; rw [seti_len]; exact q.tg.1, ?_⟩, q.pl, q.po, q.nx, q.wt, q.vl, q.ot, q.seen, q.added, q.pre⟩
  intro t ht
  have ht : t ∈ c.targets.set c.partOf.toNat ((Go.Proofs.Ytajhdjjmhfbhgaa.nx (geti c.targets c.partOf)).tmod c.nodes) := ht
  rcases List.mem_or_eq_of_mem_set ht with h | h
  · exact q.tg.2 t h
  · have h1 : geti c.targets c.partOf ∈ c.targets := getD_mem hp.2
    have h2 := q.tg.2 _ h1
    rw [h]
    have e : Go.Proofs.Ytajhdjjmhfbhgaa.nx (geti c.targets c.partOf) = geti c.targets c.partOf + 1 := w_i64 (by omega) (by omega)
    rw [e]
    exact ⟨Int.tmod_nonneg _ (by omega), Int.tmod_lt_of_pos _ (by show 0 < c.nodes; omega)⟩
theorem Inv.tick (q : Inv f sn n c) (hf : f.ok) : Inv f sn (n + 1) c.tick := by
  unfold Cl.tick
  split
  · rename_i hw
    exact q.decide hf hw
  · rename_i hw
    have hw : c.waits = true := by simpa using hw
    have q1 : Inv f sn (n + 1) c := q.mono (by omega)
    split
    · exact ⟨q1.fx, q1.tg, q1.pl, q1.po, q1.nx, q1.wt, q1.vl, q1.ot, q1.seen, q1.added, q1.pre⟩
    · have q2 : Inv f sn (n + 1) { c with age := 0 } := ⟨q1.fx, q1.tg, q1.pl, q1.po, q1.nx, q1.wt, q1.vl, q1.ot, q1.seen, q1.added, q1.pre⟩
      have q3 : Inv f sn (n + 1) (if c.busy then { c with age := 0 } else ({ c with age := 0 } : Cl).nextT : Cl) := by
        split
        · exact q2
        · exact q2.nextT hf hw
      have q4 : Inv f sn (n + 1) { (if c.busy then { c with age := 0 } else ({ c with age := 0 } : Cl).nextT : Cl) with busy := false } := ⟨q3.fx, q3.tg, q3.pl, q3.po, q3.nx, q3.wt, q3.vl, q3.ot, q3.seen, q3.added, q3.pre⟩
      exact q4.again hf (by show (if c.busy = true then ({ c with age := 0 } : Cl) else ({ c with age := 0 } : Cl).nextT).waits = true; split <;> exact hw)
theorem Inv.taken (q : Inv f sn n c) : Inv f sn n { c with out := none } := ⟨q.fx, q.tg, q.pl, q.po, q.nx, q.wt, q.vl, (fun t h => by cases h), q.seen, q.added, q.pre⟩
theorem Inv.anew (q : Inv f sn n c) (hf : f.ok) : Inv f sn n c.anew := by
  have q2 : Inv f sn n ({ c with inc := Go.Proofs.Ytajhdjjmhfbhgaa.nx c.inc, waits := false, out := none, ready := false } : Cl) := by
    refine ⟨q.fx, q.tg, q.pl, q.po, ?_, (fun h => by cases h), q.vl, (fun t h => by cases h), q.seen, q.added, q.pre⟩
    rintro (h | h | h | h)
    · cases h
    · exact q.nx (.inr (.inl h))
    · exact q.nx (.inr (.inr (.inl h)))
    · exact q.nx (.inr (.inr (.inr h)))
  exact q2.away hf
end
end Go.Proofs.Ytajhdjjmhfbhgaa
