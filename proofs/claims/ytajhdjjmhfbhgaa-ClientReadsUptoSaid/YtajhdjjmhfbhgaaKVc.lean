/- Layer 19: what stays true of a client that is answered. -/
import Derived.Test.YtajhdjjmhfbhgaaKVb
namespace Go.Proofs.Ytajhdjjmhfbhgaa
open Go Go.Pk
/-- what was read so far -/
structure RdI (c : Cl) (o : Oc) (u : Nat) (r : Rs) : Prop where
  evs : ∃ evs, r.c = { c with seen := c.seen ++ evs } ∧ (∀ e ∈ evs, e.client = c.number ∧ e.op = c.op ∧ e.kind ≠ 4 ∧ e.kind ≠ 7) ∧ evs.length ≤ u
  got : o.kind = 5 → r.got = r.vals.length ∧ r.vals.length ≤ 16
  vals : ∀ v ∈ r.vals, v.data.toList.length ≤ 140737488355328
section
variable {f : Fx} {sn : List Sn} {n : Nat} {c : Cl} {m : Rp}
theorem rdI_take {o : Oc} {k base : Int} {i u : Nat} {v : List UInt8} {r : Rs} (h : RdI c o u r) (hc : o.count ≤ 16) (hs : ¬ skipV o base i r) (hv : v.length ≤ 140737488355328) : RdI c o (u + 1) (takeV o k base i v r) := by
  obtain ⟨evs, e1, e2, e3⟩ := h.evs
  refine ⟨?_, fun h5 => ?_, fun x hx => ?_⟩
  · by_cases h4 : o.kind = 4
    · refine ⟨evs ++ [{ zSn with kind := 5, client := c.number, op := c.op, part := k, offset := IntKind.i64.wrap (base + (i : Int)), value := str v }], ?_, ?_, by rw [List.length_append, List.length_singleton]; omega⟩
      · unfold takeV
        simp only
        rw [if_pos h4, e1]
        unfold Cl.tell
        simp only [List.append_assoc]
      · intro e he
        rcases List.mem_append.1 he with he | he
        · exact e2 e he
        · rw [List.mem_singleton.1 he]
          exact ⟨rfl, rfl, by show (5 : Int) ≠ 4; decide, by show (5 : Int) ≠ 7; decide⟩
    · refine ⟨evs, ?_, e2, by omega⟩
      unfold takeV
      simp only
      rw [if_neg h4, e1]
  · obtain ⟨g1, g2⟩ := h.got h5
    unfold skipV at hs
    have h3 : r.got < o.count := by
      have : ¬ (o.kind = 5 ∧ r.got ≥ o.count) := fun hh => hs (.inr (.inl hh))
      have : ¬ r.got ≥ o.count := fun hh => this ⟨h5, hh⟩
      omega
    have e : Go.Proofs.Ytajhdjjmhfbhgaa.nx r.got = r.got + 1 := w_i64 (by omega) (by omega)
    show Go.Proofs.Ytajhdjjmhfbhgaa.nx r.got = ((r.vals ++ [str v]).length : Nat) ∧ (r.vals ++ [str v]).length ≤ 16
    rw [List.length_append, List.length_singleton, e]
    omega
  · have hx : x ∈ r.vals ++ [str v] := hx
    rcases List.mem_append.1 hx with hx | hx
    · exact h.vals x hx
    · rw [List.mem_singleton.1 hx]
      show (str v).data.toList.length ≤ _
      unfold str
      exact hv
theorem rdI_att {o : Oc} {u : Nat} {r : Rs} {a : Int} (h : RdI c o u r) : RdI c o u { r with att := a } := ⟨h.evs, h.got, h.vals⟩
theorem rdI_mono {o : Oc} {u u' : Nat} {r : Rs} (h : RdI c o u r) (hu : u ≤ u') : RdI c o u' r := by
  obtain ⟨evs, e1, e2, e3⟩ := h.evs
  exact ⟨⟨evs, e1, e2, by omega⟩, h.got, h.vals⟩
theorem rdI_vals {o : Oc} {k base : Int} (hc : o.count ≤ 16) : ∀ (vs : List (List UInt8)) (i u : Nat) (r : Rs), RdI c o u r → (∀ v ∈ vs, v.length ≤ 140737488355328) → RdI c o (u + vs.length) (rdVals o k base i vs r)
  | [], i, u, r, h, _ => h
  | v :: vs, i, u, r, h, hv => by
    by_cases hs : skipV o base i r
    · rw [rdVals_skip hs]
      exact rdI_mono (rdI_vals hc vs (i + 1) u r h fun v hv' => hv v (by simp [hv'])) (by simp only [List.length_cons]; omega)
    · rw [rdVals_take hs]
      exact rdI_mono (rdI_vals hc vs (i + 1) (u + 1) _ (rdI_take h hc hs (hv v (by simp))) fun v hv' => hv v (by simp [hv'])) (by simp only [List.length_cons]; omega)
theorem rdI_all {o : Oc} {k : Int} {al : List Ao} (hc : o.count ≤ 16) : ∀ (bl : List Bt) (u : Nat) (r : Rs), RdI c o u r → (∀ d ∈ bl, ∀ v ∈ d.bs, v.length ≤ 140737488355328) → RdI c o (u + vtot bl) (rdAll o k al bl r)
  | [], u, r, h, _ => h
  | d :: bl, u, r, h, hv => by
    have hvt : vtot (d :: bl) = d.bs.length + vtot bl := rfl
    rw [hvt]
    by_cases hs : d.control = true ∨ isAborted d al = true
    · rw [rdAll_pass hs]
      exact rdI_mono (rdI_all hc bl u _ (rdI_att h) fun d' hd' => hv d' (by simp [hd'])) (by omega)
    · have h2 := rdI_vals (k := k) (base := d.base) hc d.bs 0 u r h (hv d (by simp))
      by_cases h3 : (rdVals o k d.base 0 d.bs r).att < IntKind.i64.wrap (d.base + (d.bs.length : Int))
      · rw [rdAll_stop hs rfl h3]
        exact rdI_mono h2 (by omega)
      · rw [rdAll_go hs rfl h3]
        exact rdI_mono (rdI_all hc bl _ _ h2 fun d' hd' => hv d' (by simp [hd'])) (by omega)
theorem Inv.copied {att : Int} {vals : List ByteArray} (q : Inv f sn n c) (hf : f.ok) (hw : c.waits = false) (ho : c.op < c.ops.length) (hv : vals.length ≤ 16) (hv2 : ∀ v ∈ vals, v.data.toList.length ≤ 140737488355328) : Inv f sn n (c.copied att vals) := by
  have e := nx_op q hf
  unfold Cl.copied
  split
  · have q2 : Inv f sn n { c with att := seti c.att c.asked.part (-1), step := 0 } := q.place rfl ⟨by show (seti _ _ _).length = _; rw [seti_len]; exact q.pl.1, q.pl.2⟩ (fun h => by cases h)
    exact q2.goto hw (by rw [e]; show c.op ≤ _; omega) (by rw [e]; show _ ≤ (c.ops.length : Int); omega)
  · exact q.place rfl ⟨q.pl.1, q.pl.2.1, q.pl.2.2.1, q.pl.2.2.2.1, q.pl.2.2.2.2.1, q.pl.2.2.2.2.2.1, hv, hv2⟩ (fun h => by cases h)
theorem Inv.read (q : Inv f sn n c) (hf : f.ok) (hw : c.waits = false) (hd : c.done = false) (hop : c.op < c.ops.length) (hv : ∀ d ∈ m.bl, ∀ v ∈ d.bs, v.length ≤ 140737488355328) (hn : n ≤ 1000000000000) : Inv f sn (n + vtot m.bl + 1) (c.read m) := by
  have h0 := q.po.1
  obtain ⟨o, ho⟩ : ∃ o, c.ops[c.op.toNat]? = some o := ⟨_, List.getElem?_eq_getElem (by omega)⟩
  unfold Cl.read
  rw [ho]
  simp only
  have hc := (op_in (q.oo hf o (List.mem_of_getElem? ho))).2.2.2.2.2.2.2.1
  have hr := rdI_all (c := c) (k := c.asked.part) (al := m.al) hc m.bl 0 ⟨c, geti c.att c.asked.part, 0, []⟩ ⟨⟨[], by simp, by simp, Nat.le_refl _⟩, fun _ => ⟨rfl, Nat.zero_le _⟩, by simp⟩ hv
  generalize hrf : rdAll o c.asked.part m.al m.bl ⟨c, geti c.att c.asked.part, 0, []⟩ = r at hr ⊢
  obtain ⟨evs, e1, e2, e3⟩ := hr.evs
  have q2 : Inv f sn (n + vtot m.bl + 1) r.c := by
    rw [e1]
    exact (q.more hw hd e2).mono (by omega)
  have hw2 : r.c.waits = false := by rw [e1]; exact hw
  have ho2 : r.c.op < r.c.ops.length := by rw [e1]; exact hop
  have ht : r.c.turn ≤ n ∧ r.c.dry ≤ n := by rw [e1]; exact ⟨q.pl.2.2.2.2.1.2, q.pl.2.2.2.2.2.1.2⟩
  split
  · rename_i h5
    exact q2.copied hf hw2 ho2 (hr.got h5).2 hr.vals
  · refine q2.place rfl ⟨by show (seti _ _ _).length = _; rw [seti_len]; exact q2.pl.1, q2.pl.2.1, q2.pl.2.2.1, q2.pl.2.2.2.1, ?_, ?_, q2.pl.2.2.2.2.2.2⟩ (fun h => q2.nx (.inr (.inl h)))
    · have h1 := q2.pl.2.2.2.2.1.1
      have e : Go.Proofs.Ytajhdjjmhfbhgaa.nx r.c.turn = r.c.turn + 1 := w_i64 (by omega) (by omega)
      show 0 ≤ Go.Proofs.Ytajhdjjmhfbhgaa.nx r.c.turn ∧ Go.Proofs.Ytajhdjjmhfbhgaa.nx r.c.turn ≤ _
      rw [e]; omega
    · have h1 := q2.pl.2.2.2.2.2.1.1
      have e : Go.Proofs.Ytajhdjjmhfbhgaa.nx r.c.dry = r.c.dry + 1 := w_i64 (by omega) (by omega)
      show 0 ≤ (if _ then (0 : Int) else Go.Proofs.Ytajhdjjmhfbhgaa.nx r.c.dry) ∧ (if _ then (0 : Int) else Go.Proofs.Ytajhdjjmhfbhgaa.nx r.c.dry) ≤ _
      split
      · omega
      · rw [e]; omega
theorem owned_in {ms : List Int} {parts number : Int} (hp : 0 ≤ parts) : ∀ k ∈ ownedBy ms parts number, 0 ≤ k ∧ k < parts := by
  intro k hk
  unfold ownedBy at hk
  obtain ⟨j, hj, rfl⟩ := List.mem_map.1 (List.mem_filter.1 hk).1
  have := List.mem_range.1 hj
  omega
theorem owned_len {ms : List Int} {parts number : Int} : (ownedBy ms parts number).length ≤ parts.toNat := by
  unfold ownedBy
  refine Nat.le_trans (List.length_filter_le _ _) ?_
  rw [List.length_map, List.length_range]
  exact Nat.le_refl _
theorem Inv.placed (q : Inv f sn n c) (hf : f.ok) (hw : c.waits = false) (hd : c.done = false) (hop : c.asked.kind = 6 → c.op < c.ops.length) (hv : ∀ d ∈ m.bl, ∀ v ∈ d.bs, v.length ≤ 140737488355328) (hn : n ≤ 1000000000000) : Inv f sn (n + vtot m.bl + 1) (c.placed m) := by
  have hp := q.pp hf
  have q1 : Inv f sn (n + vtot m.bl + 1) c := q.mono (by omega)
  unfold Cl.placed
  split
  · have q2 := q1.away hf
    refine ⟨q2.fx, q2.tg, ⟨q2.pl.1, q2.pl.2.1, owned_in (by omega), ?_, q2.pl.2.2.2.2⟩, q2.po, q2.nx, q2.wt, q2.vl, q2.ot, q2.seen, q2.added, q2.pre⟩
    have := owned_len (ms := m.mi) (parts := c.parts) (number := c.number)
    show (ownedBy m.mi c.parts c.number).length ≤ 4
    omega
  split
  · have q2 : Inv f sn n { c with att := seti c.att c.asked.part m.offset, sure := seti c.sure c.asked.part m.offset } := q.place rfl ⟨by show (seti _ _ _).length = _; rw [seti_len]; exact q.pl.1, by show (seti _ _ _).length = _; rw [seti_len]; exact q.pl.2.1, q.pl.2.2⟩ (fun h => q.nx (.inr (.inl h)))
    exact (q2.tell hw hd (by show (6 : Int) ≠ 4; decide) (by show (6 : Int) ≠ 7; decide)).mono (by omega)
  split
  · exact q1.place rfl ⟨q1.pl.1, by show (seti _ _ _).length = _; rw [seti_len]; exact q1.pl.2.1, q1.pl.2.2⟩ (fun h => q1.nx (.inr (.inl h)))
  split
  · rename_i h6
    exact q.read hf hw hd (hop h6) hv hn
  · exact q1
theorem kind_lt {x : Int} (h : c.kindAt = x) (hx : x ≠ 0) (h0 : 0 ≤ c.op) : c.op < c.ops.length := by
  unfold Cl.kindAt at h
  rcases Nat.lt_or_ge c.op.toNat c.ops.length with hl | hl
  · omega
  · rw [List.getElem?_eq_none hl] at h
    exact absurd h.symm hx
theorem Inv.given (q : Inv f sn n c) (hf : f.ok) (hw : c.waits = false) (hd : c.done = false) : Inv f sn (n + 1) (c.given m) := by
  have q2 : Inv f sn n ({ c with ready := true, pid := m.pid, epoch := m.epoch } : Cl).close :=
    ⟨q.fx, q.tg, q.pl, q.po, fun _ => List.length_replicate, q.wt, q.vl, q.ot, q.seen, Nat.zero_le _, q.pre⟩
  unfold Cl.given
  simp only
  split
  · exact q2.mono (by omega)
  split
  · rename_i h
    rcases h.2.2 with h | h
    · exact q2.ended hf hw hd (kind_lt h (by decide) q.po.1.1)
    · exact q2.ended hf hw hd (kind_lt h (by decide) q.po.1.1)
  split
  · rename_i h
    exact q2.ended hf hw hd (kind_lt h.2.2 (by decide) q.po.1.1)
  · exact q2.fail hw hd q.po.2.1.1 q.po.2.1.2
theorem sentL_in {part offset : Int} : ∀ (vs : List (List UInt8)) (i : Nat), ∀ e ∈ sentL c part offset i vs, e.client = c.number ∧ e.op = c.op ∧ e.kind ≠ 4 ∧ e.kind ≠ 7
  | [], _, e, he => by cases he
  | v :: vs, i, e, he => by
    rcases List.mem_cons.1 he with rfl | he
    · exact ⟨rfl, rfl, by show (1 : Int) ≠ 4; decide, by show (1 : Int) ≠ 7; decide⟩
    · exact sentL_in vs (i + 1) e he
theorem Inv.sent (q : Inv f sn n c) (hf : f.ok) (hw : c.waits = false) (hd : c.done = false) (hk : c.asked.kind = 5) (hop : c.op < c.ops.length) : Inv f sn (n + 16) (c.sent m) := by
  have e := nx_op q hf
  have q1 := q.more (evs := sentL c c.asked.part m.offset 0 c.asked.vals) hw hd (sentL_in _ _)
  rw [← tells_eq, sentL_len] at q1
  have hvl := q.vl
  have q2 : Inv f sn (n + 16) (tells c.asked.part m.offset 0 c.asked.vals c) := q1.mono (by omega)
  have hk2 : (tells c.asked.part m.offset 0 c.asked.vals c).asked.kind = 5 := by rw [tells_eq]; exact hk
  have hw2 : (tells c.asked.part m.offset 0 c.asked.vals c).waits = false := by rw [tells_eq]; exact hw
  have ho2 : (tells c.asked.part m.offset 0 c.asked.vals c).op = c.op := by rw [tells_eq]
  have hl2 : (tells c.asked.part m.offset 0 c.asked.vals c).ops = c.ops := by rw [tells_eq]
  unfold Cl.sent
  simp only
  generalize tells c.asked.part m.offset 0 c.asked.vals c = c1 at *
  have hnl : (seti c1.next c.asked.part (IntKind.i64.wrap (geti c1.next c.asked.part + (c.asked.vals.length : Int)))).length = (c1.parts + 2).toNat := by rw [seti_len]; exact q2.nx (.inr (.inr (.inl hk2)))
  have q3 : Inv f sn (n + 16) { c1 with next := seti c1.next c.asked.part (IntKind.i64.wrap (geti c1.next c.asked.part + (c.asked.vals.length : Int))) } :=
    ⟨q2.fx, q2.tg, q2.pl, q2.po, fun _ => hnl, q2.wt, q2.vl, q2.ot, q2.seen, q2.added, q2.pre⟩
  split
  · exact q3.place rfl q3.pl (fun _ => hnl)
  · exact q3.goto hw2 (by rw [e]; show c1.op ≤ _; omega) (by rw [e]; show _ ≤ (c1.ops.length : Int); rw [hl2]; omega)
theorem Inv.answered (q : Inv f sn n c) (hf : f.ok) (hw : c.waits = false) (hd : c.done = false) (hop : c.asked.kind ≠ 7 → c.op < c.ops.length) (hv : ∀ d ∈ m.bl, ∀ v ∈ d.bs, v.length ≤ 140737488355328) (hn : n ≤ 1000000000000) : Inv f sn (n + vtot m.bl + 16) (c.answered m) := by
  have q1 : Inv f sn (n + vtot m.bl + 16) c := q.mono (by omega)
  unfold Cl.answered
  split
  · exact (q.given hf hw hd).mono (by omega)
  split
  · refine ⟨q1.fx, q1.tg, q1.pl, q1.po, q1.nx, q1.wt, q1.vl, q1.ot, q1.seen, ?_, q1.pre⟩
    show (c.added ++ [_]).length ≤ _
    rw [List.length_append, List.length_singleton]
    have := q.added
    omega
  split
  · rename_i h
    exact (q.sent hf hw hd h (hop (by omega))).mono (by omega)
  split
  · rename_i h
    have q2 : Inv f sn n { c with epoch := m.epoch } := ⟨q.fx, q.tg, q.pl, q.po, q.nx, q.wt, q.vl, q.ot, q.seen, q.added, q.pre⟩
    exact (q2.ended hf hw hd (hop (by omega))).mono (by omega)
  split
  · rename_i h
    refine ⟨q1.fx, q1.tg, q1.pl, q1.po, fun _ => ?_, q1.wt, q1.vl, q1.ot, q1.seen, q1.added, q1.pre⟩
    show (seti _ _ _).length = _
    rw [seti_len]
    exact q1.nx (.inr (.inr (.inr h)))
  · exact (q.placed hf hw hd (fun h => hop (by omega)) hv hn).mono (by omega)
theorem Inv.refused {e : Int} (q : Inv f sn n c) (hf : f.ok) (hw : c.waits = false) (hd : c.done = false) (hop : c.asked.kind ≠ 7 → c.op < c.ops.length) : Inv f sn (n + 1) (c.refused e) := by
  have e1 := nx_op q hf
  have q1 : Inv f sn (n + 1) c := q.mono (by omega)
  unfold Cl.refused
  split
  · exact q.fail hw hd (by omega) (Int.le_refl _)
  split
  · rename_i h
    have := hop (by omega)
    exact (q1.away hf).goto hw (by rw [e1]; show c.op ≤ _; omega) (by rw [e1]; show _ ≤ (c.ops.length : Int); omega)
  · have q2 : Inv f sn (n + 1) (if e = 15 then c.away else c : Cl) := by
      split
      · exact q1.away hf
      · exact q1
    have hw2 : (if e = 15 then c.away else c : Cl).waits = false := by split <;> exact hw
    generalize (if e = 15 then c.away else c : Cl) = c1 at *
    refine ⟨q2.fx, q2.tg, q2.pl, q2.po, ?_, (fun h => by rw [show c1.waits = true from h] at hw2; cases hw2), q2.vl, q2.ot, q2.seen, q2.added, q2.pre⟩
    rintro (h | h | h | h)
    · cases h
    · cases h
    · exact q2.nx (.inr (.inr (.inl h)))
    · exact q2.nx (.inr (.inr (.inr h)))
theorem Inv.idle (q : Inv f sn n c) (hw : c.waits = true) (ho : c.out = none) : Inv f sn n { c with waits := false } :=
  ⟨q.fx, q.tg, q.pl, q.po, q.nx, (fun h => by cases h), q.vl, (fun t h => by rw [show c.out = some t from h] at ho; cases ho), q.seen, q.added, q.pre⟩
/-- behind an answer, ahead of what is decided -/
theorem Inv.first (q : Inv f sn n c) (hf : f.ok) (hw : c.waits = true) (ho : c.out = none) (hv : ∀ d ∈ m.bl, ∀ v ∈ d.bs, v.length ≤ 140737488355328) (hn : n ≤ 1000000000000) : Inv f sn (n + vtot m.bl + 16) (if m.er = 0 then ({ c with waits := false } : Cl).answered m else ({ c with waits := false } : Cl).refused m.er) := by
  have q2 := q.idle hw ho
  have hd := (q.wt hw).1
  have hop := (q.wt hw).2.2.1
  split
  · exact q2.answered hf rfl hd hop hv hn
  · exact (q2.refused hf rfl hd hop).mono (by omega)
theorem Inv.handle (q : Inv f sn n c) (hf : f.ok) (ho : c.out = none) (hv : ∀ d ∈ m.bl, ∀ v ∈ d.bs, v.length ≤ 140737488355328) (hn : n ≤ 1000000000000) : Inv f sn (n + vtot m.bl + 24) (c.handle m) := by
  have q1 : Inv f sn (n + vtot m.bl + 24) c := q.mono (by omega)
  unfold Cl.handle
  split
  · exact q1
  split
  · exact ⟨q1.fx, q1.tg, q1.pl, q1.po, q1.nx, q1.wt, q1.vl, q1.ot, q1.seen, q1.added, q1.pre⟩
  split
  · exact ⟨q1.fx, q1.tg, q1.pl, q1.po, q1.nx, q1.wt, q1.vl, q1.ot, q1.seen, q1.added, q1.pre⟩
  · rename_i h _ _
    have hw : c.waits = true := by cases hc : c.waits with | true => rfl | false => exact absurd (.inl hc) h
    exact Inv.decides hf 8 _ _ (q.first hf hw ho hv hn)
end
end Go.Proofs.Ytajhdjjmhfbhgaa
