/- Layer 19: sending, ending. -/
import Derived.Test.YtajhdjjmhfbhgaaKM
namespace Go.Proofs.Ytajhdjjmhfbhgaa
open Go Go.Pk
theorem et_lists : ET P T_sl_sl_uint8 T_sl_uint8 1 24 := ET.of (by kernel_rfl)
theorem et_strs : ET P T_sl_string T_string 1 16 := ET.of (by kernel_rfl)
def bytesOf (v : ByteArray) : List UInt8 := v.data.toList
theorem geti_at {l : List Int} {k : Int} (h : k.toNat < l.length) : (l.map vI)[k.toNat]? = some (.int .i64 (geti l k)) := by
  unfold geti
  rw [List.getElem?_map, List.getD_eq_getElem?_getD, List.getElem?_eq_getElem h]; rfl
theorem send_ref {c : Cl} {n : Int} {vals : List ByteArray} (h : c.prepare n = (c, true)) : c.send n vals = c.ask { zAq with kind := 5, part := n, bp := c.pid, be := c.epoch, bs := geti c.next n, bt := true, vals := vals.map bytesOf } := by
  unfold Cl.send
  rw [h]
  rfl
theorem send_no {c : Cl} {n : Int} {vals : List ByteArray} (h : (c.prepare n).2 = false) : c.send n vals = (c.prepare n).1 := by
  unfold Cl.send
  rw [if_pos h]
section
variable {W w : World} {l : List Res} {K : Value → World → Prop} {b : Nat} {c : Cl} {p : ClP}
theorem send_ok {n : Int} {x : Sl} {vals : List ByteArray} (h : Sat W w (ClL b c p l)) (hx : Rd W (ClL b c p l) x 1 (vals.map vT)) (hv : vals.length ≤ 1000000 ∧ ∀ v ∈ vals, v.data.toList.length ≤ 140737488355328) (n0 : 0 ≤ n) (n1 : n < c.parts) (g : Good c)
    (hK : ∀ (p' : ClP) w', p'.values = p.values → p'.att = p.att → Sat W w' (ClL b (c.send n vals) p' l) → K (.tuple #[]) w') : CallP P F_client_Client_send [.pointer (some ⟨b, 0, none⟩), .int .i64 n, x.v] w K := by
  apply c_client_Client_send
  unfold S_client_Client_send
  refine prep_ok h g.out g.parts g.targets g.added (fun hr ht => tyI ?_) fun p2 w2 q1 q2 hf h2 => tyI ?_
  · simp only [Bool.not_true, ifB_false]
    rw [send_ref ht] at hK
    have gp := g.parts
    have hnx := g.next (.inl hr)
    have h3 := h.drew
    let S : World → Prop := fun w => ∃ L, Sat W w (ClL b c p L)
    refine ⟨S, ⟨_, h3⟩, ?_⟩
    refine hldX (fun w ⟨L, h⟩ => ⟨_, h⟩) 78 (k := .int .u64) (x := c.pid) ?_
    refine hldX (fun w ⟨L, h⟩ => ⟨_, h⟩) 79 (x := c.epoch) ?_
    refine hldX (fun w ⟨L, h⟩ => ⟨_, h⟩) 83 (k := .sl) (x := p.next) ?_
    have hl : c.next.length = p.next.len := (Sat.isLen (s := p.next) (Sat.up (L := ClL b c p l) h 8)).1
    obtain ⟨sa, hsa⟩ := slSome (Sat.up (L := ClL b c p l) h 8) (by omega)
    refine hixP et_ints hsa n0 (by omega) ?_
    refine hld (x := geti c.next n) (fun w hw => ?_) ?_
    · obtain ⟨L, hw⟩ := hw
      have hr : Sat W w (SlR T_int 1 p.next (c.next.map vI) :: _) := Sat.up (L := ClL b c p L) hw 8
      rw [Nat.mul_one]
      exact hr.rdc.2.2.2 sa hsa _ _ (geti_at (by omega))
    let bt (s : Sl) : List Value := [.int .i64 0, .int .i64 0, .int .u64 c.pid, .int .i64 c.epoch, .int .i64 (geti c.next n), .bool true, .bool false, .bool false, s.v]
    have bto : ∀ s, ∀ u ∈ bt s, u.oneCell' = true := by
      intro s u hu
      simp only [bt, List.mem_cons, List.not_mem_nil, or_false] at hu
      rcases hu with rfl | rfl | rfl | rfl | rfl | rfl | rfl | rfl | rfl <;> rfl
    refine allocB h3 (z := .agg #[.int .i64 0, .int .i64 0, .int .u64 0, .int .i64 0, .int .i64 0, .bool false, .bool false, .bool false, .slice none 0 0]) (by kernel_rfl) fun a w4 h4 => ⟨⟨_, h4.tail⟩, ?_⟩
    have h4 : Sat W w4 (Blk a [.int .i64 0, .int .i64 0, .int .u64 0, .int .i64 0, .int .i64 0, .bool false, .bool false, .bool false, .slice none 0 0] T_api_Batch :: ClL b c p l) := h4
    refine stAggB (cs' := bt ⟨none, 0, 0⟩) h4 rfl (bto _) (by kernel_rfl) fun w5 h5 => ⟨⟨_, h5.tail⟩, ?_⟩
    have hxl : x.len = vals.length := by
      have := (hx w h).1
      simp only [List.length_map, Nat.mul_one] at this
      exact this.symm
    refine ⟨fun z w' => ∃ (i : Nat) (vs : Sl) (vl : List (Sl × List UInt8)), z.1 = i ∧ i ≤ vals.length ∧ vl.map Prod.snd = (vals.take i).map bytesOf ∧ Sat W w' (OwnS elV vs vl :: Blk a (bt vs) T_api_Batch :: ClL b c p l), fun z _ => vals.length - z.1.toNat, ⟨0, ⟨none, 0, 0⟩, [], rfl, Nat.zero_le _, rfl, own_nil h5⟩, ?_⟩
    rintro ⟨i', u⟩ w6 ⟨i, vs, vl, hi, hil, hvl, h6⟩
    simp only at hi ⊢
    subst hi
    have hvn : vl.length = i := by
      have := congrArg List.length hvl
      simp only [List.length_map, List.length_take] at this
      omega
    refine ifB_dec (fun hlt => ?_) fun hge => ?_
    · have hi1 : i < vals.length := by omega
      refine ixld et_strs (hx w6 h6.tail.tail) (by omega) (k := .str) (x := vals[i]) (by simp [hi1, vT, Kd.v]) ?_
      refine ldB (h6.up 1) (o := 0) (i := 8) (k := .sl) (x := vs) ?_
      refine cvBytes (e := T_uint8) (by kernel_rfl) (by kernel_rfl) (by kernel_rfl) h6 (hv.2 _ (List.getElem_mem hi1)) fun s w7 h7 => ?_
      refine bsB h7 (cs := [s.v]) (e := T_sl_uint8) (fun w => by kernel_rfl) fun g2 w8 h8 => ?_
      refine own_push (E := elV) (x := (s, bytesOf vals[i])) et_lists rfl rfl (by decide) h8 (by omega) (by omega) fun s' w9 h9 => ?_
      refine stB (h9.up 1) (o := 0) (i := 8) (hi := by show 8 < 9; decide) fun w10 h10 => ?_
      rw [w_i64 (by omega) (by omega)]
      refine ⟨⟨i + 1, s', vl ++ [(s, bytesOf vals[i])], rfl, by omega, ?_, h10.swap⟩, by omega⟩
      rw [List.map_append, hvl, List.take_add_one, List.getElem?_eq_getElem hi1, List.map_append]
      rfl
    · have e : i = vals.length := by omega
      subst e
      rw [List.take_of_length_le (Nat.le_refl _)] at hvl
      refine ldAggB (h6.up 1) (by kernel_rfl) ?_
      let a2 : Aq := { zAq with kind := 5, part := n, bp := c.pid, be := c.epoch, bs := geti c.next n, bt := true, vals := vals.map bytesOf }
      refine ⟨.agg (a2.cells vs).toArray, by kernel_rfl, ?_⟩
      have h7 : Sat W w6 (ClL b c p (OwnS elV vs vl :: l)) := h6.sel 15 [2, 3, 4, 5, 6, 7, 8, 9, 10, 11, 12, 13, 14, 0]
      have hin := put_in (c := c) (a := a2) g.parts g.targets (fun _ => ⟨n0, n1⟩)
      exact ask_okL (a := a2) h7 hvl g.out hin.1 hin.2 fun s' w7 h8 => tupU rfl (hK { p with vs := vs, vl := vl, out := s' } w7 rfl rfl h8)
  · simp only [Bool.not_false, ifB_true]
    rw [send_no hf] at hK
    exact hK p2 w2 q1 q2 h2
theorem end_ok {m : Bool} (h : Sat W w (ClM b c :: l)) (g : Good c) (hK : ∀ w', Sat W w' (ClM b (c.endT m) :: l) → K (.tuple #[]) w') : CallP P F_client_Client_end [.pointer (some ⟨b, 0, none⟩), .bool m] w K := by
  have gp := g.parts
  have gs := g.seen
  unfold Cl.endT at hK
  by_cases h0 : c.opn < 0
  · rw [if_pos h0] at hK
    exact end0_ok h h0 (by omega) gp.2 (by omega) hK
  · rw [if_neg h0] at hK
    apply c_client_Client_end
    unfold S_client_Client_end
    obtain ⟨p, h1⟩ := sat_cl.1 h
    refine ldX h1 81 (x := c.opn) ?_
    refine ifB_dec (fun hn => absurd hn h0) fun _ => ?_
    have h2 := h1.drew
    refine ⟨fun w => At W b 78 (.int .u64 c.pid) w ∧ At W b 81 (.int .i64 c.opn) w, ⟨⟨_, _, _, h2, rfl⟩, ⟨_, _, _, h2, rfl⟩⟩, ?_⟩
    refine hldY b 78 (k := .int .u64) (x := c.pid) (fun _ h => h.1) ?_
    refine hldY b 81 (x := c.opn) (fun _ h => h.2) ?_
    refine ask0_ok (a := { zAq with kind := 9, pid := c.pid, epoch := c.opn, commit := m }) (sat_cl.2 ⟨p, h2⟩) rfl g.out gp g.targets (by rintro (h | h) <;> cases h) fun w4 h4 => tupU rfl ⟨?_, hK w4 h4⟩
    obtain ⟨p', h5⟩ := sat_cl.1 h4
    exact ⟨⟨_, _, _, h5, rfl⟩, ⟨_, _, _, h5, rfl⟩⟩
theorem finish_ok {o : Oc} (h : Sat W w (ClM b c :: l)) (g : Good c) (hK : ∀ w', Sat W w' (ClM b (c.endT (o.kind == 2)) :: l) → K (.tuple #[]) w') : CallP P F_client_Client_finish [.pointer (some ⟨b, 0, none⟩), .agg o.cells.toArray] w K := by
  apply c_client_Client_finish
  unfold S_client_Client_finish
  refine boxB h fun g2 w2 h2 => ?_
  have h2 : Sat W w2 (Blk g2 o.cells T_api_Op :: ClM b c :: l) := h2
  refine ldB h2 (o := 0) (i := 0) (x := o.kind) ?_
  exact end_ok h2.tail g fun w3 h3 => tupU rfl (hK w3 h3)
theorem write_ok {o : Oc} (h : Sat W w (ClM b c :: l)) (ho : opBad c.parts o = false) (g : Good c) (hK : ∀ w', Sat W w' (ClM b (c.send o.part [o.value]) :: l) → K (.tuple #[]) w') : CallP P F_client_Client_write [.pointer (some ⟨b, 0, none⟩), .agg o.cells.toArray] w K := by
  apply c_client_Client_write
  unfold S_client_Client_write
  obtain ⟨_, _, o1, o2, _, _, _, _, o3⟩ := op_in ho
  refine boxB h fun g1 w2 h2 => ?_
  have h2 : Sat W w2 (Blk g1 o.cells T_api_Op :: ClM b c :: l) := h2
  refine ldB h2 (o := 0) (i := 1) (x := o.part) ?_
  refine ldB h2 (o := 0) (i := 4) (k := .str) (x := o.value) ?_
  refine bsB h2 (cs := [.string o.value]) (e := T_string) (fun w => by kernel_rfl) fun g2 w3 h3 => ?_
  obtain ⟨p, h4⟩ := sat_cl.1 (h3.sel 3 [2, 0])
  have hx : Rd W (ClL b c p (Blk g2 [.string o.value] T_string :: l)) ⟨some ⟨g2, 0, none⟩, 1, 1⟩ 1 ([o.value].map vT) := fun w' h' => by
    have hs : Sat W w' (Blk g2 [.string o.value] T_string :: _) := Sat.up (L := ClL b c p (Blk g2 [.string o.value] T_string :: l)) h' 13
    exact rdBlk hs rfl
  have hsz : o.value.data.toList.length ≤ 64 := by
    have : o.value.size = o.value.data.toList.length := Array.length_toList.symm
    omega
  refine send_ok (vals := [o.value]) h4 hx ⟨by show (1 : Nat) ≤ 1000000; omega, by intro v hv; simp at hv; subst hv; omega⟩ o1 o2 g fun p' w4 _ _ h5 => tupU rfl (hK w4 ((sat_cl.2 ⟨p', h5⟩ : Sat W w4 (ClM b _ :: Blk g2 [.string o.value] T_string :: l)).cut 1))
end
end Go.Proofs.Ytajhdjjmhfbhgaa
