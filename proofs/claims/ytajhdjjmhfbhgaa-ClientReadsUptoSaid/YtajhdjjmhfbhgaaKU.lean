/- Layer 19: refusals; values sent; what falls to a member. -/
import Derived.Test.YtajhdjjmhfbhgaaKT
namespace Go.Proofs.Ytajhdjjmhfbhgaa
open Go Go.Pk
/-- the events of values that were sent -/
def sentL (c : Cl) (part offset : Int) : Nat → List (List UInt8) → List Sn
  | _, [] => []
  | i, v :: vs => { zSn with kind := 1, client := c.number, op := c.op, part := part, offset := IntKind.i64.wrap (offset + (i : Int)), value := str v } :: sentL c part offset (i + 1) vs
theorem sentL_len {c : Cl} {part offset : Int} : ∀ (vs : List (List UInt8)) (i : Nat), (sentL c part offset i vs).length = vs.length
  | [], _ => rfl
  | v :: vs, i => by simp only [sentL, List.length_cons, sentL_len vs (i + 1)]
theorem sentL_snoc {c : Cl} {part offset : Int} (v : List UInt8) : ∀ (vs : List (List UInt8)) (i : Nat), sentL c part offset i (vs ++ [v]) = sentL c part offset i vs ++ [{ zSn with kind := 1, client := c.number, op := c.op, part := part, offset := IntKind.i64.wrap (offset + ((i + vs.length : Nat) : Int)), value := str v }]
  | [], i => rfl
  | u :: vs, i => by
    simp only [List.cons_append, sentL, sentL_snoc v vs (i + 1), List.length_cons]
    have : i + 1 + vs.length = i + (vs.length + 1) := by omega
    rw [this]
theorem tells_eq {part offset : Int} : ∀ (vs : List (List UInt8)) (i : Nat) (c : Cl), tells part offset i vs c = { c with seen := c.seen ++ sentL c part offset i vs }
  | [], i, c => by simp only [tells, sentL, List.append_nil]
  | v :: vs, i, c => by
    simp only [tells, sentL]
    rw [tells_eq vs (i + 1)]
    have e : ∀ (j : Nat) (ws : List (List UInt8)) (s : Sn), sentL (c.tell s) part offset j ws = sentL c part offset j ws := by
      intro j ws
      induction ws generalizing j with
      | nil => intro s; rfl
      | cons w ws ih => intro s; simp only [sentL, ih (j + 1)]; rfl
    rw [e]
    unfold Cl.tell
    simp only [List.append_assoc, List.cons_append, List.nil_append]
section
variable {W w : World} {l : List Res} {K : Value → World → Prop} {b : Nat} {c : Cl} {p : ClP} {cs : List Value} {m : Rp}
theorem refused_ok {e : Int} (h : Sat W w (ClM b c :: l)) (q : Good c) (hK : ∀ w', Sat W w' (ClM b (c.refused e) :: l) → K (.tuple #[]) w') :
    CallP P F_client_Client_refused [.pointer (some ⟨b, 0, none⟩), .int .i64 e] w K := by
  apply c_client_Client_refused
  unfold S_client_Client_refused
  have q1 := q.parts
  have q5 := q.seen
  have q4 := q.opsN
  unfold Cl.refused at hK
  refine ifB_beq (fun e17 => ?_) fun e17 => ?_
  · rw [if_pos e17] at hK
    refine tell_ok (s := { zSn with kind := 4, e := e }) h (by omega) fun w2 h2 => tupU rfl ?_
    obtain ⟨p, h3⟩ := sat_cl.1 h2
    refine ldX h3 6 (k := .sl) (x := p.ops) ?_
    have hol : p.ops.len = c.ops.length := by
      have hs : Sat W w2 (SlR T_api_Op 5 p.ops (elO.flat c.ops) :: _) := Sat.up (L := ClL b (c.tell { zSn with kind := 4, e := e }) p l) h3 1
      exact RdC.elen (E := elO) hs.rdc (by decide)
    refine stX h3 8 fun w3 h4 => ?_
    rw [hol] at h4
    exact hK w3 (sat_cl.2 ⟨p, h4⟩)
  rw [if_neg e17] at hK
  have fin : ∀ {w' : World} {c1 : Cl}, Sat W w' (ClM b c1 :: l) → (∀ w', Sat W w' (ClM b { c1 with inc := nx c1.inc, ready := false, step := 0 } :: l) → K (.tuple #[]) w') →
      ∃ (n23 : Int), (Instr.loadAt T_int (.pointer (some ((⟨b, 0, none⟩ : Addr).add 10)))).run P w' = .ok (.int .i64 n23) w' ∧ StoreP P T_int (.pointer (some ((⟨b, 0, none⟩ : Addr).add 10))) (.int .i64 (IntKind.i64.wrap (n23 + 1))) w' fun w25 =>
        StoreP P T_bool (.pointer (some (((⟨b, 0, none⟩ : Addr).add 77).add 0))) (.bool false) w25 fun w27 => StoreP P T_int (.pointer (some (((⟨b, 0, none⟩ : Addr).add 84).add 10))) (.int .i64 0) w27 fun w29 => K (.tuple #[]) w29 := by
    intro w' c1 h' hk
    obtain ⟨p, h2⟩ := sat_cl.1 h'
    refine (ldX h2 10 (x := c1.inc) ?_ : RunQ (.int .i64) P (Instr.loadAt T_int (.pointer (some ((⟨b, 0, none⟩ : Addr).add 10)))) w' _)
    refine stX h2 10 fun w3 h3 => ?_
    refine stX h3 77 fun w4 h4 => ?_
    refine stX h4 94 fun w5 h5 => ?_
    exact hk w5 (sat_cl.2 ⟨p, h5⟩)
  refine ifB_beq (fun e15 => ?_) fun e15 => ?_
  · obtain ⟨p, h1⟩ := sat_cl.1 h
    refine ldX h1 13 (x := c.asked.kind) ?_
    refine ifB_beq (fun k => ?_) fun k => ?_
    · rw [if_pos ⟨e15, k⟩] at hK
      refine away_ok h (by omega) q1.2 fun w2 h2 => tupU rfl ?_
      obtain ⟨p2, h3⟩ := sat_cl.1 h2
      refine ldX h3 8 (x := c.op) ?_
      refine stX h3 8 fun w3 h4 => ?_
      exact hK w3 (sat_cl.2 ⟨p2, h4⟩)
    · rw [if_neg (fun h => k h.2), if_pos e15] at hK
      refine ⟨fun _ w' => Sat W w' (ClM b c.away :: l), fun _ w2 h2 => fin h2 hK, ?_⟩
      refine ifB_beq (fun _ => ?_) fun hne => absurd e15 hne
      exact away_ok h (by omega) q1.2 fun w2 h2 => tupU rfl h2
  · rw [if_neg (fun h => e15 h.1), if_neg e15] at hK
    refine ⟨fun _ w' => Sat W w' (ClM b c :: l), fun _ w2 h2 => fin h2 hK, ?_⟩
    exact ifB_beq (fun he => absurd he e15) fun _ => h
theorem owner_ok {x : Sl} {ms : List Int} {k : Int} (h : Sat W w l) (hr : Rd W l x 1 (ms.map vI)) (hK : K (.int .i64 (owner ms k)) w) : CallP P F_group_Owner [x.v, .int .i64 k] w K := by
  apply c_group_Owner
  unfold S_group_Owner
  have hl : x.len = ms.length := by
    have := (hr w h).1
    simp only [List.length_map, Nat.mul_one] at this
    exact this.symm
  unfold owner at hK
  refine ⟨fun _ w' => ¬ (ms.length = 0 ∨ k < 0) ∧ w' = w, ?_, ?_⟩
  · rintro _ w2 ⟨hn, rfl⟩
    rw [if_neg hn] at hK
    rw [hl]
    refine remR (by omega) ?_
    have hidx : 0 ≤ k.tmod ms.length ∧ k.tmod ms.length < ms.length := by
      rw [Int.tmod_eq_emod_of_nonneg (by omega)]
      exact ⟨Int.emod_nonneg _ (by omega), Int.emod_lt_of_pos _ (by omega)⟩
    exact ixld et_ints (hr w2 h) hidx.1 (x := geti ms (k.tmod ms.length)) (geti_at (by omega)) hK
  · refine ifB_beq (fun e => ?_) fun e => ?_
    · rw [if_pos (.inl (by omega))] at hK
      exact hK
    · refine ifB_dec (fun hk => ?_) fun hk => ⟨by omega, rfl⟩
      rw [if_pos (.inr hk)] at hK
      exact hK
theorem own_step {ms : List Int} {n : Int} {i : Nat} : (((List.range (i + 1)).map fun k => ((k : Nat) : Int)).filter fun k => owner ms k == n) = (((List.range i).map fun k => ((k : Nat) : Int)).filter fun k => owner ms k == n) ++ (if owner ms (i : Int) = n then [(i : Int)] else []) := by
  rw [List.range_succ, List.map_append, List.filter_append]
  congr 1
  by_cases h : owner ms (i : Int) = n
  · simp [h]
  · simp [h]
theorem owned_ok {x : Sl} {ms : List Int} {parts n : Int} (h : Sat W w l) (hr : Rd W l x 1 (ms.map vI)) (hp : 0 ≤ parts ∧ parts ≤ 4) (hK : ∀ s w', Sat W w' (IsR s (ownedBy ms parts n) :: l) → K s.v w') :
    CallP P F_client_owned [x.v, .int .i64 parts, .int .i64 n] w K := by
  apply c_client_owned
  unfold S_client_owned
  refine ⟨fun z w' => ∃ i : Nat, z.2.1 = i ∧ i ≤ parts.toNat ∧ Sat W w' (IsR z.1 (((List.range i).map fun k => ((k : Nat) : Int)).filter fun k => owner ms k == n) :: l), fun z _ => parts.toNat - z.2.1.toNat, ⟨0, rfl, Nat.zero_le _, Sat.nilSlr h T_int 1⟩, ?_⟩
  rintro ⟨s, i', u⟩ w2 ⟨i, hi, hil, h2⟩
  simp only at hi h2 ⊢
  subst hi
  have hfl : (((List.range i).map fun k => ((k : Nat) : Int)).filter fun k => owner ms k == n).length ≤ i := by
    refine Nat.le_trans (List.length_filter_le _ _) ?_
    simp
  have hsl := (Sat.isLen h2).1
  refine ifB_dec (fun hlt => ?_) fun hge => ?_
  · refine owner_ok h2.tail hr (tyI ?_)
    refine ifB_beq (fun e => ?_) fun e => ?_
    · refine bsB h2 (cs := [.int .i64 (i : Int)]) (e := T_int) (fun w => by kernel_rfl) fun g w3 h3 => ?_
      refine pushB et_ints (by decide) h3.swap rfl (by intro u hu; simp at hu; subst hu; rfl) (by omega) (by omega) fun s' w4 h4 => ?_
      rw [w_i64 (by omega) (by omega)]
      refine ⟨⟨i + 1, rfl, by omega, ?_⟩, by omega⟩
      have e2 : ((((List.range i).map fun k => ((k : Nat) : Int)).filter fun k => owner ms k == n).map vI ++ [Value.int .i64 (i : Int)]) = ((((List.range (i + 1)).map fun k => ((k : Nat) : Int)).filter fun k => owner ms k == n).map vI) := by
        rw [own_step, if_pos e, List.map_append]; rfl
      rw [e2] at h4
      exact h4.cut 1
    · rw [w_i64 (by omega) (by omega)]
      refine ⟨⟨i + 1, rfl, by omega, ?_⟩, by omega⟩
      rw [own_step, if_neg e, List.append_nil]
      exact h2
  · have e : i = parts.toNat := by omega
    subst e
    exact hK s w2 h2
theorem copied_ok {x : Sl} {att : Int} {vals : List ByteArray} (h : Sat W w (ClM b c :: SlR T_string 1 x (vals.map vT) :: l)) (ha : 0 ≤ c.asked.part ∧ c.asked.part.toNat < c.att.length) (hK : ∀ w', Sat W w' (ClM b (c.copied att vals) :: l) → K (.tuple #[]) w') :
    CallP P F_client_Client_copied [.pointer (some ⟨b, 0, none⟩), .int .i64 att, x.v] w K := by
  apply c_client_Client_copied
  unfold S_client_Client_copied
  unfold Cl.copied at hK
  obtain ⟨p, h1⟩ := sat_cl.1 h
  have hxl : x.len = vals.length := by
    have hs : Sat W w (SlR T_string 1 x (vals.map vT) :: _) := Sat.up (L := ClL b c p (SlR T_string 1 x (vals.map vT) :: l)) h1 13
    have := hs.slLen.1
    simp only [List.length_map, Nat.mul_one] at this
    exact this.symm
  refine ifB_beq (fun e => ?_) fun e => ?_
  · rw [if_pos (by omega)] at hK
    have h2 := h1.drew
    have hs : ∀ {w : World} {c' : Cl} {L : List Res}, Sat W w (ClL b c' p L) → c'.asked.part = c.asked.part → At W b 87 p.att.v w ∧ At W b 58 (.int .i64 c.asked.part) w := fun h e => ⟨⟨_, _, _, h, rfl⟩, ⟨_, _, _, h, by rw [← e]; rfl⟩⟩
    refine ⟨fun w => At W b 87 p.att.v w ∧ At W b 58 (.int .i64 c.asked.part) w, hs h2 rfl, ?_⟩
    refine hldY b 87 (k := .sl) (x := p.att) (fun _ h => h.1) ?_
    refine hldY b 58 (x := c.asked.part) (fun _ h => h.2) ?_
    have hr : Sat W w.drew (SlR T_int 1 p.att (c.att.map vI) :: _) := Sat.up (L := ClL b c p (SlR T_string 1 x (vals.map vT) :: l)) h2 10
    have hl := (Sat.isLen hr).1
    obtain ⟨sa, hsa⟩ := slSome hr (by omega)
    refine hixP et_ints hsa ha.1 (by omega) ?_
    refine stSl hr hsa (by omega) fun w3 h3 => ?_
    have e2 : (c.att.map vI).set c.asked.part.toNat (.int .i64 (-1)) = (seti c.att c.asked.part (-1)).map vI := by
      unfold seti; rw [List.map_set]; rfl
    rw [e2] at h3
    have h4 : Sat W w3 (ClL b { c with att := seti c.att c.asked.part (-1) } p (SlR T_string 1 x (vals.map vT) :: l)) := h3.dn 10
    refine ⟨hs h4 rfl, ?_⟩
    refine stX h4 94 fun w4 h5 => ?_
    refine ldX h5 8 (x := c.op) ?_
    refine stX h5 8 fun w5 h6 => ?_
    have h7 : Sat W w5 (ClL b { c with att := seti c.att c.asked.part (-1), step := 0, op := nx c.op } p (SlR T_string 1 x (vals.map vT) :: l)) := h6
    exact hK w5 (sat_cl.2 ⟨p, h7.cut 13⟩)
  · rw [if_neg (by omega)] at hK
    refine stX h1 92 fun w3 h3 => ?_
    refine stX h3 93 fun w4 h4 => ?_
    refine stX h4 94 fun w5 h5 => ?_
    have h6 : Sat W w5 (ClL b { c with offset := att, values := vals, step := 1 } { p with values := x } l) := h5.sel 14 [0, 1, 2, 3, 4, 5, 6, 7, 8, 9, 10, 11, 13]
    exact hK w5 (sat_cl.2 ⟨_, h6⟩)
end
end Go.Proofs.Ytajhdjjmhfbhgaa
