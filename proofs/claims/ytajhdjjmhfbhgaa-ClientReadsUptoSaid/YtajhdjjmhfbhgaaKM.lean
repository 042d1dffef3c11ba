/- Layer 19: asking for a place, a producer, a partition. -/
import Derived.Test.YtajhdjjmhfbhgaaKL
import Derived.Test.YtajhdjjmhfbhgaaFKc
namespace Go.Proofs.Ytajhdjjmhfbhgaa
open Go Go.Pk
/-- numbers and lengths as they should be -/
structure Good (c : Cl) : Prop where
  parts : 1 ≤ c.parts ∧ c.parts ≤ 4
  nodes : 1 ≤ c.nodes ∧ c.nodes ≤ 5
  targets : c.targets.length = (c.parts + 2).toNat
  tg : ∀ t ∈ c.targets, 0 ≤ t ∧ t < c.nodes
  opsN : c.ops.length ≤ 64
  ops : ∀ o ∈ c.ops, opBad c.parts o = false
  op : 0 ≤ c.op ∧ c.op ≤ c.ops.length
  next : (c.ready = true ∨ c.step = 2 ∨ c.asked.kind = 5 ∨ c.asked.kind = 13) → c.next.length = (c.parts + 2).toNat
  att : c.att.length = c.parts.toNat
  sure : c.sure.length = c.parts.toNat
  mine : ∀ k ∈ c.mine, 0 ≤ k ∧ k < c.parts
  mlen : c.mine.length ≤ 4
  turn : 0 ≤ c.turn
  dry : 0 ≤ c.dry
  values : c.values.length ≤ 1000000 ∧ ∀ v ∈ c.values, v.data.toList.length ≤ 140737488355328
  seen : c.seen.length ≤ 1000000000000
  added : c.added.length ≤ 1000000000000
  out : c.out = none
theorem op_in {n : Int} {o : Oc} (h : opBad n o = false) : 1 ≤ o.kind ∧ o.kind ≤ 5 ∧ 0 ≤ o.part ∧ o.part < n ∧ 0 ≤ o.to ∧ o.to < n ∧ 0 ≤ o.count ∧ o.count ≤ 16 ∧ (o.value.size : Int) ≤ 64 := by
  simp only [opBad, Bool.or_eq_false_iff, decide_eq_false_iff_not] at h
  omega
section
variable {W w : World} {l : List Res} {K : Value → World → Prop} {b : Nat} {c : Cl} {p : ClP}
theorem put_part (a : Aq) : (c.put a).partOf = if a.kind = 7 ∨ a.kind = 8 ∨ a.kind = 9 then c.parts else if a.kind = 5 ∨ a.kind = 6 then a.part else IntKind.i64.wrap (c.parts + 1) := rfl
/-- where a request goes -/
theorem put_in {a : Aq} (hg : 1 ≤ c.parts ∧ c.parts ≤ 4) (ht : c.targets.length = (c.parts + 2).toNat) (ha : a.kind = 5 ∨ a.kind = 6 → 0 ≤ a.part ∧ a.part < c.parts) : 0 ≤ (c.put a).partOf ∧ (c.put a).partOf.toNat < c.targets.length := by
  rw [put_part, ht]
  split
  · omega
  · split
    · rename_i h2; have := ha h2; omega
    · rw [w_i64 (by omega) (by omega)]; omega
/-- a question without values -/
theorem ask0_ok {a : Aq} (h : Sat W w (ClM b c :: l)) (hv : a.vals = []) (ho : c.out = none) (hg : 1 ≤ c.parts ∧ c.parts ≤ 4) (ht : c.targets.length = (c.parts + 2).toNat) (ha : a.kind = 5 ∨ a.kind = 6 → 0 ≤ a.part ∧ a.part < c.parts)
    (hK : ∀ w', Sat W w' (ClM b (c.ask a) :: l) → K (.tuple #[]) w') : CallP P F_client_Client_ask [.pointer (some ⟨b, 0, none⟩), .agg (a.cells ⟨none, 0, 0⟩).toArray] w K :=
  ask_ok (vl := []) (own_nil (E := elV) h).swap (by rw [hv]; rfl) ho (put_in hg ht ha).1 (put_in hg ht ha).2 hK
theorem index_ok {x : Sl} {xs : List Int} {v : Int} (h : Sat W w l) (hr : Rd W l x 1 (xs.map vI)) (hn : xs.length < 9223372036854775807) (hK : ∀ n, decide (n ≥ 0) = decide (v ∈ xs) → K (.int .i64 n) w) : CallP P F_slices_Index_int_int [x.v, .int .i64 v] w K := by
  apply c_slices_Index_int_int
  unfold S_slices_Index_int_int
  have hl : x.len = xs.length := by
    have := (hr w h).1
    simp only [List.length_map, Nat.mul_one] at this
    exact this.symm
  refine ⟨fun z w' => ∃ i : Nat, z.1 = i ∧ i ≤ xs.length ∧ v ∉ xs.take i ∧ w' = w, fun z _ => xs.length - z.1.toNat, ⟨0, rfl, Nat.zero_le _, by simp, rfl⟩, ?_⟩
  rintro ⟨i', u⟩ w1 ⟨i, hi, hil, hv, rfl⟩
  simp only at hi ⊢
  subst hi
  refine ifB_dec (fun hlt => ?_) fun hge => ?_
  · have hi1 : i < xs.length := by omega
    refine ixld et_ints (hr w1 h) (by omega) (x := xs[i]) (by simp [hi1]; rfl) ?_
    refine ifB_beq (fun e => hK _ ?_) fun hne => ?_
    · have : v ∈ xs := by rw [e]; exact List.getElem_mem hi1
      simp [this]
    · rw [w_i64 (by omega) (by omega)]
      refine ⟨⟨i + 1, rfl, by omega, ?_, trivial⟩, by omega⟩
      rw [List.take_add_one, List.getElem?_eq_getElem hi1]
      simp only [Option.toList_some, List.mem_append, List.mem_singleton, not_or]
      exact ⟨hv, hne⟩
  · rw [List.take_of_length_le (by omega)] at hv
    exact hK _ (by simp [hv])
theorem contains_ok {x : Sl} {xs : List Int} {v : Int} (h : Sat W w l) (hr : Rd W l x 1 (xs.map vI)) (hn : xs.length < 9223372036854775807) (hK : K (.bool (decide (v ∈ xs))) w) : CallP P F_slices_Contains_int_int [x.v, .int .i64 v] w K := by
  apply c_slices_Contains_int_int
  unfold S_slices_Contains_int_int
  refine index_ok h hr hn fun n e => tyI ?_
  rw [e]
  exact hK
theorem ask0_okL {a : Aq} (h : Sat W w (ClL b c p l)) (hv : a.vals = []) (ho : c.out = none) (hg : 1 ≤ c.parts ∧ c.parts ≤ 4) (ht : c.targets.length = (c.parts + 2).toNat) (ha : a.kind = 5 ∨ a.kind = 6 → 0 ≤ a.part ∧ a.part < c.parts)
    (hK : ∀ s' w', Sat W w' (ClL b (c.ask a) { p with vs := ⟨none, 0, 0⟩, vl := [], out := s' } l) → K (.tuple #[]) w') : CallP P F_client_Client_ask [.pointer (some ⟨b, 0, none⟩), .agg (a.cells ⟨none, 0, 0⟩).toArray] w K :=
  ask_okL (p := p) (vl := []) (Sat.sel (own_nil (E := elV) h) 14 [1, 2, 3, 4, 5, 6, 7, 8, 9, 10, 11, 12, 13, 0]) (by rw [hv]; rfl) ho (put_in hg ht ha).1 (put_in hg ht ha).2 hK
theorem settle_ok {x : Sl} {ps : List Int} (h1 : Sat W w (ClL b c p l)) (hx : RdC w x 1 (ps.map vI)) (hn : ps.length < 9223372036854775807) (hp : ∀ k ∈ ps, 0 ≤ k ∧ k < c.parts) (ho : c.out = none) (hg : 1 ≤ c.parts ∧ c.parts ≤ 4) (ht : c.targets.length = (c.parts + 2).toNat) (ha : c.att.length = c.parts.toNat)
    (hT : c.settle ps = (c, true) → K (.bool true) w) (hF : ∀ w', (c.settle ps).2 = false → Sat W w' (ClM b (c.settle ps).1 :: l) → K (.bool false) w') : CallP P F_client_Client_settle [.pointer (some ⟨b, 0, none⟩), x.v] w K := by
  have h : Sat W w (ClM b c :: l) := sat_cl.2 ⟨p, h1⟩
  apply c_client_Client_settle
  unfold S_client_Client_settle
  unfold Cl.settle at hT hF
  refine ldX h1 84 (k := .bool) (x := c.joined) ?_
  cases hj : c.joined with
  | false =>
    rw [if_pos hj] at hF
    simp only [Bool.not_false, ifB_true]
    exact ask0_ok (a := { zAq with kind := 11 }) h rfl ho hg ht (by rintro (h | h) <;> cases h) fun w2 h2 => tupU rfl (hF w2 rfl h2)
  | true =>
    rw [if_neg (show ¬ c.joined = false by rw [hj]; decide)] at hT hF
    simp only [Bool.not_true, ifB_false]
    have hl : x.len = ps.length := by
      have := hx.1
      simp only [List.length_map, Nat.mul_one] at this
      exact this.symm
    refine ⟨fun z w' => ∃ i : Nat, z.1 = i ∧ i ≤ ps.length ∧ (∀ k ∈ ps.take i, ¬ geti c.att k < 0) ∧ w' = w, fun z _ => ps.length - z.1.toNat, ⟨0, rfl, Nat.zero_le _, (by intro k hk; simp at hk), rfl⟩, ?_⟩
    rintro ⟨i', u⟩ w1 ⟨i, hi, hil, hv, rfl⟩
    simp only at hi ⊢
    subst hi
    refine ifB_dec (fun hlt => ?_) fun hge => ?_
    · have hi1 : i < ps.length := by omega
      obtain ⟨k0, k1⟩ := hp _ (List.getElem_mem hi1)
      refine ixld et_ints hx (by omega) (x := ps[i]) (by simp [hi1]; rfl) ?_
      refine ldX h1 87 (x := p.att) ?_
      have hr : Sat W w1 (SlR T_int 1 p.att (c.att.map vI) :: _) := Sat.up (L := ClL b c p l) h1 10
      have hlt2 : ps[i].toNat < c.att.length := by omega
      refine ixld et_ints hr.rdc k0 (x := geti c.att ps[i]) (by unfold geti; rw [List.getElem?_map, List.getD_eq_getElem?_getD, List.getElem?_eq_getElem hlt2]; rfl) ?_
      have hf : ps.find? (fun k => decide (geti c.att k < 0)) = if geti c.att ps[i] < 0 then some ps[i] else (ps.drop (i + 1)).find? fun k => decide (geti c.att k < 0) := by
        have e1 : ps = ps.take i ++ (ps[i] :: ps.drop (i + 1)) := by rw [← List.drop_eq_getElem_cons hi1, List.take_append_drop]
        conv => lhs; rw [e1]
        rw [List.find?_append, List.find?_eq_none.2 (by intro k hk; simpa using hv k hk), Option.none_or, List.find?_cons]
        split
        · rename_i h3; rw [if_pos (by simpa using h3)]
        · rename_i h3; rw [if_neg (by simpa using h3)]
      refine ifB_dec (fun hlt3 => ?_) fun hge3 => ?_
      · rw [hf, if_pos hlt3] at hF
        exact ask0_ok (a := { zAq with kind := 14, part := ps[i] }) h rfl ho hg ht (by rintro (h | h) <;> cases h) fun w2 h2 => tupU rfl (hF w2 rfl h2)
      · rw [w_i64 (by omega) (by omega)]
        refine ⟨⟨i + 1, rfl, by omega, fun k hk => ?_, trivial⟩, by omega⟩
        rw [List.take_add_one, List.getElem?_eq_getElem hi1] at hk
        simp only [Option.toList_some, List.mem_append, List.mem_singleton] at hk
        rcases hk with hk | rfl
        · exact hv k hk
        · exact hge3
    · rw [List.take_of_length_le (by omega)] at hv
      rw [List.find?_eq_none.2 (by intro k hk; simpa using hv k hk)] at hT
      exact hT rfl
theorem prep_true {n : Int} (hr : c.ready = true) (hm : n ∈ c.added) : c.prepare n = (c, true) := by
  unfold Cl.prepare
  rw [if_neg (by rw [hr]; decide), if_pos hm]
theorem prep_add {n : Int} (hr : c.ready = true) (hm : n ∉ c.added) : c.prepare n = ((if c.opn < 0 then { c with opn := c.epoch, begin := c.op } else c : Cl).ask { zAq with kind := 8, pid := c.pid, epoch := c.epoch, offset := n }, false) := by
  unfold Cl.prepare
  rw [if_neg (by rw [hr]; decide), if_neg hm]
theorem prep_ok {n : Int} (h1 : Sat W w (ClL b c p l)) (ho : c.out = none) (hg : 1 ≤ c.parts ∧ c.parts ≤ 4) (ht : c.targets.length = (c.parts + 2).toNat) (hn : c.added.length ≤ 1000000000000)
    (hT : c.ready = true → c.prepare n = (c, true) → K (.bool true) w) (hF : ∀ (p' : ClP) w', p'.values = p.values → p'.att = p.att → (c.prepare n).2 = false → Sat W w' (ClL b (c.prepare n).1 p' l) → K (.bool false) w') : CallP P F_client_Client_prepare [.pointer (some ⟨b, 0, none⟩), .int .i64 n] w K := by
  have h : Sat W w (ClM b c :: l) := sat_cl.2 ⟨p, h1⟩
  cases hr : c.ready with
  | false =>
    have e : c.prepare n = (c.ask qInit, false) := if_pos hr
    rw [e] at hF
    apply c_client_Client_prepare
    unfold S_client_Client_prepare
    refine ldX h1 77 (k := .bool) (x := c.ready) ?_
    rw [hr]
    simp only [Bool.not_false, ifB_true]
    exact ask0_okL (a := qInit) h1 rfl ho hg ht (by rintro (h | h) <;> cases h) fun s' w3 h3 => tupU rfl (hF { p with vs := ⟨none, 0, 0⟩, vl := [], out := s' } w3 rfl rfl rfl h3)
  | true =>
    apply c_client_Client_prepare
    unfold S_client_Client_prepare
    refine ldX h1 77 (k := .bool) (x := c.ready) ?_
    rw [hr]
    simp only [Bool.not_true, ifB_false]
    refine ldX h1 82 (x := p.added) ?_
    have hra : Rd W (ClL b c p l) p.added 1 (c.added.map vI) := fun w' h' => by
      have hs : Sat W w' (SlR T_int 1 p.added (c.added.map vI) :: _) := Sat.up (L := ClL b c p l) h' 7
      exact hs.rdc
    refine contains_ok h1 hra (by omega) (tyI ?_)
    by_cases hm : n ∈ c.added
    · have e9 := prep_true hr hm
      rw [decide_eq_true hm]
      exact hT hr e9
    · have e9 := prep_add hr hm
      have hK : ∀ (p' : ClP) w', p'.values = p.values → p'.att = p.att → Sat W w' (ClL b ((if c.opn < 0 then { c with opn := c.epoch, begin := c.op } else c : Cl).ask { zAq with kind := 8, pid := c.pid, epoch := c.epoch, offset := n }) p' l) → K (.bool false) w' := fun p' w' q1 q2 h' => hF p' w' q1 q2 (by rw [e9]) (by rw [e9]; exact h')
      clear e9
      rw [decide_eq_false hm]
      simp only [Bool.not_false, ifB_true]
      have hc1 : ∃ c1 : Cl, c1 = (if c.opn < 0 then { c with opn := c.epoch, begin := c.op } else c) ∧ c1.pid = c.pid ∧ c1.epoch = c.epoch ∧ c1.out = none ∧ c1.parts = c.parts ∧ c1.targets = c.targets := by
        refine ⟨_, rfl, ?_⟩
        split
        · exact ⟨rfl, rfl, ho, rfl, rfl⟩
        · exact ⟨rfl, rfl, ho, rfl, rfl⟩
      obtain ⟨c1, e0, e1, e2, e3, e4, e5⟩ := hc1
      rw [← e0] at hK
      refine ⟨fun _ w' => Sat W w' (ClL b c1 p l), ?_, ?_⟩
      · rintro _ w2 h2
        have h3 := h2.drew
        refine ⟨fun w => At W b 78 (.int .u64 c.pid) w ∧ At W b 79 (.int .i64 c.epoch) w, ⟨⟨_, _, _, h3, by rw [← e1]; rfl⟩, ⟨_, _, _, h3, by rw [← e2]; rfl⟩⟩, ?_⟩
        refine hldY b 78 (k := .int .u64) (x := c.pid) (fun _ h => h.1) ?_
        refine hldY b 79 (x := c.epoch) (fun _ h => h.2) ?_
        refine ask0_okL (a := { zAq with kind := 8, pid := c.pid, epoch := c.epoch, offset := n }) h3 rfl e3 (by rw [e4]; exact hg) (by rw [e4, e5]; exact ht) (by rintro (h | h) <;> cases h) fun s' w4 h5 => tupU rfl ⟨?_, hK { p with vs := ⟨none, 0, 0⟩, vl := [], out := s' } w4 rfl rfl h5⟩
        exact ⟨⟨_, _, _, h5, by rw [← e1]; rfl⟩, ⟨_, _, _, h5, by rw [← e2]; rfl⟩⟩
      · refine ldX h1 81 (x := c.opn) ?_
        refine ifB_dec (fun h0 => ?_) fun h0 => ?_
        · have h3 := h1.drew
          have hs : ∀ {w : World} {o b' : Int} {L : List Res}, Sat W w (ClL b { c with opn := o, begin := b' } p L) → At W b 79 (.int .i64 c.epoch) w ∧ At W b 8 (.int .i64 c.op) w := fun h => ⟨⟨_, _, _, h, rfl⟩, ⟨_, _, _, h, rfl⟩⟩
          refine ⟨fun w => At W b 79 (.int .i64 c.epoch) w ∧ At W b 8 (.int .i64 c.op) w, ⟨⟨_, _, _, h3, rfl⟩, ⟨_, _, _, h3, rfl⟩⟩, ?_⟩
          refine hldY b 79 (x := c.epoch) (fun _ h => h.1) ?_
          refine hldY b 8 (x := c.op) (fun _ h => h.2) ?_
          refine stX h3 81 fun w4 h4 => ⟨hs (o := c.epoch) (b' := c.begin) h4, ?_⟩
          refine stX h4 80 fun w5 h5 => ⟨hs (o := c.epoch) (b' := c.op) h5, ?_⟩
          rw [if_pos h0] at e0
          rw [e0]
          exact h5
        · rw [if_neg h0] at e0
          rw [e0]; exact h1
end
end Go.Proofs.Ytajhdjjmhfbhgaa
