/- Layer 19: a program that only ends transactions. -/
import Derived.Test.YtajhdjjmhfbhgaaKI
import Derived.Laws.StructEq
namespace Go.Proofs.Ytajhdjjmhfbhgaa
open Go Go.Pk
def endOp (c : Bool) : Oc := ⟨if c then 2 else 3, 0, 0, 0, ⟨#[]⟩⟩
def opsOf (l : List Bool) : List Oc := (l.take 64).map endOp
theorem opsOf_len (l : List Bool) : (opsOf l).length ≤ 64 := by simp [opsOf]; omega
theorem opsOf_push {l : List Bool} {i : Nat} (h : i < l.length) (h64 : i < 64) : opsOf (l.take (i + 1)) = opsOf (l.take i) ++ [endOp l[i]] := by
  unfold opsOf
  rw [List.take_take, List.take_take, Nat.min_eq_right (by omega), Nat.min_eq_right (by omega), List.take_add_one, List.getElem?_eq_getElem h, List.map_append]
  rfl
theorem opsOf_full {l : List Bool} {i : Nat} (h64 : 64 ≤ i) : opsOf (l.take (i + 1)) = opsOf (l.take i) := by
  unfold opsOf
  rw [List.take_take, List.take_take, Nat.min_eq_left (by omega), Nat.min_eq_left (by omega)]
theorem opsOf_mem {l : List Bool} {o : Oc} (h : o ∈ opsOf l) : ∃ c, o = endOp c := by
  unfold opsOf at h
  obtain ⟨c, _, rfl⟩ := List.mem_map.1 h
  exact ⟨c, rfl⟩
theorem endOp_ok (c : Bool) : opBad 1 (endOp c) = false := by cases c <;> rfl
/-- what is seen of it -/
def seenL (ol : List Oc) : List Sn := (List.range ol.length).map (fun i => ({ zSn with kind := (ol.getD i wOp).kind, op := (i : Int) } : Sn)) ++ [{ zSn with kind := 7, op := (ol.length : Int) }]
def stE (cs x : Sl) (ol : List Oc) (k : Nat) : Cl :=
  { newC (oneC cs x ol) 0 ⟨0, x, ol⟩ with op := ((min k ol.length : Nat) : Int), done := decide (k > ol.length), seen := (seenL ol).take k, next := if k = 0 ∨ ol.length = 0 then [] else List.replicate 3 0 }
theorem seen_at {ol : List Oc} {k : Nat} (h : k < ol.length) : (seenL ol).take (k + 1) = (seenL ol).take k ++ [{ zSn with kind := (ol.getD k wOp).kind, op := (k : Int) }] := by
  rw [List.take_add_one]
  unfold seenL
  rw [List.getElem?_append_left (by simpa using h)]
  simp [h]
theorem seen_last {ol : List Oc} : (seenL ol).take (ol.length + 1) = (seenL ol).take ol.length ++ [{ zSn with kind := 7, op := (ol.length : Int) }] := by
  rw [List.take_add_one]
  unfold seenL
  rw [List.getElem?_append_right (by simp)]
  simp
theorem seen_len (ol : List Oc) : (seenL ol).length = ol.length + 1 := by simp [seenL]
theorem stE_0 {cs x : Sl} {ol : List Oc} : newC (oneC cs x ol) 0 ⟨0, x, ol⟩ = stE cs x ol 0 := by
  unfold stE newC
  simp
theorem stE_step {cs x : Sl} {ol : List Oc} {k : Nat} (hl : ol.length ≤ 64) (hm : ∀ o ∈ ol, ∃ c, o = endOp c) : (stE cs x ol k).dec0 = stE cs x ol (k + 1) := by
  unfold Cl.dec0
  by_cases h1 : k > ol.length
  · have hd : (stE cs x ol k).done = true := decide_eq_true h1
    rw [if_pos hd]
    unfold stE
    have e1 : min k ol.length = min (k + 1) ol.length := by omega
    have e2 : decide (k > ol.length) = decide (k + 1 > ol.length) := by rw [decide_eq_true h1, decide_eq_true (by omega)]
    have e3 : (seenL ol).take k = (seenL ol).take (k + 1) := by rw [List.take_of_length_le (by rw [seen_len]; omega), List.take_of_length_le (by rw [seen_len]; omega)]
    have e4 : (k = 0 ∨ ol.length = 0) = (k + 1 = 0 ∨ ol.length = 0) := by
      apply propext; omega
    rw [e1, e2, e3]
    simp only [e4]
  · have hd : ¬ (stE cs x ol k).done = true := by
      show ¬ decide (k > ol.length) = true
      simpa using h1
    rw [if_neg hd]
    have ho : (stE cs x ol k).op = (k : Int) := by show ((min k ol.length : Nat) : Int) = k; rw [Nat.min_eq_left (by omega)]
    rw [ho]
    show (match ol[((k : Int)).toNat]? with | none => (stE cs x ol k).finished | some o => if o.kind = 1 then (stE cs x ol k).ask qInit else (stE cs x ol k).ended (o.kind == 2)) = _
    rw [Int.toNat_natCast]
    by_cases h2 : k < ol.length
    · rw [List.getElem?_eq_getElem h2]
      obtain ⟨c, hc⟩ := hm _ (List.getElem_mem h2)
      simp only
      have hk : ol[k].kind = if c then 2 else 3 := by rw [hc]; rfl
      have hg : (ol.getD k wOp).kind = if c then 2 else 3 := by
        rw [List.getD_eq_getElem?_getD, List.getElem?_eq_getElem h2]; exact hk
      rw [if_neg (by rw [hk]; cases c <;> decide)]
      have e0 : (if (ol[k].kind == 2) = true then (2 : Int) else 3) = (ol.getD k wOp).kind := by rw [hk, hg]; cases c <;> rfl
      have e1 : min (k + 1) ol.length = k + 1 := by omega
      have e2 : decide (k + 1 > ol.length) = false := by simp; omega
      have e3 := seen_at h2
      have e5 : decide (k > ol.length) = false := by simp; omega
      unfold Cl.ended Cl.close Cl.tell stE
      rw [e0, e1, e2, e3, e5]
      have e6 : IntKind.i64.wrap ((min k ol.length : Nat) + 1 : Int) = ((k + 1 : Nat) : Int) := by rw [Nat.min_eq_left (by omega), w_i64 (by omega) (by omega)]; omega
      have e7 : (if k + 1 = 0 ∨ ol.length = 0 then [] else List.replicate 3 (0 : Int)) = List.replicate 3 0 := by rw [if_neg (by omega)]
      have e8 : ((min k ol.length : Nat) : Int) = k := by rw [Nat.min_eq_left (by omega)]
      rw [e7]
      simp only [e6]
      rw [e8]
      rfl
    · have e : k = ol.length := by omega
      subst e
      rw [List.getElem?_eq_none (Nat.le_refl _)]
      simp only
      have e1 : min (ol.length + 1) ol.length = ol.length := by omega
      have e2 : decide (ol.length + 1 > ol.length) = true := by simp
      have e3 := seen_last (ol := ol)
      unfold Cl.finished Cl.tell stE
      rw [e1, e2, e3]
      have e7 : (if ol.length + 1 = 0 ∨ ol.length = 0 then [] else List.replicate 3 (0 : Int)) = (if ol.length = 0 ∨ ol.length = 0 then [] else List.replicate 3 0) := by
        by_cases h0 : ol.length = 0
        · rw [if_pos (.inr h0), if_pos (.inr h0)]
        · rw [if_neg (by omega), if_neg (by omega)]
      rw [e7]
      simp only [Nat.min_self]
      rfl
theorem stE_quiet {cs x : Sl} {ol : List Oc} {k : Nat} (hl : ol.length ≤ 64) (hm : ∀ o ∈ ol, ∃ c, o = endOp c) : Quiet (stE cs x ol k) :=
  ⟨by show (-1 : Int) < 0; decide, rfl, rfl, ⟨by show (1 : Int) ≤ 1; decide, by show (1 : Int) ≤ 4; decide⟩, rfl, Int.natCast_nonneg _, hl, fun o ho => by
    obtain ⟨c, rfl⟩ := hm o ho
    cases c <;> exact ⟨by decide, by decide⟩⟩
section
variable {W w : World} {l : List Res} {K : Value → World → Prop}
set_option maxRecDepth 20000 in
theorem neqSn {x : Sn} {K : Bool → Prop} (hK : K false) :
    RunQ .bool P (do (eqGuard .neq T_api_Seen (.tmp 0) (.tmp 0) (.agg x.cells.toArray) (.agg x.cells.toArray)); (binOp .neq T_api_Seen (.agg x.cells.toArray) (.agg x.cells.toArray))) w K := by
  refine ⟨false, ?_, hK⟩
  have hm : P.eqGuardType P.depth T_api_Seen = false := by kernel_rfl
  have ht : P.underlying T_api_Seen = some (.struct (P.fieldsOf T_api_Seen)) := by kernel_rfl
  have hp : P.stoodInHeld T_api_Seen = false := by kernel_rfl
  have hi : P.underlying T_int = some (.int .i64) := by kernel_rfl
  have he : P.underlying T_api_Errno = some (.int .i64) := by kernel_rfl
  have hs : P.underlying T_string = some .string := by kernel_rfl
  have hf : ∀ w, (Op.eqFields 9999 x.cells.toArray x.cells.toArray (P.fieldsOf T_api_Seen).toList).run P w = .ok true w := by
    have hq : ((P.fieldsOf T_api_Seen).toList.all fun f => (decide (f.offset < 5) && f.type == T_int) || (f.offset == 5 && f.type == T_string) || (f.offset == 6 && f.type == T_api_Errno)) = true := by kernel_rfl
    have hint : ∀ t, P.underlying t = some (.int .i64) → ∀ (p : Int) w, (Op.equalIn 9999 t (.int .i64 p) (.int .i64 p)).run P w = .ok true w := fun t ht p w => by
      have := run_equalIn_int w 9998 t .i64 .i64 p p ht
      simpa using this
    have hstr : ∀ (p : ByteArray) w, (Op.equalIn 9999 T_string (.string p) (.string p)).run P w = .ok true w := fun p w => by
      have := run_equalIn_string w 9998 T_string p p hs
      simpa using this
    have hpt : ∀ i t, ((decide (i < 5) && t == T_int) || (i == 5 && t == T_string) || (i == 6 && t == T_api_Errno)) = true → ∃ v, (∀ w, (part t x.cells.toArray i).run P w = .ok v w) ∧ ∀ w, (Op.equalIn 9999 t v v).run P w = .ok true w := by
      intro i t h
      simp only [Bool.or_eq_true, Bool.and_eq_true, decide_eq_true_eq, beq_iff_eq] at h
      rcases h with (⟨h, rfl⟩ | ⟨rfl, rfl⟩) | ⟨rfl, rfl⟩
      · match i, h with
        | 0, _ => exact ⟨.int .i64 x.kind, fun w => by kernel_rfl, hint _ hi _⟩
        | 1, _ => exact ⟨.int .i64 x.client, fun w => by kernel_rfl, hint _ hi _⟩
        | 2, _ => exact ⟨.int .i64 x.op, fun w => by kernel_rfl, hint _ hi _⟩
        | 3, _ => exact ⟨.int .i64 x.part, fun w => by kernel_rfl, hint _ hi _⟩
        | 4, _ => exact ⟨.int .i64 x.offset, fun w => by kernel_rfl, hint _ hi _⟩
      · exact ⟨.string x.value, fun w => by kernel_rfl, hstr _⟩
      · exact ⟨.int .i64 x.e, fun w => by kernel_rfl, hint _ he _⟩
    generalize (P.fieldsOf T_api_Seen).toList = fs at hq
    induction fs with
    | nil => intro w; simp [Op.eqFields]
    | cons f fs ih =>
      intro w
      simp only [List.all_cons, Bool.and_eq_true] at hq
      obtain ⟨v, hp1, hp2⟩ := hpt f.offset f.type (by simpa using hq.1)
      have h2 := ih hq.2 w
      by_cases hn : f.name = "_"
      · simp only [Op.eqFields, hn, ne_eq, not_true_eq_false, if_false]
        exact h2
      · simp only [Op.eqFields, ne_eq, hn, not_false_eq_true, if_true, Sem.run_bind, hp1, Result.andThen_ok, hp2, Sem.run_ite, Bool.not_true, Bool.false_eq_true, if_false]
        exact h2
  rw [Sem.run_bind, run_eqGuard_agg (hm := hm)]
  simp only [Result.andThen_ok]
  rw [run_neq_struct, run_equalIn_agg (ht := ht) (hp := hp), hf]
  rfl
def vBo (b : Bool) : Value := .bool b
theorem et_bools : ET P T_sl_bool T_bool 1 1 := ET.of (by kernel_rfl)
theorem not_bad {cs x : Sl} {ol : List Oc} (hl : ol.length ≤ 64) (hm : ∀ o ∈ ol, ∃ c, o = endOp c) : cfBad (oneC cs x ol) = false := by
  have h1 : ol.any (opBad 1) = false := by
    rw [List.any_eq_false]
    intro o ho
    obtain ⟨c, rfl⟩ := hm o ho
    rw [endOp_ok]; decide
  have h2 : prBad 1 ⟨0, x, ol⟩ = false := by
    unfold prBad
    rw [h1]
    simp; omega
  unfold cfBad
  show (topBad (oneC cs x ol) || ([⟨0, x, ol⟩] : List Pr).any (prBad 1)) = false
  rw [List.any_cons, List.any_nil, h2]
  rfl
theorem law_empty {x0 : Sl} {bl : List Bool} (h : Sat W w l) (hx : Rd W l x0 1 (bl.map vBo)) (hn : bl.length ≤ 140737488355328) (hK : ∀ w', Sat W w' l → K (.bool true) w') : CallP P F_law19_ClientEmpty [x0.v] w K := by
  apply c_law19_ClientEmpty
  unfold S_law19_ClientEmpty
  have hl0 : x0.len = bl.length := by
    have := (hx w h).1
    simp only [List.length_map, Nat.mul_one] at this
    exact this.symm
  refine ⟨fun z w' => ∃ i : Nat, z.2.1 = i ∧ i ≤ bl.length ∧ Sat W w' (SlR T_api_Op 5 z.1 (elO.flat (opsOf (bl.take i))) :: l), fun z _ => bl.length - z.2.1.toNat, ⟨0, rfl, Nat.zero_le _, Sat.nilSlr h T_api_Op 5⟩, ?_⟩
  rintro ⟨s, i', u⟩ w1 ⟨i, hi, hil, h1⟩
  simp only at hi h1 ⊢
  subst hi
  have hsl : s.len = (opsOf (bl.take i)).length := RdC.elen (E := elO) h1.rdc (by decide)
  have hs64 := opsOf_len (bl.take i)
  refine ifB_dec (fun hlt => ?_) fun hge => ?_
  · have hi1 : i < bl.length := by omega
    refine ixld et_bools (hx w1 h1.tail) (by omega) (k := .bool) (x := bl[i]) (by simp [hi1, vBo, Kd.v]) ?_
    refine ifB_dec (fun h64 => ?_) fun h64 => ?_
    · refine ⟨fun t w' => t.1 = (endOp bl[i]).kind ∧ Sat W w' (SlR T_api_Op 5 s (elO.flat (opsOf (bl.take i))) :: l), ?_, ?_⟩
      · rintro ⟨t, u⟩ w2 ⟨ht, h2⟩
        simp only at ht
        subst ht
        refine bsB h2 (cs := (endOp bl[i]).cells) (e := T_api_Op) (fun w => by kernel_rfl) fun g w3 h3 => ?_
        refine pushB et_ops (by decide) h3.swap rfl (Oc.ones _) (by omega) (by omega) fun s' w4 h4 => ?_
        rw [w_i64 (by omega) (by omega)]
        refine ⟨⟨i + 1, rfl, by omega, ?_⟩, by omega⟩
        have e : elO.flat (opsOf (bl.take i)) ++ (endOp bl[i]).cells = elO.flat (opsOf (bl.take (i + 1))) := by
          rw [opsOf_push hi1 (by omega), flat_app, flat_one]; rfl
        rw [e] at h4
        exact h4.cut 1
      · cases hb : bl[i] with
        | true => exact ⟨rfl, h1⟩
        | false => exact ⟨rfl, h1⟩
    · rw [w_i64 (by omega) (by omega)]
      refine ⟨⟨i + 1, rfl, by omega, ?_⟩, by omega⟩
      rw [opsOf_full (by omega)]
      exact h1
  · have e : i = bl.length := by omega
    subst e
    rw [List.take_of_length_le (Nat.le_refl _)] at h1 hsl hs64
    have hm : ∀ o ∈ opsOf bl, ∃ c, o = endOp c := fun o ho => opsOf_mem ho
    generalize opsOf bl = ol at h1 hsl hs64 hm
    refine one_ok (x := s) h1 fun cs w2 h2 => tyI (k := .val) ?_
    have hnb := not_bad (cs := cs) (x := s) hs64 hm
    refine new_ok (c := oneC cs s ol) (n := 0) h2 (oneC_rd Rd.own) (by decide) (fun hb w' _ => ?_) fun p b w3 _ _ hp h3 => tup2p ?_
    · rcases hb with hb | hb | hb
      · rw [hnb] at hb; cases hb
      · exact absurd hb (by decide)
      · exact absurd hb (by show ¬ (0 : Int) ≥ (1 : Nat); decide)
    have hpe : p = ⟨0, s, ol⟩ := by
      have : some (⟨0, s, ol⟩ : Pr) = some p := hp
      exact (Option.some.inj this).symm
    subst hpe
    rw [stE_0] at h3
    have h3 : Sat W w3 (ClM b (stE cs s ol 0) :: SlR T_api_Op 5 s (elO.flat ol) :: l) := h3.cut 1
    refine ⟨fun _ w' => Sat W w' (ClM b (stE cs s ol 0) :: SlR T_api_Op 5 s (elO.flat ol) :: l), ?_, ?_⟩
    · rintro _ w4 h4
      refine ⟨fun z w' => ∃ i : Nat, z.1 = i ∧ i ≤ 70 ∧ Sat W w' (ClM b (stE cs s ol i) :: SlR T_api_Op 5 s (elO.flat ol) :: l), fun z _ => 70 - z.1.toNat, ⟨0, rfl, by omega, h4⟩, ?_⟩
      rintro ⟨k', u⟩ w5 ⟨k, hk, hk7, h5⟩
      simp only at hk ⊢
      subst hk
      have hsn : (stE cs s ol k).seen.length ≤ 1099511627776 := by
        show ((seenL ol).take k).length ≤ _
        rw [List.length_take, seen_len]; omega
      refine ifB_dec (fun hlt => ?_) fun hge => ?_
      · refine tick0_ok h5 (stE_quiet hs64 hm) rfl hsn fun p w6 h6 => tyI (k := .sl) ?_
        have ho : (stE cs s ol k).dec0.out = none := by rw [stE_step hs64 hm]; rfl
        have l1 := (outLen h6).1 ho
        refine ifB_dec (fun hgt => absurd hgt (by omega)) fun _ => ?_
        rw [w_i64 (by omega) (by omega)]
        refine ⟨⟨k + 1, rfl, by omega, ?_⟩, by omega⟩
        rw [stE_step hs64 hm] at h6
        exact sat_cl.2 ⟨_, h6.tail⟩
      · have e : k = 70 := by omega
        subst e
        refine trace_ok h5 hsn fun s3 w6 h6 => tyI (k := .sl) ?_
        have e1 : (stE cs s ol 70).seen = seenL ol := List.take_of_length_le (by rw [seen_len]; omega)
        rw [e1] at h6
        have l3 : s3.len = ol.length + 1 := by
          have := RdC.elen (E := elS) h6.rdc (by decide)
          rw [this, seen_len]
        rw [w_i64 (by omega) (by omega)]
        refine ifB_bne (fun hne => absurd (by omega) hne) fun _ => ?_
        have hat : ∀ i, (hi : i < ol.length) → (seenL ol)[i]? = some ({ zSn with kind := (ol.getD i wOp).kind, op := (i : Int) } : Sn) := by
          intro i hi
          unfold seenL
          rw [List.getElem?_append_left (by simpa using hi)]
          simp [hi]
        have hlast : (seenL ol)[ol.length]? = some ({ zSn with kind := 7, op := (ol.length : Int) } : Sn) := by
          unfold seenL
          rw [List.getElem?_append_right (by simp)]
          simp
        refine ⟨fun z w' => ∃ i : Nat, z.1 = i ∧ i ≤ ol.length ∧ Sat W w' (SlR T_api_Seen 7 s3 (elS.flat (seenL ol)) :: ClM b (stE cs s ol 70) :: SlR T_api_Op 5 s (elO.flat ol) :: l), fun z _ => ol.length - z.1.toNat, ⟨0, rfl, by omega, h6⟩, ?_⟩
        rintro ⟨j', u⟩ w7 ⟨j, hj, hjl, h7⟩
        simp only at hj ⊢
        subst hj
        refine ifB_dec (fun hlt2 => ?_) fun hge2 => ?_
        · have hj1 : j < ol.length := by omega
          have hxo : ol[(j : Int).toNat]? = some ol[j] := by simp [hj1]
          have h8 : Sat W w7 (SlR T_api_Op 5 s (elO.flat ol) :: _) := h7.up 2
          refine ixEl (E := elO) et_ops rfl h8.rdc (by omega) hxo (by omega) fun a ha => ?_
          refine ldAggC (cs := ol[j].cells) ha ?_
          refine newAgg (z := [.int .i64 0, .int .i64 0, .int .i64 0, .int .i64 0, .string ⟨#[]⟩]) h7 (Oc.ones _) fun g w8 h9 => ?_
          obtain ⟨cc, hcc⟩ := hm _ (List.getElem_mem hj1)
          refine ⟨fun t w' => t.1 = ol[j].kind ∧ Sat W w' (SlR T_api_Seen 7 s3 (elS.flat (seenL ol)) :: ClM b (stE cs s ol 70) :: SlR T_api_Op 5 s (elO.flat ol) :: l), ?_, ?_⟩
          · rintro ⟨t, u⟩ w9 ⟨ht, h10⟩
            simp only at ht
            subst ht
            have hsj : (seenL ol)[(j : Int).toNat]? = some ({ zSn with kind := ol[j].kind, op := (j : Int) } : Sn) := by
              rw [Int.toNat_natCast, hat j hj1, List.getD_eq_getElem?_getD, List.getElem?_eq_getElem hj1]; rfl
            refine ixEl (E := elS) et_seen rfl h10.rdc (by omega) hsj (by omega) fun a2 ha2 => ?_
            refine ldAggC (cs := ({ zSn with kind := ol[j].kind, op := (j : Int) } : Sn).cells) ha2 ?_
            refine neqSn (x := ({ zSn with kind := ol[j].kind, op := (j : Int) } : Sn)) ?_
            simp only [ifB_false]
            rw [w_i64 (by omega) (by omega)]
            exact ⟨⟨j + 1, rfl, by omega, h10⟩, by omega⟩
          · refine ldB h9 (o := 0) (i := 0) (x := ol[j].kind) ?_
            have hk : ol[j].kind = if cc then 2 else 3 := by rw [hcc]; rfl
            refine ifB_beq (fun e => ⟨e.symm, h9.tail⟩) fun e => ⟨?_, h9.tail⟩
            show (3 : Int) = _
            rw [hk] at e ⊢
            cases cc with
            | true => exact absurd rfl e
            | false => rfl
        · have h8 := h7.swap
          refine state_ok h8 fun w8 h9 => ?_
          have h10 := h9.swap
          have o1 : (stE cs s ol 70).op = (ol.length : Int) := by show ((min 70 ol.length : Nat) : Int) = _; rw [Nat.min_eq_right (by omega)]
          have o2 : (stE cs s ol 70).done = true := decide_eq_true (by omega)
          refine ⟨((stE cs s ol 70).op, (stE cs s ol 70).inc, (stE cs s ol 70).done, ()), rfl, ?_⟩
          simp only [o2, ifB_true]
          refine ifB_beq (fun _ => ?_) fun hne => absurd (by omega) hne
          refine ifB_beq (fun _ => ?_) fun hne => absurd rfl hne
          refine ixEl (E := elS) et_seen rfl h10.rdc (by omega) (by rw [Int.toNat_natCast, hsl]; exact hlast) (by omega) fun a ha => ?_
          refine ldC (x := (7 : Int)) (ha 0 _ rfl) ?_
          refine ifB_beq (fun _ => ?_) fun hne => absurd rfl hne
          refine ixEl (E := elS) et_seen rfl h10.rdc (by omega) (by rw [Int.toNat_natCast, hsl]; exact hlast) (by omega) fun a ha => ?_
          refine ldC (x := (ol.length : Int)) (ha 2 _ rfl) ?_
          rw [show ((ol.length : Int) == (s.len : Int)) = true from by rw [hsl]; simp]
          exact hK w8 h10.tail.tail.tail
    · refine awake19_ok h3 fun w4 h4 => tyI ?_
      simp only [Bool.not_true, ifB_false, Option.isNone_some]
      refine ifB_bne (fun hne => absurd rfl hne) fun _ => h4
end
end Go.Proofs.Ytajhdjjmhfbhgaa
