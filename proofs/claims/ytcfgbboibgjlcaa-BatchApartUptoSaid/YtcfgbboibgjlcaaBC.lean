/- Layer 7: a batch is laid. -/
import Derived.Test.YtcfgbboibgjlcaaBB
namespace Go.Proofs.Ytcfgbboibgjlcaa
open Go Go.Pk
theorem et_bools : ET P T_sl_bool T_bool 1 1 := ET.of (by kernel_rfl)
def headB (d : Dc) : List UInt8 := intB d.ba ++ intB d.ep ++ uintB d.pid.toNat ++ intB d.pe ++ intB d.sq ++ flagB d.tx ++ flagB d.ct ++ flagB d.cm ++ uintB d.bs.length
def encB (d : Dc) : List UInt8 := headB d ++ d.bs.flatMap bytesB
theorem chk0 {d : Dc} (h : chk d = 0) : ¬ bad1 d ∧ ¬ bad7 d ∧ ¬ bad2 d := by
  refine ⟨fun hb => ?_, fun hb => ?_, fun hb => ?_⟩
  · rw [chk_eq1 hb] at h; cases h
  · by_cases h1 : bad1 d
    · rw [chk_eq1 h1] at h; cases h
    · rw [chk_eq7 h1 hb] at h; cases h
  · by_cases h1 : bad1 d
    · rw [chk_eq1 h1] at h; cases h
    · by_cases h7 : bad7 d
      · rw [chk_eq7 h1 h7] at h; cases h
      · rw [chk_eq2 h1 h7 hb] at h; cases h
theorem vals_len : ∀ (bs : List (List UInt8)), (∀ b ∈ bs, b.length ≤ 64) → (bs.flatMap bytesB).length ≤ 74 * bs.length
  | [], _ => by simp
  | b :: bs, h => by
    have := vals_len bs fun x hx => h x (by simp [hx])
    have h0 := h b (by simp)
    have := uintB_len10 b.length (by omega)
    simp only [List.flatMap_cons, List.length_append, List.length_cons, bytesB] at *; omega
theorem intB_len10 {n : Int} (h0 : -9223372036854775808 ≤ n) (h1 : n < 9223372036854775808) : (intB n).length ≤ 10 := uintB_len10 _ (zig_lt h0 h1)
theorem flagB_len (b : Bool) : (flagB b).length = 1 := rfl
section
variable {W w : World} {l : List Res} {K : Value → World → Prop} {d : Dc}
theorem encode_ok (h : Sat W w l) (hn : d.num) (hv : VRd W l d) (hK0 : chk d ≠ 0 → ∀ w', Sat W w' l → K (.tuple #[.slice none 0 0, .int .i64 (chk d)]) w')
    (hK1 : chk d = 0 → ∀ s w', Sat W w' (BsR s (encB d) :: l) → K (.tuple #[s.v, .int .i64 0]) w') : CallP P F_batch_Encode [.agg d.cells.toArray] w K := by
  apply c_batch_Encode
  unfold S_batch_Encode
  refine boxB h fun b w1 h1 => ?_
  have hA : Sat W w1 (Blk b d.cells 66 :: l) := h1
  have hl := hv.len h
  refine ldAggB hA (by kernel_rfl) ?_
  refine check_ok hA hv.cons fun w2 h2 => tyI ?_
  refine ifB_bne (fun hne => hK0 hne w2 h2.tail) fun he => ?_
  obtain ⟨n1, n7, n2⟩ := chk0 he
  have hb16 : d.bs.length ≤ 16 := Nat.le_of_not_lt fun h => n2 (.inl h)
  have hb64 : ∀ b ∈ d.bs, b.length ≤ 64 := fun b hb => Nat.le_of_not_lt fun h => n2 (.inr ⟨b, hb, h⟩)
  obtain ⟨⟨a0, a1⟩, ⟨b0, b1⟩, ⟨c0, c1⟩, ⟨e0, e1⟩, ⟨f0, f1⟩⟩ := hn
  have q1 := intB_len10 a0 a1
  have q2 := intB_len10 b0 b1
  have q3 := uintB_len10 d.pid.toNat (by omega)
  have q4 := intB_len10 e0 e1
  have q5 := intB_len10 f0 f1
  have q6 := uintB_len10 d.bs.length (by omega)
  refine newWriter_ok h2 fun p w3 h3 => tyI ?_
  refine ldB h3.swap (o := 0) ?_
  refine wInt_ok h3 a0 a1 (by simp) fun w4 h4 => tupU rfl ?_
  refine ldB h4.swap (o := 0) ?_
  refine wInt_ok h4 b0 b1 (by simp; omega) fun w5 h5 => tupU rfl ?_
  refine ldB h5.swap (o := 0) ?_
  refine wUint_ok h5 c0 c1 (by simp; omega) fun w6 h6 => tupU rfl ?_
  refine ldB h6.swap (o := 0) ?_
  refine wInt_ok h6 e0 e1 (by simp; omega) fun w7 h7 => tupU rfl ?_
  refine ldB h7.swap (o := 0) ?_
  refine wInt_ok h7 f0 f1 (by simp; omega) fun w8 h8 => tupU rfl ?_
  rw [List.nil_append] at h8
  refine ldB h8.swap (o := 0) ?_
  refine ldB h8.swap (o := 0) ?_
  refine ldB h8.swap (o := 0) ?_
  refine bsB h8 (cs := [.bool d.tx, .bool d.ct, .bool d.cm]) (e := T_bool) (fun w => by kernel_rfl) fun g w9 h9 => ?_
  generalize ho : intB d.ba ++ intB d.ep ++ uintB d.pid.toNat ++ intB d.pe ++ intB d.sq = o at *
  have hol : o.length ≤ 50 := by rw [← ho]; simp; omega
  refine ⟨fun z w' => ∃ i : Nat, z.1 = i ∧ i ≤ 3 ∧ Sat W w' (WrR p (o ++ ([d.tx, d.ct, d.cm].take i).flatMap flagB) 0 :: Blk g [.bool d.tx, .bool d.ct, .bool d.cm] T_bool :: Blk b d.cells 66 :: l), fun z _ => 3 - z.1.toNat,
    ⟨0, rfl, by omega, by simpa using h9.swap⟩, ?_⟩
  rintro ⟨i', u⟩ w10 ⟨i, hi, hil, h10⟩
  simp only at hi ⊢
  subst hi
  refine ifB_dec (fun hlt => ?_) fun hge => ?_
  · have hi1 : i < [d.tx, d.ct, d.cm].length := by simp; omega
    have hi3 : i = 0 ∨ i = 1 ∨ i = 2 := by simp at hi1; omega
    refine ixld et_bools (rdBlk h10.tail (n := 3) (sz := 1) rfl |> fun _ => rdBlk h10.swap (n := 3) (sz := 1) rfl) (by omega) (k := .bool) (x := [d.tx, d.ct, d.cm][i]) (by rcases hi3 with rfl | rfl | rfl <;> rfl) ?_
    refine wFlag_ok h10 (by have : (([d.tx, d.ct, d.cm].take i).flatMap flagB).length ≤ 3 := (by rcases hi3 with rfl | rfl | rfl <;> simp [flagB]); simp only [List.length_append]; omega) fun w11 h11 => tupU rfl ?_
    rw [w_i64 (by omega) (by omega)]
    refine ⟨⟨i + 1, rfl, by simp at hi1; omega, ?_⟩, by simp at hi1; omega⟩
    rw [List.take_add_one, List.getElem?_eq_getElem hi1, List.flatMap_append, ← List.append_assoc]
    simpa using h11
  · have hge3 : ¬ (i : Int) < 3 := hge
    have hi3 : i = 3 := by omega
    subst hi3
    have h11 : Sat W w10 (WrR p (o ++ flagB d.tx ++ flagB d.ct ++ flagB d.cm) 0 :: Blk b d.cells 66 :: l) := by
      have := h10.drop2
      simpa using this
    refine ldB h11.swap (o := 0) ?_
    have hvl : d.vs.len = d.bs.length := hl.1
    rw [w_u64 (n := (d.vs.len : Int)) (by omega) (by omega)]
    have hf : (flagB d.tx).length = 1 ∧ (flagB d.ct).length = 1 ∧ (flagB d.cm).length = 1 := ⟨rfl, rfl, rfl⟩
    refine wUint_ok h11 (by omega) (by omega) (by simp only [List.length_append]; omega) fun w11 h12 => tupU rfl ?_
    have hd : o ++ flagB d.tx ++ flagB d.ct ++ flagB d.cm ++ uintB ((d.vs.len : Int)).toNat = headB d := by rw [headB, ho, ← hvl]; rfl
    rw [hd] at h12
    have hhl : (headB d).length ≤ 63 := by rw [headB, ho]; simp only [List.length_append]; omega
    refine ldB h12.swap (o := 0) ?_
    refine ⟨fun z w' => ∃ i : Nat, z.1 = i ∧ i ≤ d.bs.length ∧ Sat W w' (WrR p (headB d ++ (d.bs.take i).flatMap bytesB) 0 :: Blk b d.cells 66 :: l), fun z _ => d.bs.length - z.1.toNat, ⟨0, rfl, by omega, by simpa using h12⟩, ?_⟩
    rintro ⟨i', u⟩ w12 ⟨i, hi, hil2, h13⟩
    simp only at hi ⊢
    subst hi
    have hvl2 := vals_len (d.bs.take i) fun b hb => hb64 b (List.mem_of_mem_take hb)
    simp only [List.length_take] at hvl2
    refine ifB_dec (fun hlt => ?_) fun hge => ?_
    · have hi1 : i < d.bs.length := by omega
      have hbl := hb64 _ (List.getElem_mem hi1)
      refine (hv.cons.cons).ld h13 hi1 fun s hs hsl hr => ?_
      refine wBytes_ok h13 ((hv.cons (R := Blk b d.cells 66)).2.2 i s _ hs (List.getElem?_eq_getElem hi1)) (by simp only [List.length_append]; omega) fun w13 h14 => tupU rfl ?_
      have ew : wErr 0 d.bs[i].length = 0 := by rw [wErr, if_neg (by omega)]
      rw [ew] at h14
      rw [w_i64 (by omega) (by omega)]
      refine ⟨⟨i + 1, rfl, by omega, ?_⟩, by omega⟩
      rw [List.take_add_one, List.getElem?_eq_getElem hi1, List.flatMap_append, ← List.append_assoc]
      simpa using h14
    · have hii : d.bs.take i = d.bs := List.take_of_length_le (by omega)
      rw [hii] at h13 hvl2
      refine wOut0_ok h13 (by simp only [List.length_append]; omega) fun s w13 h14 => tup2 ?_
      exact hK1 he s w13 (h14.drop2.drop2)
theorem app2 {s x : Sl} {o n : List UInt8} {ty : TypeId} {K : Sl → World → Prop} (h : Sat W w (BsR x n :: BsR s o :: l)) (hb : o.length + n.length ≤ 140737488355328)
    (hK : ∀ s' w', Sat W w' (BsR s' (o ++ n) :: l) → K s' w') : RunK .sl P (Builtin.append_ #[T_sl_uint8, T_sl_uint8] ty #[s.v, x.v]) w K :=
  appBytes h.swap h.rdc hb fun s' w' h' => hK s' w' h'.drop2
theorem rencode_ok (h : Sat W w l) (hn : d.num) (hv : VRd W l d) (hK0 : chk d ≠ 0 → ∀ w', Sat W w' l → K (.tuple #[.slice none 0 0, .int .i64 (chk d)]) w')
    (hK1 : chk d = 0 → ∀ s w', Sat W w' (BsR s (encB d) :: l) → K (.tuple #[s.v, .int .i64 0]) w') : CallP P F_ref07_DocEncode [.agg d.cells.toArray] w K := by
  apply c_ref07_DocEncode
  unfold S_ref07_DocEncode
  refine boxB h fun b w1 h1 => ?_
  have hA : Sat W w1 (Blk b d.cells 66 :: l) := h1
  have hl := hv.len h
  refine ldAggB hA (by kernel_rfl) ?_
  refine rcheck_ok hA hv.cons fun w2 h2 => tyI ?_
  refine ifB_bne (fun hne => hK0 hne w2 h2.tail) fun he => ?_
  obtain ⟨n1, n7, n2⟩ := chk0 he
  have hb16 : d.bs.length ≤ 16 := Nat.le_of_not_lt fun h => n2 (.inl h)
  have hb64 : ∀ b ∈ d.bs, b.length ≤ 64 := fun b hb => Nat.le_of_not_lt fun h => n2 (.inr ⟨b, hb, h⟩)
  obtain ⟨⟨a0, a1⟩, ⟨b0, b1⟩, ⟨c0, c1⟩, ⟨e0, e1⟩, ⟨f0, f1⟩⟩ := hn
  have q1 := intB_len10 a0 a1
  have q2 := intB_len10 b0 b1
  have q3 := uintB_len10 d.pid.toNat (by omega)
  have q4 := intB_len10 e0 e1
  have q5 := intB_len10 f0 f1
  have q6 := uintB_len10 d.bs.length (by omega)
  have q7 := flagB_len d.tx
  have q8 := flagB_len d.ct
  have q9 := flagB_len d.cm
  refine ldB h2 (o := 0) ?_
  refine rInt_ok h2 a0 a1 fun s1 w3 h3 => tyI ?_
  refine ldB h3.swap (o := 0) ?_
  refine rInt_ok h3 b0 b1 fun s2 w4 h4 => tyI ?_
  refine app2 h4 (by omega) fun s3 w5 h5 => ?_
  refine ldB h5.swap (o := 0) ?_
  refine rUint_ok h5 c0 c1 fun s4 w6 h6 => tyI ?_
  refine app2 h6 (by simp only [List.length_append]; omega) fun s5 w7 h7 => ?_
  refine ldB h7.swap (o := 0) ?_
  refine rInt_ok h7 e0 e1 fun s6 w8 h8 => tyI ?_
  refine app2 h8 (by simp only [List.length_append]; omega) fun s7 w9 h9 => ?_
  refine ldB h9.swap (o := 0) ?_
  refine rInt_ok h9 f0 f1 fun s8 w10 h10 => tyI ?_
  refine app2 h10 (by simp only [List.length_append]; omega) fun s9 w11 h11 => ?_
  refine ldB h11.swap (o := 0) ?_
  refine rFlag_ok h11 fun s10 w12 h12 => tyI ?_
  refine app2 h12 (by simp only [List.length_append]; omega) fun s11 w13 h13 => ?_
  refine ldB h13.swap (o := 0) ?_
  refine rFlag_ok h13 fun s12 w14 h14 => tyI ?_
  refine app2 h14 (by simp only [List.length_append]; omega) fun s13 w15 h15 => ?_
  refine ldB h15.swap (o := 0) ?_
  refine rFlag_ok h15 fun s14 w16 h16 => tyI ?_
  refine app2 h16 (by simp only [List.length_append]; omega) fun s15 w17 h17 => ?_
  refine ldB h17.swap (o := 0) ?_
  have hvl : d.vs.len = d.bs.length := hl.1
  rw [w_u64 (n := (d.vs.len : Int)) (by omega) (by omega)]
  refine rUint_ok h17 (by omega) (by omega) fun s16 w18 h18 => tyI ?_
  have e6 : (((d.vs.len : Nat) : Int)).toNat = d.bs.length := by omega
  rw [e6] at h18
  refine app2 h18 (by simp only [List.length_append]; omega) fun s17 w19 h19 => ?_
  have h20 : Sat W w19 (BsR s17 (headB d) :: Blk b d.cells 66 :: l) := h19
  have hhl : (headB d).length ≤ 63 := by rw [headB]; simp only [List.length_append]; omega
  refine ⟨fun z w' => ∃ i : Nat, z.2.1 = i ∧ i ≤ d.bs.length ∧ Sat W w' (BsR z.1 (headB d ++ (d.bs.take i).flatMap bytesB) :: Blk b d.cells 66 :: l), fun z _ => d.bs.length - z.2.1.toNat, ⟨0, rfl, by omega, by simpa using h20⟩, ?_⟩
  rintro ⟨s, i', u⟩ w20 ⟨i, hi, hil2, h21⟩
  simp only at hi h21 ⊢
  subst hi
  have hvl2 := vals_len (d.bs.take i) fun b hb => hb64 b (List.mem_of_mem_take hb)
  simp only [List.length_take] at hvl2
  refine ldB h21.swap (o := 0) ?_
  refine ifB_dec (fun hlt => ?_) fun hge => ?_
  · have hi1 : i < d.bs.length := by omega
    have hbl := hb64 _ (List.getElem_mem hi1)
    refine ldB h21.swap (o := 0) ?_
    refine (hv.cons.cons).ld h21 hi1 fun s1 hs hsl hr => ?_
    refine rBytes_ok h21 hr (by omega) fun s2 w21 h22 => tyI ?_
    have hbb : (bytesB d.bs[i]).length ≤ 74 := by have := uintB_len10 d.bs[i].length (by omega); simp only [bytesB, List.length_append]; omega
    refine app2 h22 (by simp only [List.length_append]; omega) fun s3 w22 h23 => ?_
    rw [w_i64 (by omega) (by omega)]
    refine ⟨⟨i + 1, rfl, by omega, ?_⟩, by omega⟩
    rw [List.take_add_one, List.getElem?_eq_getElem hi1, List.flatMap_append, ← List.append_assoc]
    simpa using h23
  · have hii : d.bs.take i = d.bs := List.take_of_length_le (by omega)
    rw [hii] at h21
    exact hK1 he s w20 h21.drop2
end
end Go.Proofs.Ytcfgbboibgjlcaa
