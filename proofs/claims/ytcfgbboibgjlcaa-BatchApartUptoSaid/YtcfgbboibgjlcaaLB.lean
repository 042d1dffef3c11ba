/- Layer 3: the laws of one's own bytes and of taking. -/
import Derived.Test.YtcfgbboibgjlcaaLA
namespace Go.Proofs.Ytcfgbboibgjlcaa
open Go Go.Pk
section
variable {W w : World} {l : List Res} {K : Value → World → Prop}
theorem copyBytes {x : Sl} {n : List UInt8} {ty : TypeId} {K : Sl → World → Prop} (h : Sat W w l) (hx : Rd W l x 1 (n.map vB)) (hb : n.length ≤ 140737488355328) (hK : ∀ s w', Sat W w' (BsR s n :: l) → K s w') :
    RunK .sl P (Instr.buildSlice T_sl_uint8 0 #[]) w fun s1 w1 => RunK .sl P (Builtin.append_ #[T_sl_uint8, T_sl_uint8] ty #[s1.v, x.v]) w1 K := by
  refine bsB h (cs := []) (e := T_uint8) (fun w => by kernel_rfl) fun g w1 h1 => ?_
  have h2 : Sat W w1 (BsR ⟨some ⟨g, 0, none⟩, 0, 0⟩ [] :: l) := h1.mkSlr rfl (by simp) (by simp) (by simp) rfl (by simp)
  refine appBytes h2 (hx w1 h1.tail) (by simpa using hb) fun s w3 h3 => hK s w3 (by simpa using h3)
theorem appInts {s x : Sl} {o n : List Int} {ty : TypeId} {K : Sl → World → Prop} (h : Sat W w (IsR s o :: l)) (hx : RdC w x 1 (n.map vI)) (hb : (o.length + n.length) * 8 ≤ 140737488355328)
    (hK : ∀ s' w', Sat W w' (IsR s' (o ++ n) :: l) → K s' w') : RunK .sl P (Builtin.append_ #[T_sl_int, T_sl_int] ty #[s.v, x.v]) w K := by
  have h1 := Sat.isLen h
  have h2 := hx.1
  simp at h2
  refine appB et_ints (by decide) h hx (vI_all n) (by omega) (by omega) fun s' w' h' _ => hK s' w' (by rw [IsR, List.map_append]; exact h')
theorem copyInts {x : Sl} {n : List Int} {ty : TypeId} {K : Sl → World → Prop} (h : Sat W w l) (hx : Rd W l x 1 (n.map vI)) (hb : n.length * 8 ≤ 140737488355328) (hK : ∀ s w', Sat W w' (IsR s n :: l) → K s w') :
    RunK .sl P (Instr.buildSlice T_sl_int 0 #[]) w fun s1 w1 => RunK .sl P (Builtin.append_ #[T_sl_int, T_sl_int] ty #[s1.v, x.v]) w1 K := by
  refine bsB h (cs := []) (e := T_int) (fun w => by kernel_rfl) fun g w1 h1 => ?_
  have h2 : Sat W w1 (IsR ⟨some ⟨g, 0, none⟩, 0, 0⟩ [] :: l) := h1.mkSlr rfl (by simp) (by simp) (by simp) rfl (by simp)
  refine appInts h2 (hx w1 h1.tail) (by simpa using hb) fun s w3 h3 => hK s w3 (by simpa using h3)
/-- all bytes of a slice of one's own are overwritten with one -/
theorem fillLoop {s : Sl} {o : List UInt8} (c : UInt8) {K : World → Prop} (h : Sat W w (BsR s o :: l)) (hK : ∀ w', Sat W w' l → K w') :
    LoopP (T := Int × Unit) (some (0, ())) w fun next t w1 =>
      ifB (decide (t.fst < (↑s.len : Int)))
       (RunQ .addr P (Instr.indexAt T_sl_uint8 s.v (.int .i64 t.fst)) w1 fun (a : Addr) =>
        StoreP P T_uint8 (.pointer (some a)) (.int .u8 (c.toNat : Int)) w1 fun w2 => next (some ((IntKind.i64.wrap (t.fst + 1)), ())) w2)
       (K w1) := by
  refine ⟨fun z w' => ∃ (i : Nat) (o' : List UInt8), z.1 = i ∧ i ≤ s.len ∧ Sat W w' (BsR s o' :: l), fun z _ => s.len - z.1.toNat, ⟨0, o, rfl, by omega, h⟩, ?_⟩
  rintro ⟨i', u⟩ w1 ⟨i, o', hi, hil, h1⟩
  simp only at hi ⊢
  subst hi
  have hsl := Sat.bsLen h1
  refine ifB_dec (fun hlt => ?_) fun hge => hK w1 h1.tail
  refine ixst et_bytes h1 (by omega) (by omega) fun w2 h2 => ?_
  rw [w_i64 (by omega) (by omega)]
  refine ⟨⟨i + 1, o'.set i c, rfl, by omega, ?_⟩, by omega⟩
  have e : (o'.map vB).set i (vB c) = (o'.set i c).map vB := by rw [List.map_set]
  rw [BsR, ← e]; exact h2
theorem law_own {x0 x1 : Sl} {t : List UInt8} {n : List Int} (h : Sat W w l) (hx0 : Rd W l x0 1 (t.map vB)) (hx1 : Rd W l x1 1 (n.map vI)) (hn : ∀ i ∈ n, -9223372036854775808 ≤ i ∧ i < 9223372036854775808)
    (hK : ∀ w', Sat W w' l → K (.bool true) w') : CallP P F_law03_CodecOwn [x0.v, x1.v] w K := by
  apply c_law03_CodecOwn
  unfold S_law03_CodecOwn
  have e0 := (hx0 w h).1
  have e1 := (hx1 w h).1
  simp at e0 e1
  refine newWriter_ok h fun b w1 h1 => tyI ?_
  refine ⟨fun _ w' => t.length ≤ 4096 ∧ n.length ≤ 4096 ∧ Sat W w' (WrR b [] 0 :: l), ?_, ?_⟩
  · rintro _ w2 ⟨ht, hnl, h2⟩
    refine copyBytes h2 (Rd.cons hx0) (by omega) fun s0 w3 h3 => ?_
    refine copyInts h3 (Rd.cons (Rd.cons hx1)) (by omega) fun s1 w4 h4 => ?_
    have h5 : Sat W w4 (WrR b [] 0 :: BsR s0 t :: IsR s1 n :: l) := h4.perm ((List.Perm.swap _ _ _).trans ((List.Perm.cons _ (List.Perm.swap _ _ _)).trans (List.Perm.swap _ _ _)) |>.trans (List.Perm.cons _ (List.Perm.refl _)))
    refine wBytes_ok h5 Rd.own (by simp; omega) fun w5 h6 => tupU rfl ?_
    have l1 : (bytesB t).length ≤ 10 + t.length := by have := uintB_len10 t.length (by omega); simp [bytesB]; omega
    have l2 : (intsB n).length ≤ 10 + 10 * n.length := by
      have := uintB_len10 n.length (by omega)
      have h2 : ∀ (m : List Int), (∀ i ∈ m, -9223372036854775808 ≤ i ∧ i < 9223372036854775808) → (m.flatMap intB).length ≤ 10 * m.length := by
        intro m
        induction m with
        | nil => simp
        | cons x m ih =>
          intro hm
          have := ih fun i hi => hm i (by simp [hi])
          have h3 := uintB_len10 (zig x) (zig_lt (hm x (by simp)).1 (hm x (by simp)).2)
          simp only [List.flatMap_cons, List.length_append, List.length_cons, intB] at this ⊢; omega
      have := h2 n hn
      simp only [intsB, List.length_append]; omega
    have ew : wErr 0 t.length = 0 := by rw [wErr, if_neg (by omega)]
    rw [ew, List.nil_append] at h6
    refine wInts_ok h6 (Rd.cons Rd.own) hn (by omega) fun w6 h7 => tupU rfl ?_
    refine ⟨fun _ w' => Sat W w' (WrR b (bytesB t ++ intsB n) 0 :: BsR s0 t :: IsR s1 n :: l), ?_, ?_⟩
    · rintro _ w7 h7
      refine ⟨fun z w' => ∃ (i : Nat) (o' : List UInt8), z.1 = i ∧ i ≤ s0.len ∧ Sat W w' (BsR s0 o' :: WrR b (bytesB t ++ intsB n) 0 :: IsR s1 n :: l), fun z _ => s0.len - z.1.toNat, ⟨0, t, rfl, by omega, h7.swap⟩, ?_⟩
      rintro ⟨i', u⟩ w8 ⟨i, o', hi, hil, h8⟩
      simp only at hi ⊢
      subst hi
      have hsl := Sat.bsLen h8
      refine ifB_dec (fun hlt => ?_) fun hge => ?_
      · have hi1 : i < o'.length := by omega
        refine ixld et_bytes h8.rdc (by omega) (k := .int .u8) (x := (o'[i].toNat : Int)) (by exact getElem?_vB hi1) ?_
        refine ixst et_bytes h8 (by omega) (by omega) fun w9 h9 => ?_
        rw [w_i64 (by omega) (by omega)]
        rw [w_u8_of _ (by omega)] at h9
        refine ⟨⟨i + 1, o'.set i (UInt8.ofNat ((o'[i].toNat : Int) + 1).toNat), rfl, by omega, ?_⟩, by omega⟩
        have e : (o'.map vB).set i (vB (UInt8.ofNat ((o'[i].toNat : Int) + 1).toNat)) = (o'.set i (UInt8.ofNat ((o'[i].toNat : Int) + 1).toNat)).map vB := by rw [List.map_set]
        rw [BsR, ← e]; exact h9
      · have h9 := h8.tail
        clear hsl h8 hge hil
        refine ⟨fun z w' => ∃ (i : Nat) (o' : List Int), z.1 = i ∧ i ≤ s1.len ∧ Sat W w' (IsR s1 o' :: WrR b (bytesB t ++ intsB n) 0 :: l), fun z _ => s1.len - z.1.toNat, ⟨0, n, rfl, by omega, h9.swap⟩, ?_⟩
        rintro ⟨i', u⟩ w8 ⟨i, o', hi, hil, h8⟩
        simp only at hi ⊢
        subst hi
        have hsl := Sat.isLen h8
        refine ifB_dec (fun hlt => ?_) fun hge => ?_
        · have hi1 : i < o'.length := by omega
          refine ixld et_ints h8.rdc (by omega) (k := .int .i64) (x := o'[i]) (by exact getElem?_vI hi1) ?_
          refine ixst et_ints h8 (by omega) (by omega) fun w9 h9 => ?_
          rw [w_i64 (n := (i : Int) + 1) (by omega) (by omega)]
          refine ⟨⟨i + 1, o'.set i (IntKind.i64.wrap (o'[i] + 1)), rfl, by omega, ?_⟩, by omega⟩
          have e : (o'.map vI).set i (vI (IntKind.i64.wrap (o'[i] + 1))) = (o'.set i (IntKind.i64.wrap (o'[i] + 1))).map vI := by rw [List.map_set]
          rw [IsR, ← e]; exact h9
        · have h9 := h8.tail
          refine wOut0_ok h9 (by simp; omega) fun s2 w10 h10 => tup2 ?_
          refine copyBytes h10 Rd.own (by simp; omega) fun s3 w11 h11 => ?_
          refine newReader_ok h11 Rd.own (by simp; omega) fun c w12 h12 => tyI ?_
          have h13 := h12.swap.rot4.tail
          refine fillLoop (s := s3) 9 h13 fun w13 h14 => ?_
          have hT : (bytesB t ++ intsB n).length ≤ 140737488355328 := by simp; omega
          have tB := takeB_at (t := bytesB t ++ intsB n) (p := 0) (n := t) (r := intsB n) (by simp) ht
          have hd : (bytesB t ++ intsB n).drop (0 + (bytesB t).length) = intsB n := by rw [Nat.zero_add, List.drop_left]
          have tL := takeL_at (t := bytesB t ++ intsB n) (p := 0 + (bytesB t).length) (n := n) (r := []) (by rw [hd]; simp) hnl hn
          refine dBytes_ok h14 (by omega) hT fun s4 w14 h15 => tyI ?_
          rw [tB] at h15
          refine dInts_ok h15.swap (by simp) hT fun s5 w15 h16 => tyI ?_
          simp only at h16
          rw [tL] at h16
          simp only at h16
          have hend : endE (bytesB t ++ intsB n) (0 + (bytesB t).length + (intsB n).length) 0 = 0 := by rw [endE, if_neg]; simp
          refine ⟨fun _ w' => Sat W w' (BsR s2 (bytesB t ++ intsB n) :: l), ?_, ?_⟩
          · rintro _ w16 h17
            refine newReader_ok h17 Rd.own hT fun c2 w17 h18 => tyI ?_
            refine dBytes_ok h18 (by omega) hT fun s6 w18 h19 => tyI ?_
            rw [tB] at h19
            refine fillLoop (s := s6) 3 h19 fun w19 h20 => ?_
            refine dInts_ok h20 (by simp) hT fun s7 w20 h21 => tyI ?_
            simp only at h21
            rw [tL] at h21
            simp only at h21
            refine sameInts_ok h21 Rd.own (Rd.cons (Rd.cons (Rd.cons hx1))) (by omega) fun w21 h22 => tyI ?_
            simp only [decide_true, ifB_true]
            refine dEnd_ok h22.tail fun w22 h23 => tyI ?_
            rw [hend]
            exact hK w22 h23.tail.tail
          · refine ifB_bne (fun hne => absurd rfl hne) fun _ => ?_
            refine dEnd_ok h16.swap fun w16 h17 => tyI ?_
            rw [hend]
            refine ifB_bne (fun hne => absurd rfl hne) fun _ => ?_
            refine same_ok h17.rot3 Rd.own (Rd.cons (Rd.cons (Rd.cons (Rd.cons hx0)))) (by omega) fun w17 h18 => tyI ?_
            simp only [decide_true, Bool.not_true, ifB_false]
            refine sameInts_ok h18.rot3 Rd.own (Rd.cons (Rd.cons (Rd.cons (Rd.cons hx1)))) (by omega) fun w18 h19 => tyI ?_
            simp only [decide_true, Bool.not_true, ifB_false]
            exact h19.tail.tail.tail
    · refine same_ok h7 (Rd.cons Rd.own) (Rd.cons (Rd.cons (Rd.cons hx0))) (by omega) fun w8 h8 => tyI ?_
      simp only [decide_true, Bool.not_true, ifB_false]
      refine sameInts_ok h8 (Rd.cons (Rd.cons Rd.own)) (Rd.cons (Rd.cons (Rd.cons hx1))) (by omega) fun w8 h8 => tyI ?_
      simp only [decide_true, Bool.not_true, ifB_false]
      exact h8
  · refine awake_ok h1 fun w2 h2 => tyI ?_
    simp only [Bool.not_true, Option.isNone_some, ifB_false]
    have aw : CallP P F_law03_awake [] w2 fun v9 w10 => TyP .bool v9 fun b11 => K (.bool b11) w10 := awake_ok h2 fun w3 h3 => tyI (hK w3 h3.tail)
    refine ifB_dec (fun _ => aw) fun c0 => ?_
    refine ifB_dec (fun _ => aw) fun c1 => ?_
    exact ⟨by omega, by omega, h2⟩
end
end Go.Proofs.Ytcfgbboibgjlcaa
