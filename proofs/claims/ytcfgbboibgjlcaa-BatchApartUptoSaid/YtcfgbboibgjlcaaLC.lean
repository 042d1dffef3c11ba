/- Layer 3: the law of taking what any bytes hold. -/
import Derived.Test.YtcfgbboibgjlcaaLB
namespace Go.Pk
open Go
theorem takeF_bound {t : List UInt8} {p : Nat} {e : Int} (hp : p ≤ t.length) : (takeF t p e).2.1 ≤ t.length := by
  have := takeU_bound (e := e) hp
  simp only [takeF]; split <;> simp <;> omega
theorem takeX_bound {t : List UInt8} {p : Nat} {e : Int} (hp : p ≤ t.length) : (takeX t p e).2.1 ≤ t.length := by
  simp only [takeX]; split
  · exact hp
  · split
    · exact hp
    · simp; omega
theorem takeB_bound {t : List UInt8} {p : Nat} {e : Int} (hp : p ≤ t.length) : (takeB t p e).2.1 ≤ t.length := by
  have := takeU_bound (e := e) hp
  simp only [takeB]; split
  · simp; omega
  · split
    · simp; omega
    · split <;> simp <;> omega
theorem takeN_bound {t : List UInt8} : ∀ (n p : Nat) (acc : List Int), p ≤ t.length → (takeN t n p acc).2.1 ≤ t.length := by
  intro n
  induction n with
  | zero => intro p acc hp; simpa [takeN] using hp
  | succ n ih =>
    intro p acc hp
    have hb := takeU_bound (e := 0) hp
    have e1 : (takeI t p 0).2 = (takeU t p 0).2 := rfl
    simp only [takeN]
    split
    · rw [e1]; exact hb.2.2.1
    · exact ih _ _ (by rw [e1]; exact hb.2.2.1)
theorem takeL_bound {t : List UInt8} {p : Nat} {e : Int} (hp : p ≤ t.length) : (takeL t p e).2.1 ≤ t.length := by
  have := takeU_bound (e := e) hp
  simp only [takeL]; split
  · simp; omega
  · split
    · simp; omega
    · exact takeN_bound _ _ _ (by omega)
/-- where a reader stands behind one taking -/
def takeS (o : Int) (t : List UInt8) (p : Nat) (e : Int) : Nat × Int :=
  if o = 0 then (takeU t p e).2 else if o = 1 then (takeI t p e).2 else if o = 2 then (takeF t p e).2 else if o = 3 then (takeX t p e).2 else if o = 4 then (takeB t p e).2 else (takeL t p e).2
theorem takeS_bound {o : Int} {t : List UInt8} {p : Nat} {e : Int} (hp : p ≤ t.length) : (takeS o t p e).1 ≤ t.length := by
  have h1 := takeU_bound (e := e) hp
  unfold takeS
  split
  · exact h1.2.2.1
  · split
    · exact h1.2.2.1
    · split
      · exact takeF_bound hp
      · split
        · exact takeX_bound hp
        · split
          · exact takeB_bound hp
          · exact takeL_bound hp
end Go.Pk
namespace Go.Proofs.Ytcfgbboibgjlcaa
open Go Go.Pk
section
variable {W w : World} {l : List Res} {K : Value → World → Prop} {b c p : Nat} {t : List UInt8} {e : Int} {s : Sl}
theorem take_ok {o : Int} (h : Sat W w (RdrR b t p e :: RfR c s p e :: l)) (hr : Rd W l s 1 (t.map vB)) (hp : p ≤ t.length) (ht : t.length ≤ 140737488355328)
    (hK : ∀ w', Sat W w' (RdrR b t (takeS o t p e).1 (takeS o t p e).2 :: RfR c s (takeS o t p e).1 (takeS o t p e).2 :: l) → K (.bool true) w') :
    CallP P F_law03_take [.pointer (some ⟨b, 0, none⟩), .pointer (some ⟨c, 0, none⟩), .int .i64 o] w K := by
  apply c_law03_take
  unfold S_law03_take
  refine ifB_beq (fun h0 => ?_) fun h0 => ?_
  · refine dUint_ok h hp ht fun w1 h1 => tyI ?_
    refine rUintD_ok h1.swap (Rd.cons hr) hp ht fun w2 h2 => tyI ?_
    have := hK w2
    simp only [takeS, if_pos h0] at this
    simpa using this h2.swap
  refine ifB_beq (fun h1 => ?_) fun h1 => ?_
  · refine dInt_ok h hp ht fun w1 h3 => tyI ?_
    refine rIntD_ok h3.swap (Rd.cons hr) hp ht fun w2 h2 => tyI ?_
    have := hK w2
    simp only [takeS, if_neg h0, if_pos h1] at this
    simpa using this h2.swap
  refine ifB_beq (fun h2 => ?_) fun h2 => ?_
  · refine dFlag_ok h hp ht fun w1 h3 => tyI ?_
    refine rFlagD_ok h3.swap (Rd.cons hr) hp ht fun w2 h4 => tyI ?_
    have := hK w2
    simp only [takeS, if_neg h0, if_neg h1, if_pos h2] at this
    simpa using this h4.swap
  refine ifB_beq (fun h3 => ?_) fun h3 => ?_
  · refine dFixed_ok h hp ht fun w1 h4 => tyI ?_
    refine rFixedD_ok h4.swap (Rd.cons hr) hp ht fun w2 h5 => tyI ?_
    have := hK w2
    simp only [takeS, if_neg h0, if_neg h1, if_neg h2, if_pos h3] at this
    simpa using this h5.swap
  refine ifB_beq (fun h4 => ?_) fun h4 => ?_
  · refine dBytes_ok h hp ht fun s1 w1 h5 => tyI ?_
    refine rBytesD_ok h5.rot3 (Rd.cons (Rd.cons hr)) hp ht fun s2 w2 h6 => tyI ?_
    have hl := Sat.bsLen h6
    refine same_ok h6 (Rd.cons (Rd.cons Rd.own)) Rd.own (by omega) fun w3 h7 => tyI ?_
    have := hK w3
    simp only [takeS, if_neg h0, if_neg h1, if_neg h2, if_neg h3, if_pos h4] at this
    rw [decide_eq_true rfl]
    exact this h7.tail.drop2.swap
  · refine dInts_ok h hp ht fun s1 w1 h5 => tyI ?_
    refine rIntsD_ok h5.rot3 (Rd.cons (Rd.cons hr)) hp ht fun s2 w2 h6 => tyI ?_
    have hl := Sat.isLen h6
    refine sameInts_ok h6 (Rd.cons (Rd.cons Rd.own)) Rd.own (by omega) fun w3 h7 => tyI ?_
    have := hK w3
    simp only [takeS, if_neg h0, if_neg h1, if_neg h2, if_neg h3, if_neg h4] at this
    rw [decide_eq_true rfl]
    exact this h7.tail.drop2.swap
theorem law_takes {x0 x1 : Sl} {ops : List Int} (h : Sat W w l) (hx0 : Rd W l x0 1 (t.map vB)) (hx1 : Rd W l x1 1 (ops.map vI)) (ht : t.length ≤ 140737488355328) (ho : ops.length < 9223372036854775807)
    (hK : ∀ w', Sat W w' l → K (.bool true) w') : CallP P F_law03_CodecTakes [x0.v, x1.v] w K := by
  apply c_law03_CodecTakes
  unfold S_law03_CodecTakes
  have e0 := (hx0 w h).1
  have e1 := (hx1 w h).1
  simp at e0 e1
  refine awake_ok h fun w1 h1 => tyI ?_
  simp only [Bool.not_true, ifB_false]
  refine copyBytes h1 hx0 ht fun s5 w2 h2 => ?_
  refine newReader_ok h2 Rd.own ht fun b w3 h3 => tyI ?_
  refine boxB h3 fun c w4 h4 => ?_
  have h5 : Sat W w4 (RdrR b t 0 0 :: RfR c x0 0 0 :: BsR s5 t :: l) := h4.swap
  refine ⟨fun z w' => ∃ (i q : Nat) (e : Int), z.1 = i ∧ i ≤ x1.len ∧ q ≤ t.length ∧ Sat W w' (RdrR b t q e :: RfR c x0 q e :: BsR s5 t :: l), fun z _ => x1.len - z.1.toNat, ⟨0, 0, 0, rfl, by omega, by omega, h5⟩, ?_⟩
  rintro ⟨i', u⟩ w5 ⟨i, q, e, hi, hil, hq, h6⟩
  simp only at hi ⊢
  subst hi
  refine ifB_dec (fun hlt => ?_) fun hge => ?_
  · have hi1 : i < ops.length := by omega
    refine ixld et_ints (hx1 _ h6.tail.tail.tail) (by omega) (k := .int .i64) (x := ops[i]) (by exact getElem?_vI hi1) ?_
    refine take_ok h6 (Rd.cons hx0) hq ht fun w6 h7 => tyI ?_
    simp only [Bool.not_true, ifB_false]
    have hb := takeS_bound (o := ops[i]) (e := e) hq
    generalize takeS ops[i] t q e = z at *
    obtain ⟨q', e'⟩ := z
    simp only at h7 hb
    refine dState_ok h7 hb fun w7 h8 => ⟨(q', ((t.length - q' : Nat) : Int), e', ()), rfl, ?_⟩
    refine ldB h8.swap (i := 1) (x := (q' : Int)) ?_
    refine ifB_bne (fun hne => absurd rfl hne) fun _ => ?_
    refine ldB h8.swap (i := 1) (x := (q' : Int)) ?_
    rw [w_i64 (n := (x0.len : Int) - q') (by omega) (by omega)]
    refine ifB_bne (fun hne => absurd (by show ((t.length - q' : Nat) : Int) = (x0.len : Int) - q'; omega) hne) fun _ => ?_
    refine ldB h8.swap (i := 2) (x := e') ?_
    refine ifB_bne (fun hne => absurd rfl hne) fun _ => ?_
    refine dEnd_ok h8 fun w8 h9 => tyI ?_
    refine rEnd_ok h9.swap (Rd.cons (Rd.cons hx0)) fun w9 h10 => tyI ?_
    refine ifB_bne (fun hne => absurd rfl hne) fun _ => ?_
    rw [w_i64 (by omega) (by omega)]
    exact ⟨⟨i + 1, q', e', rfl, by omega, hb, h10.swap⟩, by omega⟩
  · refine same_ok h6.tail.tail (Rd.cons hx0) Rd.own (by omega) fun w6 h7 => tyI ?_
    rw [decide_eq_true rfl]
    exact hK w6 h7.tail
end
end Go.Proofs.Ytcfgbboibgjlcaa
