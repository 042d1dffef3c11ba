/- Layer 3: the law of one number after another. -/
import Derived.Test.YtcfgbboibgjlcaaCR4
import Derived.Test.YtcfgbboibgjlcaaQC2
import Derived.Test.YtcfgbboibgjlcaaFB
namespace Go.Proofs.Ytcfgbboibgjlcaa
open Go Go.Pk
section
variable {W w : World} {l : List Res} {K : Value → World → Prop}
theorem tup2 {s : Sl} {e : Int} {K : Sl × Int × Unit → Prop} (h : K (s, e, ())) : TupP [.sl, .int .i64] (.tuple #[s.v, .int .i64 e]) K := ⟨_, rfl, h⟩
theorem wOut0_ok {b : Nat} {o : List UInt8} (h : Sat W w (WrR b o 0 :: l)) (hlen : o.length ≤ 140737488355328)
    (h1 : ∀ s w', Sat W w' (BsR s o :: WrR b o 0 :: l) → K (.tuple #[s.v, .int .i64 0]) w') : CallP P F_codec_Writer_Out [.pointer (some ⟨b, 0, none⟩)] w K :=
  wOut_ok h hlen (fun h => absurd rfl h) fun _ => h1
theorem uintB_300 : uintB 300 = [172, 2] := by rw [uintB_big (by decide), uintB_small (by decide)]; rfl
theorem awake_ok (h : Sat W w l) (hK : ∀ w', Sat W w' l → K (.bool true) w') : CallP P F_law03_awake [] w K := by
  apply c_law03_awake
  unfold S_law03_awake
  refine newWriter_ok h fun b w1 h1 => tyI ?_
  simp only [Option.isNone_some, ifB_false]
  refine wUint_ok h1 (by decide) (by decide) (by decide) fun w2 h2 => tupU rfl ?_
  have e3 : ([] : List UInt8) ++ uintB (300 : Int).toNat = [172, 2] := uintB_300
  rw [e3] at h2
  refine wOut0_ok h2 (by decide) fun s w3 h3 => tup2 ?_
  have hsl := Sat.bsLen h3
  refine newReader_ok h3 Rd.own (by decide) fun c w4 h4 => tyI ?_
  refine ifB_beq (fun _ => ?_) fun hh => absurd rfl hh
  refine ifB_beq (fun _ => ?_) fun hh => absurd (by show (s.len : Int) = 2; simp at hsl; omega) hh
  refine ixld et_bytes h4.tail.rdc (by omega) (k := .int .u8) (x := 172) rfl ?_
  refine ifB_beq (fun _ => ?_) fun hh => absurd rfl hh
  refine ixld et_bytes h4.tail.rdc (by omega) (k := .int .u8) (x := 2) rfl ?_
  refine ifB_beq (fun _ => ?_) fun hh => absurd rfl hh
  simp only [Option.isNone_some, Bool.not_false, ifB_true]
  have e5 : takeU [172, 2] 0 0 = (300, 2, 0) := by decide
  refine dUint_ok h4 (by decide) (by decide) fun w5 h5 => tyI ?_
  rw [e5] at h5 ⊢
  refine ifB_beq (fun _ => ?_) fun hh => absurd rfl hh
  refine dEnd_ok h5 fun w6 h6 => tyI ?_
  exact hK w6 h6.tail.tail.tail
theorem law_numbers {x y z : Int} (hx0 : 0 ≤ x) (hx1 : x < 18446744073709551616) (hy0 : 0 ≤ y) (hy1 : y < 18446744073709551616) (hz0 : -9223372036854775808 ≤ z) (hz1 : z < 9223372036854775808)
    (h : Sat W w l) (hK : ∀ w', Sat W w' l → K (.bool true) w') : CallP P F_law03_CodecNumbers [.int .u64 x, .int .u64 y, .int .i64 z] w K := by
  apply c_law03_CodecNumbers
  unfold S_law03_CodecNumbers
  refine newWriter_ok h fun b w1 h1 => tyI ?_
  have lx := uintB_len10 x.toNat (by omega)
  have ly := uintB_len10 y.toNat (by omega)
  have lz := uintB_len10 (zig z) (zig_lt hz0 hz1)
  have px := uintB_pos x.toNat
  refine ⟨fun _ w' => Sat W w' (WrR b [] 0 :: l), ?_, ?_⟩
  · rintro _ w2 h2
    refine wUint_ok h2 hx0 hx1 (by simp) fun w3 h3 => tupU rfl ?_
    rw [List.nil_append] at h3
    refine wOut0_ok h3 (by omega) fun s1 w4 h4 => tup2 ?_
    have l1 := Sat.bsLen h4
    refine wUint_ok h4.tail hy0 hy1 (by omega) fun w5 h5 => tupU rfl ?_
    refine wOut0_ok h5 (by simp; omega) fun s2 w6 h6 => tup2 ?_
    have l2 := Sat.bsLen h6
    refine wInt_ok h6.tail hz0 hz1 (by simp; omega) fun w7 h7 => tupU rfl ?_
    refine wOut0_ok h7 (by simp [intB]; omega) fun s3 w8 h8 => tup2 ?_
    refine newReader_ok h8 Rd.own (by simp [intB]; omega) fun c w9 h9 => tyI ?_
    have h10 : Sat W w9 (RdrR c (uintB x.toNat ++ uintB y.toNat ++ intB z) 0 0 :: l) := h9.drop2.drop2
    clear h1 h2 h3 h4 h5 h6 h7 h8 h9
    simp at l1 l2
    refine ⟨fun _ w' => Sat W w' (RdrR c (uintB x.toNat ++ uintB y.toNat ++ intB z) 0 0 :: l), ?_, ?_⟩
    · rintro _ w10 h10
      refine ⟨fun _ w' => Sat W w' l, ?_, ?_⟩
      · rintro _ w11 h11
        refine ifB_beq (fun _ => hK w11 h11) fun hne => ?_
        have hlow := uintB_len_low x.toNat x.toNat (Nat.le_refl _) (by simp only at hne; omega)
        simp only at hne ⊢
        generalize hL : s1.len = L at *
        rw [l1.1] at hlow lx px
        have hp : (128 : Nat) ^ (L - 1) = 2 ^ (7 * (L - 1)) := by rw [Nat.pow_mul]
        rw [w_i64 (n := (L : Int) - 1) (by omega) (by omega), w_i64 (by omega) (by omega), w_u64 (by omega) (by omega)]
        refine shlR (by omega) ?_
        have hmin : min (7 * ((L : Int) - 1)).toNat IntKind.u64.bits = 7 * (L - 1) := by show min (7 * ((L : Int) - 1)).toNat 64 = _; omega
        have hc : (1 : Int) * 2 ^ (7 * (L - 1)) = ((2 ^ (7 * (L - 1)) : Nat) : Int) := by push_cast; omega
        rw [hmin, hc, ← hp]
        generalize 128 ^ (L - 1) = M at hlow
        rw [w_u64 (by omega) (by omega), decide_eq_true (by omega)]
        exact hK w11 h11
      · have hlt : ((uintB x.toNat ++ uintB y.toNat ++ intB z)).length ≤ 140737488355328 := by simp [intB]; omega
        have t1 : takeU (uintB x.toNat ++ uintB y.toNat ++ intB z) 0 0 = (x.toNat, (uintB x.toNat).length, 0) := by
          have := takeU_at (t := uintB x.toNat ++ uintB y.toNat ++ intB z) (p := 0) (n := x.toNat) (r := uintB y.toNat ++ intB z) (by simp) (by omega)
          simpa using this
        have d1 : (uintB x.toNat ++ uintB y.toNat ++ intB z).drop (uintB x.toNat).length = uintB y.toNat ++ intB z := by rw [List.append_assoc, List.drop_left]
        have t2 := takeU_at (n := y.toNat) d1 (by omega)
        have d2 := drop_add d1
        have t3 := takeI_at (n := z) (r := []) (by rw [d2]; simp) hz0 hz1
        refine dUint_ok h10 (by omega) hlt fun w11 h11 => tyI ?_
        rw [t1] at h11 ⊢
        refine ifB_bne (fun hne => absurd (by simp only at hne ⊢; omega) hne) fun _ => ?_
        refine dUint_ok h11 (by simp) hlt fun w12 h12 => tyI ?_
        simp only at h12 ⊢
        rw [t2] at h12 ⊢
        refine ifB_bne (fun hne => absurd (by simp only at hne ⊢; omega) hne) fun _ => ?_
        refine dInt_ok h12 (by simp) hlt fun w13 h13 => tyI ?_
        simp only at h13 ⊢
        rw [t3] at h13 ⊢
        refine ifB_bne (fun hne => absurd rfl hne) fun _ => ?_
        refine dEnd_ok h13 fun w14 h14 => tyI ?_
        have he : endE (uintB x.toNat ++ uintB y.toNat ++ intB z) ((uintB x.toNat).length + (uintB y.toNat).length + (intB z).length) 0 = 0 := by
          rw [endE, if_neg]; simp; omega
        refine ifB_bne (fun hne => absurd he hne) fun _ => h14.tail
    · simp only
      refine ifB_bne (fun hne => absurd rfl hne) fun _ => ?_
      refine ifB_dec (fun hc => by omega) fun _ => ?_
      refine ifB_dec (fun hc => by omega) fun _ => ?_
      refine ifB_dec (fun hc => ?_) fun _ => h10
      have hmono := uintB_len_mono y.toNat x.toNat y.toNat (Nat.le_refl _) (by omega)
      rw [w_i64 (by omega) (by omega)]
      refine ifB_dec (fun hc => by omega) fun _ => h10
  · refine awake_ok h1 fun w2 h2 => tyI ?_
    simp only [Bool.not_true, Option.isNone_some, ifB_false]
    exact h2
end
end Go.Proofs.Ytcfgbboibgjlcaa
