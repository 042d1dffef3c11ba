/- Layer 3: the writers' contracts, second part: Out, the reference's forms, a writer that there isn't. -/
import Derived.Test.YtcfgbboibgjlcaaCW
namespace Go.Proofs.Ytcfgbboibgjlcaa
open Go Go.Pk
section
variable {W w : World} {l : List Res} {K : Value → World → Prop}
theorem wOut_ok {b : Nat} {o : List UInt8} {e : Int} (h : Sat W w (WrR b o e :: l)) (hlen : o.length ≤ 140737488355328)
    (h0 : e ≠ 0 → ∀ w', Sat W w' (WrR b o e :: l) → K (.tuple #[.slice none 0 0, .int .i64 e]) w')
    (h1 : e = 0 → ∀ s w', Sat W w' (BsR s o :: WrR b o e :: l) → K (.tuple #[s.v, .int .i64 0]) w') : CallP P F_codec_Writer_Out [.pointer (some ⟨b, 0, none⟩)] w K := by
  apply c_codec_Writer_Out
  unfold S_codec_Writer_Out
  simp only [Option.isNone_some, ifB, nilCk]
  obtain ⟨s, h⟩ := sat_wr.1 h
  refine ldB h (i := 1) (x := e) ?_
  refine ifB_bne (fun he => ?_) fun he => ?_
  · exact ldB h.drew (i := 1) (x := e) (h0 he _ (sat_wr.2 ⟨s, h.drew⟩))
  · refine ldB h (i := 0) (x := s) ?_
    have h2 := Sat.nilSlr h T_uint8 1
    refine appBytes (s := ⟨none, 0, 0⟩) (o := []) h2 (h.swap.rdc) (by simpa using hlen) fun s' w1 h3 => h1 he s' w1 ?_
    have h4 := h3.swap
    have h5 := h3.rot3
    -- [BsR s o, BsR s' .., Blk ..]
    have : Sat W w1 (Blk b [s.v, .int .i64 e] T_codec_Writer :: BsR s o :: BsR s' ([] ++ o) :: l) := h5.perm (by
      refine (List.Perm.cons _ (List.Perm.swap _ _ _)).trans (List.Perm.swap _ _ _)|>.trans ?_
      exact List.Perm.refl _)
    have h6 := sat_wr.2 ⟨s, this⟩
    simpa using h6.swap

/-! ### the reference's forms -/
theorem rUint_ok {n : Int} (h : Sat W w l) (h0 : 0 ≤ n) (h1 : n < 18446744073709551616) (hK : ∀ s w', Sat W w' (BsR s (uintB n.toNat) :: l) → K s.v w') : CallP P F_ref03_Uint [.int .u64 n] w K := by
  apply c_ref03_Uint
  unfold S_ref03_Uint
  have hl10 := uintB_len10 n.toNat (by omega)
  refine ⟨fun t w' => 0 ≤ t.1 ∧ t.1 < 18446744073709551616 ∧ ∃ pre, pre ++ uintB t.1.toNat = uintB n.toNat ∧ Sat W w' (BsR t.2.1 pre :: l), fun t _ => t.1.toNat, ⟨h0, h1, [], rfl, h.nilSlr T_uint8 1⟩, ?_⟩
  rintro ⟨m, s, u⟩ w' ⟨hm0, hm1, pre, hpre, h⟩
  simp only at hm0 hm1 hpre h ⊢
  have hpl : pre.length ≤ 9 := by
    have := uintB_pos m.toNat
    have := congrArg List.length hpre
    simp at this; omega
  have hd : Int.tdiv m 128 = m / 128 := Int.tdiv_eq_ediv_of_nonneg hm0
  have hm : Int.tmod m 128 = m % 128 := Int.tmod_eq_emod_of_nonneg hm0
  rw [hd, hm, w_u64 (by omega) (by omega), w_u64 (by omega) (by omega)]
  refine ifB_beq (fun hz => ?_) fun hz => ?_
  · refine appByte (b := UInt8.ofNat m.toNat) h ?_ (by omega) fun s' w1 h1 => hK s' w1 ?_
    · rw [w_u8_of _ (by omega)]; simp; omega
    · rw [← hpre, uintB_small (n := m.toNat) (by omega)]; exact h1
  · refine appByte (b := UInt8.ofNat (m.toNat % 128 + 128)) h ?_ (by omega) fun s' w1 h1 => ?_
    · rw [w_u8_of _ (by omega)]; simp; omega
    · refine ⟨⟨by omega, by omega, pre ++ [UInt8.ofNat (m.toNat % 128 + 128)], ?_, h1⟩, by omega⟩
      rw [← hpre, uintB_big (n := m.toNat) (by omega)]
      have : (m / 128).toNat = m.toNat / 128 := by omega
      rw [this]; simp
theorem rZig_ok {n : Int} (h0 : -9223372036854775808 ≤ n) (h1 : n < 9223372036854775808) (hK : K (.int .u64 (zig n : Nat)) w) : CallP P F_ref03_Zig [.int .i64 n] w K := by
  apply c_ref03_Zig
  unfold S_ref03_Zig
  refine ifB_dec (fun hc => ?_) fun hc => ?_
  · have : IntKind.u64.wrap (2 * IntKind.u64.wrap n) = (zig n : Nat) := by
      rw [w_u64 (n := n) (by omega) (by omega), w_u64 (by omega) (by omega)]; unfold zig; rw [if_pos hc]; omega
    rw [this]; exact hK
  · have : IntKind.u64.wrap (IntKind.u64.wrap (2 * IntKind.u64.wrap (IntKind.i64.wrap (0 - IntKind.i64.wrap (n + 1)))) + 1) = (zig n : Nat) := by
      rw [w_i64 (n := n + 1) (by omega) (by omega), w_i64 (by omega) (by omega), w_u64 (n := 0 - (n + 1)) (by omega) (by omega), w_u64 (n := 2 * (0 - (n + 1))) (by omega) (by omega), w_u64 (by omega) (by omega)]
      unfold zig; rw [if_neg (by omega)]; omega
    rw [this]; exact hK
theorem rInt_ok {n : Int} (h : Sat W w l) (h0 : -9223372036854775808 ≤ n) (h1 : n < 9223372036854775808) (hK : ∀ s w', Sat W w' (BsR s (intB n) :: l) → K s.v w') : CallP P F_ref03_Int [.int .i64 n] w K := by
  apply c_ref03_Int
  unfold S_ref03_Int
  have := zig_lt h0 h1
  refine rZig_ok h0 h1 ⟨_, rfl, rUint_ok h (by omega) (by omega) fun s w' h' => ⟨s, rfl, hK s w' (by simpa [intB] using h')⟩⟩
theorem rFlag_ok {f : Bool} (h : Sat W w l) (hK : ∀ s w', Sat W w' (BsR s (flagB f) :: l) → K s.v w') : CallP P F_ref03_Flag [.bool f] w K := by
  apply c_ref03_Flag
  unfold S_ref03_Flag
  cases f
  · refine bsB h (cs := [.int .u8 0]) (e := T_uint8) (fun w => by kernel_rfl) fun g w1 h1 => hK _ w1 (h1.mkSlr rfl (by simp) (by simp) (by simp) rfl (by simp [Value.oneCell']))
  · refine bsB h (cs := [.int .u8 1]) (e := T_uint8) (fun w => by kernel_rfl) fun g w1 h1 => hK _ w1 (h1.mkSlr rfl (by simp) (by simp) (by simp) rfl (by simp [Value.oneCell']))
theorem rFixed_ok {n : Int} (h : Sat W w l) (h0 : 0 ≤ n) (h1 : n < 4294967296) (hK : ∀ s w', Sat W w' (BsR s (fixedB n.toNat) :: l) → K s.v w') : CallP P F_ref03_Fixed [.int .u32 n] w K := by
  apply c_ref03_Fixed
  unfold S_ref03_Fixed
  have e1 : Int.tmod n 256 = n % 256 := Int.tmod_eq_emod_of_nonneg h0
  have e2 : Int.tdiv n 256 = n / 256 := Int.tdiv_eq_ediv_of_nonneg h0
  have e3 : Int.tdiv n 65536 = n / 65536 := Int.tdiv_eq_ediv_of_nonneg h0
  have e4 : Int.tdiv n 16777216 = n / 16777216 := Int.tdiv_eq_ediv_of_nonneg h0
  rw [e1, e2, e3, e4, w_u32 (n := n / 256) (by omega) (by omega), w_u32 (n := n / 65536) (by omega) (by omega), w_u32 (n := n / 16777216) (by omega) (by omega)]
  have e5 : Int.tmod (n / 256) 256 = n / 256 % 256 := Int.tmod_eq_emod_of_nonneg (by omega)
  have e6 : Int.tmod (n / 65536) 256 = n / 65536 % 256 := Int.tmod_eq_emod_of_nonneg (by omega)
  rw [e5, e6]
  refine bsB h (cs := [.int .u8 (IntKind.u8.wrap (n % 256)), .int .u8 (IntKind.u8.wrap (n / 256 % 256)), .int .u8 (IntKind.u8.wrap (n / 65536 % 256)), .int .u8 (IntKind.u8.wrap (n / 16777216))]) (e := T_uint8) (fun w => by kernel_rfl) fun g w1 h1 => hK _ w1 (h1.mkSlr rfl (by simp) (by simp) (by simp) ?_ (by simp [Value.oneCell']))
  have f1 : IntKind.u8.wrap (n % 256) = (UInt8.ofNat n.toNat).toNat := by rw [w_u8_of _ (by omega)]; simp; omega
  have f2 : IntKind.u8.wrap (n / 256 % 256) = (UInt8.ofNat (n.toNat / 256)).toNat := by rw [w_u8_of _ (by omega)]; simp; omega
  have f3 : IntKind.u8.wrap (n / 65536 % 256) = (UInt8.ofNat (n.toNat / 65536)).toNat := by rw [w_u8_of _ (by omega)]; simp; omega
  have f4 : IntKind.u8.wrap (n / 16777216) = (UInt8.ofNat (n.toNat / 16777216)).toNat := by rw [w_u8_of _ (by omega)]; simp; omega
  rw [f1, f2, f3, f4]; rfl
theorem rBytes_ok {n : List UInt8} {x : Sl} (h : Sat W w l) (hx : Rd W l x 1 (n.map vB)) (hlen : n.length + 10 ≤ 140737488355328) (hK : ∀ s w', Sat W w' (BsR s (bytesB n) :: l) → K s.v w') : CallP P F_ref03_Bytes [x.v] w K := by
  apply c_ref03_Bytes
  unfold S_ref03_Bytes
  have hxl := (hx w h).1
  simp at hxl
  rw [w_u64 (by omega) (by omega)]
  have h10 := uintB_len10 x.len (by omega)
  refine rUint_ok h (by omega) (by omega) fun s w1 h1 => ⟨s, rfl, ?_⟩
  refine appBytes h1 (hx w1 h1.tail) (by simp; omega) fun s' w2 h2 => hK s' w2 ?_
  simpa [bytesB, hxl] using h2
theorem rInts_ok {n : List Int} {x : Sl} (h : Sat W w l) (hx : Rd W l x 1 (n.map vI)) (hn : ∀ i ∈ n, -9223372036854775808 ≤ i ∧ i < 9223372036854775808) (hlen : 10 + 10 * n.length ≤ 140737488355328)
    (hK : ∀ s w', Sat W w' (BsR s (intsB n) :: l) → K s.v w') : CallP P F_ref03_Ints [x.v] w K := by
  apply c_ref03_Ints
  unfold S_ref03_Ints
  have hxl := (hx w h).1
  simp at hxl
  rw [w_u64 (by omega) (by omega)]
  have h10 := uintB_len10 x.len (by omega)
  refine rUint_ok h (by omega) (by omega) fun s w1 h1 => ⟨s, rfl, ?_⟩
  have hil : ∀ k, ((n.take k).flatMap intB).length ≤ 10 * k := by
    intro k
    induction k with
    | zero => simp
    | succ k ih =>
      by_cases hk : k < n.length
      · rw [List.take_succ_eq_append_getElem hk, List.flatMap_append]
        have := hn n[k] (by simp)
        have := uintB_len10 (zig n[k]) (zig_lt this.1 this.2)
        simp only [List.length_append, List.flatMap_cons, List.flatMap_nil, List.append_nil, intB] at ih ⊢; omega
      · rw [List.take_of_length_le (by omega)] at ih ⊢; omega
  refine ⟨fun t w' => ∃ k : Nat, t.2.1 = k ∧ k ≤ n.length ∧ Sat W w' (BsR t.1 (uintB n.length ++ (n.take k).flatMap intB) :: l), fun t _ => n.length - t.2.1.toNat, ⟨0, rfl, by omega, by simpa [hxl] using h1⟩, ?_⟩
  rintro ⟨s2, i, u⟩ w2 ⟨k, hk, hkn, h2⟩
  simp only at hk h2 ⊢
  subst hk
  refine ifB_dec (fun hc => ?_) fun hc => ?_
  · have hlt : k < n.length := by omega
    refine ixld et_ints (hx w2 h2.tail) (by omega) (k := .int .i64) (x := n[k]) (by simp [vI, hlt]) ?_
    have hb := hn n[k] (by simp)
    have := hil k
    refine rInt_ok h2 hb.1 hb.2 fun s3 w3 h3 => ⟨s3, rfl, ?_⟩
    have h11 := uintB_len10 (zig n[k]) (zig_lt hb.1 hb.2)
    refine appBytes h3.swap h3.rdc (by simp only [List.length_append, intB]; rw [hxl]; omega) fun s4 w4 h4 => ?_
    refine ⟨⟨k + 1, by rw [w_i64 (by omega) (by omega)]; rfl, by omega, ?_⟩, by rw [w_i64 (by omega) (by omega)]; omega⟩
    rw [List.take_succ_eq_append_getElem hlt, List.flatMap_append]
    simpa using h4.drop2
  · have : k = n.length := by omega
    subst this
    refine hK s2 w2 ?_
    simpa [intsB] using h2
end
end Go.Proofs.Ytcfgbboibgjlcaa
