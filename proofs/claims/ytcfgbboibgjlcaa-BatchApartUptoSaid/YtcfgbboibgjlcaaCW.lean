/- Layer 3: the writers' contracts (the program's and the reference's). -/
import Derived.Test.YtcfgbboibgjlcaaQC
import Derived.Test.YtcfgbboibgjlcaaFA
namespace Go.Proofs.Ytcfgbboibgjlcaa
open Go Go.Pk
theorem et_bytes : ET P T_sl_uint8 T_uint8 1 1 := ET.of (by kernel_rfl)
theorem et_ints : ET P T_sl_int T_int 1 8 := ET.of (by kernel_rfl)
/-- a slice of bytes, of numbers, of one's own -/
abbrev BsR (s : Sl) (l : List UInt8) : Res := SlR T_uint8 1 s (l.map vB)
abbrev IsR (s : Sl) (l : List Int) : Res := SlR T_int 1 s (l.map vI)
/-- a writer: what was laid, the error -/
def WrR (b : Nat) (o : List UInt8) (e : Int) : Res := Ex fun s : Sl => All [Blk b [s.v, .int .i64 e] T_codec_Writer, BsR s o]
theorem sat_wr {W w : World} {l : List Res} {b : Nat} {o : List UInt8} {e : Int} : Sat W w (WrR b o e :: l) ↔ ∃ s : Sl, Sat W w (Blk b [s.v, .int .i64 e] T_codec_Writer :: BsR s o :: l) := by
  simp only [WrR, sat_ex, sat_all, List.cons_append, List.nil_append]
section
variable {W w : World} {l : List Res} {K : Value → World → Prop}
theorem Sat.bsLen {s : Sl} {o : List UInt8} (h : Sat W w (BsR s o :: l)) : o.length = s.len ∧ s.len < 2 ^ 63 := by
  have := h.slLen; simp at this; omega
theorem Sat.isLen {s : Sl} {o : List Int} (h : Sat W w (IsR s o :: l)) : o.length = s.len ∧ s.len < 2 ^ 63 := by
  have := h.slLen; simp at this; omega
/-- bytes behind bytes -/
theorem appBytes {s x : Sl} {o n : List UInt8} {ty : TypeId} {K : Sl → World → Prop} (h : Sat W w (BsR s o :: l)) (hx : RdC w x 1 (n.map vB)) (hb : o.length + n.length ≤ 140737488355328)
    (hK : ∀ s' w', Sat W w' (BsR s' (o ++ n) :: l) → K s' w') : RunK .sl P (Builtin.append_ #[T_sl_uint8, T_sl_uint8] ty #[s.v, x.v]) w K := by
  have h1 := Sat.bsLen h
  have h2 := hx.1
  simp at h2
  refine appB et_bytes (by decide) h hx (vB_all n) (by omega) (by omega) fun s' w' h' _ => hK s' w' (by rw [BsR, List.map_append]; exact h')
theorem appByte {s : Sl} {o : List UInt8} {b : UInt8} {ty : TypeId} {n : Int} {K : Sl → World → Prop} (h : Sat W w (BsR s o :: l)) (hn : n = (b.toNat : Int)) (hb : o.length + 1 ≤ 140737488355328)
    (hK : ∀ s' w', Sat W w' (BsR s' (o ++ [b]) :: l) → K s' w') :
    RunK .sl P (Instr.buildSlice T_sl_uint8 1 #[(0, .int .u8 n)]) w fun s5 w6 => RunK .sl P (Builtin.append_ #[T_sl_uint8, T_sl_uint8] ty #[s.v, s5.v]) w6 K := by
  subst hn
  have h1 := Sat.bsLen h
  refine app1 et_bytes h rfl (by omega) (by omega) fun s' w' h' _ => hK s' w' (by rw [BsR, List.map_append]; exact h')

/-! ### the program's -/
theorem newWriter_ok (h : Sat W w l) (hK : ∀ b w', Sat W w' (WrR b [] 0 :: l) → K (.pointer (some ⟨b, 0, none⟩)) w') : CallP P F_codec_NewWriter [] w K := by
  apply c_codec_NewWriter
  unfold S_codec_NewWriter
  exact boxB h fun b w1 h1 => hK b w1 (sat_wr.2 ⟨⟨none, 0, 0⟩, (h1.nilSlr T_uint8 1).swap⟩)

theorem wUint_ok {b : Nat} {o : List UInt8} {e n : Int} (h : Sat W w (WrR b o e :: l)) (h0 : 0 ≤ n) (h1 : n < 18446744073709551616) (hlen : o.length + 10 ≤ 140737488355328)
    (hK : ∀ w', Sat W w' (WrR b (o ++ uintB n.toNat) e :: l) → K (.tuple #[]) w') : CallP P F_codec_Writer_Uint [.pointer (some ⟨b, 0, none⟩), .int .u64 n] w K := by
  apply c_codec_Writer_Uint
  unfold S_codec_Writer_Uint
  simp only [Option.isNone_some, ifB, nilCk]
  have hl10 := uintB_len10 n.toNat (by omega)
  refine ⟨fun t w' => 0 ≤ t.1 ∧ t.1 < 18446744073709551616 ∧ ∃ pre, pre ++ uintB t.1.toNat = uintB n.toNat ∧ Sat W w' (WrR b (o ++ pre) e :: l), fun t _ => t.1.toNat, ⟨h0, h1, [], rfl, by simpa using h⟩, ?_⟩
  rintro ⟨m, u⟩ w' ⟨hm0, hm1, pre, hpre, h⟩
  simp only at hm0 hm1 hpre ⊢
  obtain ⟨s, h⟩ := sat_wr.1 h
  have hpl : pre.length ≤ 9 := by
    have := uintB_pos m.toNat
    have := congrArg List.length hpre
    simp at this; omega
  refine ifB_dec (fun hm => ?_) fun hm => ?_
  · refine ldB h (i := 0) (x := s) ?_
    refine appByte h.swap (or128 m hm0) (by simp; omega) fun s' w1 h1 => ?_
    refine stB h1.swap (i := 0) (v := s'.v) fun w2 h2 => ?_
    have hd : Int.fdiv m (2 ^ 7) = m / 128 := fdiv_pos _ (by decide)
    rw [hd]
    refine ⟨⟨by omega, by omega, pre ++ [UInt8.ofNat (m.toNat % 128 + 128)], ?_, sat_wr.2 ⟨s', by simpa using h2⟩⟩, by omega⟩
    rw [← hpre, uintB_big (n := m.toNat) (by omega), show (m / 128).toNat = m.toNat / 128 by omega]
    simp
  · refine ldB h (i := 0) (x := s) ?_
    refine appByte h.swap (w_u8_of m hm0) (by simp; omega) fun s' w1 h1 => ?_
    refine stB h1.swap (i := 0) (v := s'.v) fun w2 h2 => hK w2 (sat_wr.2 ⟨s', ?_⟩)
    rw [← hpre, uintB_small (n := m.toNat) (by omega)]
    simpa using h2
theorem tyI {k : Kd} {x : k.Ty} {K : k.Ty → Prop} (h : K x) : TyP k (k.v x) K := ⟨x, rfl, h⟩
theorem tupU {v : Value} {K : Unit → Prop} (hv : v = .tuple #[]) (h : K ()) : TupP [] v K := ⟨(), hv, h⟩
theorem wInt_ok {b : Nat} {o : List UInt8} {e n : Int} (h : Sat W w (WrR b o e :: l)) (h0 : -9223372036854775808 ≤ n) (h1 : n < 9223372036854775808) (hlen : o.length + 10 ≤ 140737488355328)
    (hK : ∀ w', Sat W w' (WrR b (o ++ intB n) e :: l) → K (.tuple #[]) w') : CallP P F_codec_Writer_Int [.pointer (some ⟨b, 0, none⟩), .int .i64 n] w K := by
  apply c_codec_Writer_Int
  unfold S_codec_Writer_Int
  rw [zig_code h0 h1]
  have hz := zig_lt h0 h1
  refine wUint_ok h (by omega) (by omega) hlen fun w' h' => tupU rfl (hK w' ?_)
  simpa [intB] using h'
theorem wFlag_ok {b : Nat} {o : List UInt8} {e : Int} {f : Bool} (h : Sat W w (WrR b o e :: l)) (hlen : o.length + 10 ≤ 140737488355328)
    (hK : ∀ w', Sat W w' (WrR b (o ++ flagB f) e :: l) → K (.tuple #[]) w') : CallP P F_codec_Writer_Flag [.pointer (some ⟨b, 0, none⟩), .bool f] w K := by
  apply c_codec_Writer_Flag
  unfold S_codec_Writer_Flag
  cases f
  · exact wUint_ok h (by decide) (by decide) hlen fun w' h' => tupU rfl (hK w' (by simpa [flagB, uintB_small] using h'))
  · exact wUint_ok h (by decide) (by decide) hlen fun w' h' => tupU rfl (hK w' (by simpa [flagB, uintB_small] using h'))
theorem wFixed_ok {b : Nat} {o : List UInt8} {e n : Int} (h : Sat W w (WrR b o e :: l)) (h0 : 0 ≤ n) (h1 : n < 4294967296) (hlen : o.length + 10 ≤ 140737488355328)
    (hK : ∀ w', Sat W w' (WrR b (o ++ fixedB n.toNat) e :: l) → K (.tuple #[]) w') : CallP P F_codec_Writer_Fixed [.pointer (some ⟨b, 0, none⟩), .int .u32 n] w K := by
  apply c_codec_Writer_Fixed
  unfold S_codec_Writer_Fixed
  simp only [Option.isNone_some, ifB, nilCk, Bool.not_false]
  obtain ⟨s, h⟩ := sat_wr.1 h
  refine ldB h (i := 0) (x := s) ?_
  refine bsB h (cs := [.int .u8 (IntKind.u8.wrap n), .int .u8 (IntKind.u8.wrap (n.fdiv (2 ^ 8))), .int .u8 (IntKind.u8.wrap (n.fdiv (2 ^ 16))), .int .u8 (IntKind.u8.wrap (n.fdiv (2 ^ 24)))]) (e := T_uint8) (fun w => by kernel_rfl) fun g w1 h1 => ?_
  have hx : RdC w1 ⟨some ⟨g, 0, none⟩, 4, 4⟩ 1 ((fixedB n.toNat).map vB) := by
    have := rdBlk h1 (n := 4) (sz := 1) rfl
    simp only [fdiv_pos _ (show (0 : Int) ≤ 2 ^ 8 by decide), fdiv_pos _ (show (0 : Int) ≤ 2 ^ 16 by decide), fdiv_pos _ (show (0 : Int) ≤ 2 ^ 24 by decide)] at this
    rw [w_u8_of n h0, w_u8_of (n / 2 ^ 8) (by omega), w_u8_of (n / 2 ^ 16) (by omega), w_u8_of (n / 2 ^ 24) (by omega)] at this
    have e1 : (n / 2 ^ 8).toNat = n.toNat / 256 := by omega
    have e2 : (n / 2 ^ 16).toNat = n.toNat / 65536 := by omega
    have e3 : (n / 2 ^ 24).toNat = n.toNat / 16777216 := by omega
    rw [e1, e2, e3] at this
    exact this
  refine appBytes h1.rot3 hx (by simp [fixedB]; omega) fun s' w2 h2 => ?_
  refine stB h2.drop2.swap (i := 0) (v := s'.v) fun w3 h3 => hK w3 (sat_wr.2 ⟨s', by simpa using h3⟩)
/-- the error of a writer that is told so many bytes -/
def wErr (e : Int) (n : Nat) : Int := if n > 4096 ∧ e = 0 then 2 else e
theorem wBytes_ok {b : Nat} {o n : List UInt8} {e : Int} {x : Sl} (h : Sat W w (WrR b o e :: l)) (hx : Rd W l x 1 (n.map vB)) (hlen : o.length + 10 + n.length ≤ 140737488355328)
    (hK : ∀ w', Sat W w' (WrR b (o ++ bytesB n) (wErr e n.length) :: l) → K (.tuple #[]) w') : CallP P F_codec_Writer_Bytes [.pointer (some ⟨b, 0, none⟩), x.v] w K := by
  apply c_codec_Writer_Bytes
  unfold S_codec_Writer_Bytes
  simp only [Option.isNone_some, ifB, nilCk]
  have hxl := (hx w h.tail).1
  simp at hxl
  refine ⟨fun _ w' => Sat W w' (WrR b o (wErr e n.length) :: l), fun _ w1 h1 => ?_, ?_⟩
  · rw [w_u64 (by omega) (by omega)]
    refine wUint_ok h1 (by omega) (by omega) (by omega) fun w2 h2 => tupU rfl ?_
    obtain ⟨s, h2⟩ := sat_wr.1 h2
    refine ldB h2 (i := 0) (x := s) ?_
    have h10 := uintB_len10 x.len (by omega)
    refine appBytes h2.swap (hx w2 h2.tail.tail) (by simp; omega) fun s' w3 h3 => ?_
    refine stB h3.swap (i := 0) (v := s'.v) fun w4 h4 => hK w4 (sat_wr.2 ⟨s', ?_⟩)
    simpa [bytesB, hxl] using h4
  · refine ifB_dec (fun hc => ?_) fun hc => ?_
    · obtain ⟨s, h⟩ := sat_wr.1 h
      refine ldB h (i := 1) (x := e) ?_
      refine ifB_beq (fun he => ?_) fun he => ?_
      · refine stB h (i := 1) fun w2 h2 => sat_wr.2 ⟨s, ?_⟩
        rw [wErr, if_pos ⟨by omega, he⟩]; simpa using h2
      · rw [wErr, if_neg (by omega)]; exact sat_wr.2 ⟨s, h⟩
    · rw [wErr, if_neg (by omega)]; exact h
theorem wInts_ok {b : Nat} {o : List UInt8} {n : List Int} {e : Int} {x : Sl} (h : Sat W w (WrR b o e :: l)) (hx : Rd W l x 1 (n.map vI)) (hn : ∀ i ∈ n, -9223372036854775808 ≤ i ∧ i < 9223372036854775808) (hlen : o.length + 10 + 10 * n.length ≤ 140737488355328)
    (hK : ∀ w', Sat W w' (WrR b (o ++ intsB n) e :: l) → K (.tuple #[]) w') : CallP P F_codec_Writer_Ints [.pointer (some ⟨b, 0, none⟩), x.v] w K := by
  apply c_codec_Writer_Ints
  unfold S_codec_Writer_Ints
  have hxl := (hx w h.tail).1
  simp at hxl
  rw [w_u64 (by omega) (by omega)]
  refine wUint_ok h (by omega) (by omega) (by omega) fun w1 h1 => tupU rfl ?_
  have h10 := uintB_len10 x.len (by omega)
  have hil : ∀ k, ((n.take k).flatMap intB).length ≤ 10 * k := by
    intro k
    induction k with
    | zero => simp
    | succ k ih =>
      by_cases hk : k < n.length
      · rw [List.take_succ_eq_append_getElem hk, List.flatMap_append]
        have := hn n[k] (by simp)
        have := uintB_len10 (zig n[k]) (zig_lt this.1 this.2)
        simp only [List.length_append, List.flatMap_cons, List.flatMap_nil, List.append_nil, intB] at ih ⊢; omega
      · rw [List.take_of_length_le (by omega)] at ih ⊢; omega
  refine ⟨fun t w' => ∃ k : Nat, t.1 = k ∧ k ≤ n.length ∧ Sat W w' (WrR b (o ++ uintB n.length ++ (n.take k).flatMap intB) e :: l), fun t _ => n.length - t.1.toNat, ⟨0, rfl, by omega, by simpa [hxl] using h1⟩, ?_⟩
  rintro ⟨i, u⟩ w2 ⟨k, hk, hkn, h2⟩
  simp only at hk ⊢
  subst hk
  refine ifB_dec (fun hc => ?_) fun hc => ?_
  · have hlt : k < n.length := by omega
    refine ixld et_ints (hx w2 h2.tail) (by omega) (k := .int .i64) (x := n[k]) (by simp [vI, hlt]) ?_
    have hb := hn n[k] (by simp)
    have := hil k
    have hxl' := hxl
    refine wInt_ok h2 hb.1 hb.2 (by simp only [List.length_append]; rw [hxl]; omega) fun w3 h3 => tupU rfl ?_
    refine ⟨⟨k + 1, by rw [w_i64 (by omega) (by omega)]; rfl, by omega, ?_⟩, by rw [w_i64 (by omega) (by omega)]; omega⟩
    rw [List.take_succ_eq_append_getElem hlt, List.flatMap_append]
    simpa using h3
  · have : k = n.length := by omega
    subst this
    refine hK w2 ?_
    simpa [intsB] using h2
end
end Go.Proofs.Ytcfgbboibgjlcaa
