/- Texts of mine, put together: CW, CW2, CR, CR2, CR3, CR4, LA, LB, LC, LD, LE, LF. -/
import Derived.Test.YtokogdigfohbeaaE2
import Derived.Test.YtokogdigfohbeaaFA
import Derived.Test.YtokogdigfohbeaaE3
/- Layer 3: the writers' contracts (the program's and the reference's). -/
namespace Go.Proofs.Ytokogdigfohbeaa
open Go Go.Pk
theorem et_bytes : ET P T_sl_uint8 T_uint8 1 1 := ET.of (by kernel_rfl)
theorem et_ints : ET P T_sl_int T_int 1 8 := ET.of (by kernel_rfl)
/-- a slice of bytes, of numbers, of one's own -/
abbrev BsR (s : Sl) (l : List UInt8) : Res := SlR T_uint8 1 s (l.map vB)
abbrev IsR (s : Sl) (l : List Int) : Res := SlR T_int 1 s (l.map vI)
/-- a writer: what was laid, the error -/
def WrR (b : Nat) (o : List UInt8) (e : Int) : Res := Ex fun s : Sl => All [Blk b [s.v, .int .i64 e] T_codec_Writer, BsR s o]
theorem sat_wr {W w : World} {l : List Res} {b : Nat} {o : List UInt8} {e : Int} : Sat W w (WrR b o e :: l) ↔ ∃ s : Sl, Sat W w (Blk b [s.v, .int .i64 e] T_codec_Writer :: BsR s o :: l) := by
  simp only [WrR, sat_ex, sat_all, List.cons_append, List.nil_append]
section
variable {W w : World} {l : List Res} {K : Value → World → Prop}
theorem Sat.bsLen {s : Sl} {o : List UInt8} (h : Sat W w (BsR s o :: l)) : o.length = s.len ∧ s.len < 2 ^ 63 := by
  have := h.slLen; simp at this; omega
theorem Sat.isLen {s : Sl} {o : List Int} (h : Sat W w (IsR s o :: l)) : o.length = s.len ∧ s.len < 2 ^ 63 := by
  have := h.slLen; simp at this; omega
/-- bytes behind bytes -/
theorem appBytes {s x : Sl} {o n : List UInt8} {ty : TypeId} {K : Sl → World → Prop} (h : Sat W w (BsR s o :: l)) (hx : RdC w x 1 (n.map vB)) (hb : o.length + n.length ≤ 140737488355328)
    (hK : ∀ s' w', Sat W w' (BsR s' (o ++ n) :: l) → K s' w') : RunK .sl P (Builtin.append_ #[T_sl_uint8, T_sl_uint8] ty #[s.v, x.v]) w K := by
  have h1 := Sat.bsLen h
  have h2 := hx.1
  simp at h2
  refine appB et_bytes (by decide) h hx (vB_all n) (by omega) (by omega) fun s' w' h' _ => hK s' w' (by rw [BsR, List.map_append]; exact h')
theorem appByte {s : Sl} {o : List UInt8} {b : UInt8} {ty : TypeId} {n : Int} {K : Sl → World → Prop} (h : Sat W w (BsR s o :: l)) (hn : n = (b.toNat : Int)) (hb : o.length + 1 ≤ 140737488355328)
    (hK : ∀ s' w', Sat W w' (BsR s' (o ++ [b]) :: l) → K s' w') :
    RunK .sl P (Instr.buildSlice T_sl_uint8 1 #[(0, .int .u8 n)]) w fun s5 w6 => RunK .sl P (Builtin.append_ #[T_sl_uint8, T_sl_uint8] ty #[s.v, s5.v]) w6 K := by
  subst hn
  have h1 := Sat.bsLen h
  refine app1 et_bytes h rfl (by omega) (by omega) fun s' w' h' _ => hK s' w' (by rw [BsR, List.map_append]; exact h')

/-! ### the program's -/
theorem newWriter_ok (h : Sat W w l) (hK : ∀ b w', Sat W w' (WrR b [] 0 :: l) → K (.pointer (some ⟨b, 0, none⟩)) w') : CallP P F_codec_NewWriter [] w K := by
  apply c_codec_NewWriter
  unfold S_codec_NewWriter
  exact boxB h fun b w1 h1 => hK b w1 (sat_wr.2 ⟨⟨none, 0, 0⟩, (h1.nilSlr T_uint8 1).swap⟩)

theorem wUint_ok {b : Nat} {o : List UInt8} {e n : Int} (h : Sat W w (WrR b o e :: l)) (h0 : 0 ≤ n) (h1 : n < 18446744073709551616) (hlen : o.length + 10 ≤ 140737488355328)
    (hK : ∀ w', Sat W w' (WrR b (o ++ uintB n.toNat) e :: l) → K (.tuple #[]) w') : CallP P F_codec_Writer_Uint [.pointer (some ⟨b, 0, none⟩), .int .u64 n] w K := by
  apply c_codec_Writer_Uint
  unfold S_codec_Writer_Uint
  simp only [Option.isNone_some, ifB, nilCk]
  have hl10 := uintB_len10 n.toNat (by omega)
  refine ⟨fun t w' => 0 ≤ t.1 ∧ t.1 < 18446744073709551616 ∧ ∃ pre, pre ++ uintB t.1.toNat = uintB n.toNat ∧ Sat W w' (WrR b (o ++ pre) e :: l), fun t _ => t.1.toNat, ⟨h0, h1, [], rfl, by simpa using h⟩, ?_⟩
  rintro ⟨m, u⟩ w' ⟨hm0, hm1, pre, hpre, h⟩
  simp only at hm0 hm1 hpre ⊢
  obtain ⟨s, h⟩ := sat_wr.1 h
  have hpl : pre.length ≤ 9 := by
    have := uintB_pos m.toNat
    have := congrArg List.length hpre
    simp at this; omega
  refine ifB_dec (fun hm => ?_) fun hm => ?_
  · refine ldB h (i := 0) (x := s) ?_
    refine appByte h.swap (or128 m hm0) (by simp; omega) fun s' w1 h1 => ?_
    refine stB h1.swap (i := 0) (v := s'.v) fun w2 h2 => ?_
    have hd : Int.fdiv m (2 ^ 7) = m / 128 := fdiv_pos _ (by decide)
    rw [hd]
    refine ⟨⟨by omega, by omega, pre ++ [UInt8.ofNat (m.toNat % 128 + 128)], ?_, sat_wr.2 ⟨s', by simpa using h2⟩⟩, by omega⟩
    rw [← hpre, uintB_big (n := m.toNat) (by omega), show (m / 128).toNat = m.toNat / 128 by omega]
    simp
  · refine ldB h (i := 0) (x := s) ?_
    refine appByte h.swap (w_u8_of m hm0) (by simp; omega) fun s' w1 h1 => ?_
    refine stB h1.swap (i := 0) (v := s'.v) fun w2 h2 => hK w2 (sat_wr.2 ⟨s', ?_⟩)
    rw [← hpre, uintB_small (n := m.toNat) (by omega)]
    simpa using h2
theorem tyI {k : Kd} {x : k.Ty} {K : k.Ty → Prop} (h : K x) : TyP k (k.v x) K := ⟨x, rfl, h⟩
theorem tupU {v : Value} {K : Unit → Prop} (hv : v = .tuple #[]) (h : K ()) : TupP [] v K := ⟨(), hv, h⟩
theorem wInt_ok {b : Nat} {o : List UInt8} {e n : Int} (h : Sat W w (WrR b o e :: l)) (h0 : -9223372036854775808 ≤ n) (h1 : n < 9223372036854775808) (hlen : o.length + 10 ≤ 140737488355328)
    (hK : ∀ w', Sat W w' (WrR b (o ++ intB n) e :: l) → K (.tuple #[]) w') : CallP P F_codec_Writer_Int [.pointer (some ⟨b, 0, none⟩), .int .i64 n] w K := by
  apply c_codec_Writer_Int
  unfold S_codec_Writer_Int
  rw [zig_code h0 h1]
  have hz := zig_lt h0 h1
  refine wUint_ok h (by omega) (by omega) hlen fun w' h' => tupU rfl (hK w' ?_)
  simpa [intB] using h'
theorem wFlag_ok {b : Nat} {o : List UInt8} {e : Int} {f : Bool} (h : Sat W w (WrR b o e :: l)) (hlen : o.length + 10 ≤ 140737488355328)
    (hK : ∀ w', Sat W w' (WrR b (o ++ flagB f) e :: l) → K (.tuple #[]) w') : CallP P F_codec_Writer_Flag [.pointer (some ⟨b, 0, none⟩), .bool f] w K := by
  apply c_codec_Writer_Flag
  unfold S_codec_Writer_Flag
  cases f
  · exact wUint_ok h (by decide) (by decide) hlen fun w' h' => tupU rfl (hK w' (by simpa [flagB, uintB_small] using h'))
  · exact wUint_ok h (by decide) (by decide) hlen fun w' h' => tupU rfl (hK w' (by simpa [flagB, uintB_small] using h'))
/-- the error of a writer that is told so many bytes -/
def wErr (e : Int) (n : Nat) : Int := if n > 4096 ∧ e = 0 then 2 else e
theorem wBytes_ok {b : Nat} {o n : List UInt8} {e : Int} {x : Sl} (h : Sat W w (WrR b o e :: l)) (hx : Rd W l x 1 (n.map vB)) (hlen : o.length + 10 + n.length ≤ 140737488355328)
    (hK : ∀ w', Sat W w' (WrR b (o ++ bytesB n) (wErr e n.length) :: l) → K (.tuple #[]) w') : CallP P F_codec_Writer_Bytes [.pointer (some ⟨b, 0, none⟩), x.v] w K := by
  apply c_codec_Writer_Bytes
  unfold S_codec_Writer_Bytes
  simp only [Option.isNone_some, ifB, nilCk]
  have hxl := (hx w h.tail).1
  simp at hxl
  refine ⟨fun _ w' => Sat W w' (WrR b o (wErr e n.length) :: l), fun _ w1 h1 => ?_, ?_⟩
  · rw [w_u64 (by omega) (by omega)]
    refine wUint_ok h1 (by omega) (by omega) (by omega) fun w2 h2 => tupU rfl ?_
    obtain ⟨s, h2⟩ := sat_wr.1 h2
    refine ldB h2 (i := 0) (x := s) ?_
    have h10 := uintB_len10 x.len (by omega)
    refine appBytes h2.swap (hx w2 h2.tail.tail) (by simp; omega) fun s' w3 h3 => ?_
    refine stB h3.swap (i := 0) (v := s'.v) fun w4 h4 => hK w4 (sat_wr.2 ⟨s', ?_⟩)
    simpa [bytesB, hxl] using h4
  · refine ifB_dec (fun hc => ?_) fun hc => ?_
    · obtain ⟨s, h⟩ := sat_wr.1 h
      refine ldB h (i := 1) (x := e) ?_
      refine ifB_beq (fun he => ?_) fun he => ?_
      · refine stB h (i := 1) fun w2 h2 => sat_wr.2 ⟨s, ?_⟩
        rw [wErr, if_pos ⟨by omega, he⟩]; simpa using h2
      · rw [wErr, if_neg (by omega)]; exact sat_wr.2 ⟨s, h⟩
    · rw [wErr, if_neg (by omega)]; exact h
theorem wInts_ok {b : Nat} {o : List UInt8} {n : List Int} {e : Int} {x : Sl} (h : Sat W w (WrR b o e :: l)) (hx : Rd W l x 1 (n.map vI)) (hn : ∀ i ∈ n, -9223372036854775808 ≤ i ∧ i < 9223372036854775808) (hlen : o.length + 10 + 10 * n.length ≤ 140737488355328)
    (hK : ∀ w', Sat W w' (WrR b (o ++ intsB n) e :: l) → K (.tuple #[]) w') : CallP P F_codec_Writer_Ints [.pointer (some ⟨b, 0, none⟩), x.v] w K := by
  apply c_codec_Writer_Ints
  unfold S_codec_Writer_Ints
  have hxl := (hx w h.tail).1
  simp at hxl
  rw [w_u64 (by omega) (by omega)]
  refine wUint_ok h (by omega) (by omega) (by omega) fun w1 h1 => tupU rfl ?_
  have h10 := uintB_len10 x.len (by omega)
  have hil : ∀ k, ((n.take k).flatMap intB).length ≤ 10 * k := by
    intro k
    induction k with
    | zero => simp
    | succ k ih =>
      by_cases hk : k < n.length
      · rw [List.take_succ_eq_append_getElem hk, List.flatMap_append]
        have := hn n[k] (by simp)
        have := uintB_len10 (zig n[k]) (zig_lt this.1 this.2)
        simp only [List.length_append, List.flatMap_cons, List.flatMap_nil, List.append_nil, intB] at ih ⊢; omega
      · rw [List.take_of_length_le (by omega)] at ih ⊢; omega
  refine ⟨fun t w' => ∃ k : Nat, t.1 = k ∧ k ≤ n.length ∧ Sat W w' (WrR b (o ++ uintB n.length ++ (n.take k).flatMap intB) e :: l), fun t _ => n.length - t.1.toNat, ⟨0, rfl, by omega, by simpa [hxl] using h1⟩, ?_⟩
  rintro ⟨i, u⟩ w2 ⟨k, hk, hkn, h2⟩
  simp only at hk ⊢
  subst hk
  refine ifB_dec (fun hc => ?_) fun hc => ?_
  · have hlt : k < n.length := by omega
    refine ixld et_ints (hx w2 h2.tail) (by omega) (k := .int .i64) (x := n[k]) (by simp [vI, hlt]) ?_
    have hb := hn n[k] (by simp)
    have := hil k
    have hxl' := hxl
    refine wInt_ok h2 hb.1 hb.2 (by simp only [List.length_append]; rw [hxl]; omega) fun w3 h3 => tupU rfl ?_
    refine ⟨⟨k + 1, by rw [w_i64 (by omega) (by omega)]; rfl, by omega, ?_⟩, by rw [w_i64 (by omega) (by omega)]; omega⟩
    rw [List.take_succ_eq_append_getElem hlt, List.flatMap_append]
    simpa using h3
  · have : k = n.length := by omega
    subst this
    refine hK w2 ?_
    simpa [intsB] using h2
end
end Go.Proofs.Ytokogdigfohbeaa

/- Layer 3: the writers' contracts, second part: Out, the reference's forms, a writer that there isn't. -/
namespace Go.Proofs.Ytokogdigfohbeaa
open Go Go.Pk
section
variable {W w : World} {l : List Res} {K : Value → World → Prop}
theorem wOut_ok {b : Nat} {o : List UInt8} {e : Int} (h : Sat W w (WrR b o e :: l)) (hlen : o.length ≤ 140737488355328)
    (h0 : e ≠ 0 → ∀ w', Sat W w' (WrR b o e :: l) → K (.tuple #[.slice none 0 0, .int .i64 e]) w')
    (h1 : e = 0 → ∀ s w', Sat W w' (BsR s o :: WrR b o e :: l) → K (.tuple #[s.v, .int .i64 0]) w') : CallP P F_codec_Writer_Out [.pointer (some ⟨b, 0, none⟩)] w K := by
  apply c_codec_Writer_Out
  unfold S_codec_Writer_Out
  simp only [Option.isNone_some, ifB, nilCk]
  obtain ⟨s, h⟩ := sat_wr.1 h
  refine ldB h (i := 1) (x := e) ?_
  refine ifB_bne (fun he => ?_) fun he => ?_
  · exact ldB h.drew (i := 1) (x := e) (h0 he _ (sat_wr.2 ⟨s, h.drew⟩))
  · refine ldB h (i := 0) (x := s) ?_
    have h2 := Sat.nilSlr h T_uint8 1
    refine appBytes (s := ⟨none, 0, 0⟩) (o := []) h2 (h.swap.rdc) (by simpa using hlen) fun s' w1 h3 => h1 he s' w1 ?_
    have h4 := h3.swap
    have h5 := h3.rot3
    -- [BsR s o, BsR s' .., Blk ..]
    have : Sat W w1 (Blk b [s.v, .int .i64 e] T_codec_Writer :: BsR s o :: BsR s' ([] ++ o) :: l) := h5.perm (by
      refine (List.Perm.cons _ (List.Perm.swap _ _ _)).trans (List.Perm.swap _ _ _)|>.trans ?_
      exact List.Perm.refl _)
    have h6 := sat_wr.2 ⟨s, this⟩
    simpa using h6.swap

/-! ### the reference's forms -/
theorem rUint_ok {n : Int} (h : Sat W w l) (h0 : 0 ≤ n) (h1 : n < 18446744073709551616) (hK : ∀ s w', Sat W w' (BsR s (uintB n.toNat) :: l) → K s.v w') : CallP P F_ref03_Uint [.int .u64 n] w K := by
  apply c_ref03_Uint
  unfold S_ref03_Uint
  have hl10 := uintB_len10 n.toNat (by omega)
  refine ⟨fun t w' => 0 ≤ t.1 ∧ t.1 < 18446744073709551616 ∧ ∃ pre, pre ++ uintB t.1.toNat = uintB n.toNat ∧ Sat W w' (BsR t.2.1 pre :: l), fun t _ => t.1.toNat, ⟨h0, h1, [], rfl, h.nilSlr T_uint8 1⟩, ?_⟩
  rintro ⟨m, s, u⟩ w' ⟨hm0, hm1, pre, hpre, h⟩
  simp only at hm0 hm1 hpre h ⊢
  have hpl : pre.length ≤ 9 := by
    have := uintB_pos m.toNat
    have := congrArg List.length hpre
    simp at this; omega
  have hd : Int.tdiv m 128 = m / 128 := Int.tdiv_eq_ediv_of_nonneg hm0
  have hm : Int.tmod m 128 = m % 128 := Int.tmod_eq_emod_of_nonneg hm0
  rw [hd, hm, w_u64 (by omega) (by omega), w_u64 (by omega) (by omega)]
  refine ifB_beq (fun hz => ?_) fun hz => ?_
  · refine appByte (b := UInt8.ofNat m.toNat) h ?_ (by omega) fun s' w1 h1 => hK s' w1 ?_
    · rw [w_u8_of _ (by omega)]; simp; omega
    · rw [← hpre, uintB_small (n := m.toNat) (by omega)]; exact h1
  · refine appByte (b := UInt8.ofNat (m.toNat % 128 + 128)) h ?_ (by omega) fun s' w1 h1 => ?_
    · rw [w_u8_of _ (by omega)]; simp; omega
    · refine ⟨⟨by omega, by omega, pre ++ [UInt8.ofNat (m.toNat % 128 + 128)], ?_, h1⟩, by omega⟩
      rw [← hpre, uintB_big (n := m.toNat) (by omega)]
      have : (m / 128).toNat = m.toNat / 128 := by omega
      rw [this]; simp
theorem rZig_ok {n : Int} (h0 : -9223372036854775808 ≤ n) (h1 : n < 9223372036854775808) (hK : K (.int .u64 (zig n : Nat)) w) : CallP P F_ref03_Zig [.int .i64 n] w K := by
  apply c_ref03_Zig
  unfold S_ref03_Zig
  refine ifB_dec (fun hc => ?_) fun hc => ?_
  · have : IntKind.u64.wrap (2 * IntKind.u64.wrap n) = (zig n : Nat) := by
      rw [w_u64 (n := n) (by omega) (by omega), w_u64 (by omega) (by omega)]; unfold zig; rw [if_pos hc]; omega
    rw [this]; exact hK
  · have : IntKind.u64.wrap (IntKind.u64.wrap (2 * IntKind.u64.wrap (IntKind.i64.wrap (0 - IntKind.i64.wrap (n + 1)))) + 1) = (zig n : Nat) := by
      rw [w_i64 (n := n + 1) (by omega) (by omega), w_i64 (by omega) (by omega), w_u64 (n := 0 - (n + 1)) (by omega) (by omega), w_u64 (n := 2 * (0 - (n + 1))) (by omega) (by omega), w_u64 (by omega) (by omega)]
      unfold zig; rw [if_neg (by omega)]; omega
    rw [this]; exact hK
theorem rInt_ok {n : Int} (h : Sat W w l) (h0 : -9223372036854775808 ≤ n) (h1 : n < 9223372036854775808) (hK : ∀ s w', Sat W w' (BsR s (intB n) :: l) → K s.v w') : CallP P F_ref03_Int [.int .i64 n] w K := by
  apply c_ref03_Int
  unfold S_ref03_Int
  have := zig_lt h0 h1
  refine rZig_ok h0 h1 ⟨_, rfl, rUint_ok h (by omega) (by omega) fun s w' h' => ⟨s, rfl, hK s w' (by simpa [intB] using h')⟩⟩
theorem rFlag_ok {f : Bool} (h : Sat W w l) (hK : ∀ s w', Sat W w' (BsR s (flagB f) :: l) → K s.v w') : CallP P F_ref03_Flag [.bool f] w K := by
  apply c_ref03_Flag
  unfold S_ref03_Flag
  cases f
  · refine bsB h (cs := [.int .u8 0]) (e := T_uint8) (fun w => by kernel_rfl) fun g w1 h1 => hK _ w1 (h1.mkSlr rfl (by simp) (by simp) (by simp) rfl (by simp [Value.oneCell']))
  · refine bsB h (cs := [.int .u8 1]) (e := T_uint8) (fun w => by kernel_rfl) fun g w1 h1 => hK _ w1 (h1.mkSlr rfl (by simp) (by simp) (by simp) rfl (by simp [Value.oneCell']))
theorem rBytes_ok {n : List UInt8} {x : Sl} (h : Sat W w l) (hx : Rd W l x 1 (n.map vB)) (hlen : n.length + 10 ≤ 140737488355328) (hK : ∀ s w', Sat W w' (BsR s (bytesB n) :: l) → K s.v w') : CallP P F_ref03_Bytes [x.v] w K := by
  apply c_ref03_Bytes
  unfold S_ref03_Bytes
  have hxl := (hx w h).1
  simp at hxl
  rw [w_u64 (by omega) (by omega)]
  have h10 := uintB_len10 x.len (by omega)
  refine rUint_ok h (by omega) (by omega) fun s w1 h1 => ⟨s, rfl, ?_⟩
  refine appBytes h1 (hx w1 h1.tail) (by simp; omega) fun s' w2 h2 => hK s' w2 ?_
  simpa [bytesB, hxl] using h2
theorem rInts_ok {n : List Int} {x : Sl} (h : Sat W w l) (hx : Rd W l x 1 (n.map vI)) (hn : ∀ i ∈ n, -9223372036854775808 ≤ i ∧ i < 9223372036854775808) (hlen : 10 + 10 * n.length ≤ 140737488355328)
    (hK : ∀ s w', Sat W w' (BsR s (intsB n) :: l) → K s.v w') : CallP P F_ref03_Ints [x.v] w K := by
  apply c_ref03_Ints
  unfold S_ref03_Ints
  have hxl := (hx w h).1
  simp at hxl
  rw [w_u64 (by omega) (by omega)]
  have h10 := uintB_len10 x.len (by omega)
  refine rUint_ok h (by omega) (by omega) fun s w1 h1 => ⟨s, rfl, ?_⟩
  have hil : ∀ k, ((n.take k).flatMap intB).length ≤ 10 * k := by
    intro k
    induction k with
    | zero => simp
    | succ k ih =>
      by_cases hk : k < n.length
      · rw [List.take_succ_eq_append_getElem hk, List.flatMap_append]
        have := hn n[k] (by simp)
        have := uintB_len10 (zig n[k]) (zig_lt this.1 this.2)
        simp only [List.length_append, List.flatMap_cons, List.flatMap_nil, List.append_nil, intB] at ih ⊢; omega
      · rw [List.take_of_length_le (by omega)] at ih ⊢; omega
  refine ⟨fun t w' => ∃ k : Nat, t.2.1 = k ∧ k ≤ n.length ∧ Sat W w' (BsR t.1 (uintB n.length ++ (n.take k).flatMap intB) :: l), fun t _ => n.length - t.2.1.toNat, ⟨0, rfl, by omega, by simpa [hxl] using h1⟩, ?_⟩
  rintro ⟨s2, i, u⟩ w2 ⟨k, hk, hkn, h2⟩
  simp only at hk h2 ⊢
  subst hk
  refine ifB_dec (fun hc => ?_) fun hc => ?_
  · have hlt : k < n.length := by omega
    refine ixld et_ints (hx w2 h2.tail) (by omega) (k := .int .i64) (x := n[k]) (by simp [vI, hlt]) ?_
    have hb := hn n[k] (by simp)
    have := hil k
    refine rInt_ok h2 hb.1 hb.2 fun s3 w3 h3 => ⟨s3, rfl, ?_⟩
    have h11 := uintB_len10 (zig n[k]) (zig_lt hb.1 hb.2)
    refine appBytes h3.swap h3.rdc (by simp only [List.length_append, intB]; rw [hxl]; omega) fun s4 w4 h4 => ?_
    refine ⟨⟨k + 1, by rw [w_i64 (by omega) (by omega)]; rfl, by omega, ?_⟩, by rw [w_i64 (by omega) (by omega)]; omega⟩
    rw [List.take_succ_eq_append_getElem hlt, List.flatMap_append]
    simpa using h4.drop2
  · have : k = n.length := by omega
    subst this
    refine hK s2 w2 ?_
    simpa [intsB] using h2
end
end Go.Proofs.Ytokogdigfohbeaa

/- Layer 3: the program's reader's contracts. -/
namespace Go.Pk
open Go
theorem shlR {P : Program} {w : World} {k yk : IntKind} {x y : Int} {t : TypeId} {o1 o2 : Operand} {a b : Value} {K : Int → World → Prop} (hy : 0 ≤ y) (hK : K (k.wrap (x * 2 ^ (min y.toNat k.bits))) w) :
    RunK (.int k) P (do (eqGuard .shl t o1 o2 a b); (binOp .shl t (.int k x) (.int yk y))) w K := by
  refine ⟨_, w, ?_, hK⟩
  have : ¬ y < 0 := by omega
  simp [eqGuard, binOp, Op.shift, this]
theorem or_add {n c k : Nat} (hn : n < 128 ^ k) (h : n + c * 128 ^ k < 2 ^ 64) (hk : k ≤ 9) :
    IntKind.u64.wrap (↑(BitVec.ofInt 64 (n : Int) ||| BitVec.ofInt 64 (IntKind.u64.wrap ((c : Int) * 2 ^ (min (7 * (k : Int)).toNat IntKind.u64.bits)))).toNat : Int) = ((n + c * 128 ^ k : Nat) : Int) := by
  have hm : min (7 * (k : Int)).toNat IntKind.u64.bits = 7 * k := by show min (7 * (k : Int)).toNat 64 = 7 * k; omega
  have h128 : 128 ^ k = 2 ^ (7 * k) := by rw [Nat.pow_mul]
  rw [hm]
  have hc : ((c : Int) * 2 ^ (7 * k)) = ((c * 128 ^ k : Nat) : Int) := by rw [h128]; push_cast; rfl
  rw [hc, w_u64 (n := ((c * 128 ^ k : Nat) : Int)) (by omega) (by omega)]
  have h1 : (BitVec.ofInt 64 (n : Int)).toNat = n := by simp [BitVec.toNat_ofInt]; omega
  have h2 : (BitVec.ofInt 64 ((c * 128 ^ k : Nat) : Int)).toNat = c * 128 ^ k := by
    rw [BitVec.toNat_ofInt]; omega
  rw [BitVec.toNat_or, h1, h2]
  have h3 : n ||| c * 128 ^ k = n + c * 128 ^ k := by
    rw [h128] at hn ⊢
    have := Nat.two_pow_add_eq_or_of_lt hn c
    rw [Nat.or_comm, Nat.mul_comm c, ← this, Nat.add_comm]
  rw [h3, w_u64 (by omega) (by omega)]
end Go.Pk
namespace Go.Proofs.Ytokogdigfohbeaa
open Go Go.Pk
/-- a reader: the bytes, the place, the error -/
def RdrR (b : Nat) (t : List UInt8) (p : Nat) (e : Int) : Res := Ex fun s : Sl => All [Blk b [s.v, .int .i64 p, .int .i64 e] T_codec_Reader, BsR s t]
theorem sat_rdr {W w : World} {l : List Res} {b p : Nat} {t : List UInt8} {e : Int} : Sat W w (RdrR b t p e :: l) ↔ ∃ s : Sl, Sat W w (Blk b [s.v, .int .i64 p, .int .i64 e] T_codec_Reader :: BsR s t :: l) := by
  simp only [RdrR, sat_ex, sat_all, List.cons_append, List.nil_append]
theorem getElem?_vB {t : List UInt8} {i : Nat} (h : i < t.length) : (t.map vB)[i]? = some (Kd.v (.int .u8) (t[i].toNat : Int)) := by simp [vB, h]
section
variable {W w : World} {l : List Res} {K : Value → World → Prop} {b p : Nat} {t : List UInt8} {e : Int}
theorem newReader_ok {x : Sl} (h : Sat W w l) (hx : Rd W l x 1 (t.map vB)) (hlen : t.length ≤ 140737488355328)
    (hK : ∀ b w', Sat W w' (RdrR b t 0 0 :: l) → K (.pointer (some ⟨b, 0, none⟩)) w') : CallP P F_codec_NewReader [x.v] w K := by
  apply c_codec_NewReader
  unfold S_codec_NewReader
  refine appBytes (s := ⟨none, 0, 0⟩) (o := []) (Sat.nilSlr h T_uint8 1) (hx w h) (by simpa using hlen) fun s w1 h1 => ?_
  rw [List.nil_append] at h1
  exact boxB h1 fun b w2 h2 => hK b w2 (sat_rdr.2 ⟨s, h2⟩)
theorem fail_ok {x : Int} (h : Sat W w (RdrR b t p e :: l)) (hK : ∀ w', Sat W w' (RdrR b t p (if e = 0 then x else e) :: l) → K (.tuple #[]) w') :
    CallP P F_codec_Reader_fail [.pointer (some ⟨b, 0, none⟩), .int .i64 x] w K := by
  apply c_codec_Reader_fail
  unfold S_codec_Reader_fail
  simp only [nilCk]
  obtain ⟨s, h⟩ := sat_rdr.1 h
  refine ldB h (i := 2) (x := e) ?_
  refine ifB_beq (fun he => ?_) fun he => ?_
  · refine stB h (i := 2) fun w1 h1 => hK w1 ?_
    rw [if_pos he]; exact sat_rdr.2 ⟨s, by simpa using h1⟩
  · refine hK w ?_
    rw [if_neg he]; exact sat_rdr.2 ⟨s, h⟩
set_option maxRecDepth 4000 in
theorem dUint_ok (h : Sat W w (RdrR b t p e :: l)) (hp : p ≤ t.length) (ht : t.length ≤ 140737488355328)
    (hK : ∀ w', Sat W w' (RdrR b t (takeU t p e).2.1 (takeU t p e).2.2 :: l) → K (.int .u64 (takeU t p e).1) w') :
    CallP P F_codec_Reader_Uint [.pointer (some ⟨b, 0, none⟩)] w K := by
  apply c_codec_Reader_Uint
  unfold S_codec_Reader_Uint
  simp only [Option.isNone_some, ifB_false, nilCk]
  refine ⟨fun _ w' => e = 0 ∧ Sat W w' (RdrR b t p e :: l), fun _ w1 ⟨he, h1⟩ => ?_, ?_⟩
  · subst he
    obtain ⟨s, h1⟩ := sat_rdr.1 h1
    refine ldB h1 (i := 1) (x := (p : Int)) ?_
    refine ⟨fun x w' => ∃ k n : Nat, x.1 = n ∧ x.2.1 = 7 * (k : Int) ∧ k ≤ 9 ∧ n < 128 ^ k ∧ p + k ≤ t.length ∧ rdU (t.drop p) 0 0 = rdU (t.drop (p + k)) k n ∧ Sat W w' (RdrR b t (p + k) 0 :: l),
      fun x _ => 70 - x.2.1.toNat, ⟨0, 0, rfl, rfl, by omega, by simp, by omega, rfl, sat_rdr.2 ⟨s, h1⟩⟩, ?_⟩
    rintro ⟨n', sh, u⟩ w2 ⟨k, n, hn, hsh, hk, hn128, hpk, hrd, h2⟩
    simp only at hn hsh ⊢
    subst hn; subst hsh
    have h2' := h2
    obtain ⟨s2, h2⟩ := sat_rdr.1 h2
    have hsl := Sat.bsLen h2.tail
    refine ldB h2.drew (i := 1) (x := ((p + k : Nat) : Int)) ?_
    refine ldB h2.drew (i := 0) (x := s2) ?_
    refine ifB_beq (fun hc => ?_) fun hc => ?_
    · have hx : takeU t p 0 = (0, p, 6) := by
        simp only [takeU, ne_eq, not_true_eq_false, if_false, hrd]
        rw [List.drop_of_length_le (by omega)]; rfl
      refine stB h2.drew (i := 1) fun w3 h3 => ?_
      have h3 := sat_rdr.2 ⟨s2, h3⟩
      refine fail_ok h3 fun w4 h4 => tupU rfl ?_
      have := hK w4
      rw [hx] at this
      exact this h4
    · have hlt : p + k < t.length := by omega
      have hdrop : t.drop (p + k) = t[p + k] :: t.drop (p + k + 1) := List.drop_eq_getElem_cons hlt
      have hb := t[p + k].toNat_lt
      refine ldB h2.drew.drew (i := 0) (x := s2) ?_
      refine ldB h2.drew.drew (i := 1) (x := ((p + k : Nat) : Int)) ?_
      refine ixld et_bytes (h2.drew.drew.swap.rdc) (by omega) (k := .int .u8) (by exact getElem?_vB hlt) ?_
      refine ldB h2.drew.drew (i := 1) (x := ((p + k : Nat) : Int)) ?_
      refine stB h2.drew.drew (i := 1) fun w3 h3 => ?_
      rw [w_i64 (by omega) (by omega)] at h3
      have h3 := sat_rdr.2 ⟨s2, (show Sat W w3 (Blk b [s2.v, .int .i64 ((p + k + 1 : Nat) : Int), .int .i64 0] T_codec_Reader :: BsR s2 t :: l) from by simpa using h3)⟩
      -- what is refused
      have bad : ∀ w4 : World, Sat W w4 (RdrR b t (p + k + 1) 0 :: l) → (k = 9 ∧ t[p + k].toNat > 1) ∨ (t[p + k].toNat = 0 ∧ k > 0) →
          StoreP P 3 (.pointer (some ((⟨b, 0, none⟩ : Addr).add 1))) (.int .i64 p) w4 fun w33 => CallP P F_codec_Reader_fail [(.pointer (some ⟨b, 0, none⟩)), (.int .i64 7)] w33 fun v34 w35 => TupP [] v34 fun _ => K (.int .u64 0) w35 := by
        intro w4 h4 hbad
        obtain ⟨s4, h4⟩ := sat_rdr.1 h4
        refine stB h4 (i := 1) fun w5 h5 => ?_
        have h5 := sat_rdr.2 ⟨s4, h5⟩
        refine fail_ok h5 fun w6 h6 => tupU rfl ?_
        have hx : takeU t p 0 = (0, p, 7) := by
          simp only [takeU, ne_eq, not_true_eq_false, if_false, hrd, hdrop, rdU]
          rw [if_pos hbad]
        have := hK w6
        rw [hx] at this
        exact this h6
      refine ⟨fun _ w' => ¬ ((k = 9 ∧ t[p + k].toNat > 1) ∨ (t[p + k].toNat = 0 ∧ k > 0)) ∧ Sat W w' (RdrR b t (p + k + 1) 0 :: l), ?_, ?_⟩
      · rintro _ w4 ⟨hgood, h4⟩
        rw [and127, w_u64 (n := ((t[p + k].toNat % 128 : Nat) : Int)) (by omega) (by omega)]
        refine shlR (by omega) ?_
        have hsum : n + t[p + k].toNat % 128 * 128 ^ k < 2 ^ 64 := by
          rcases Nat.lt_or_ge k 9 with h9 | h9
          · have : 128 ^ (k + 1) ≤ 128 ^ 9 := Nat.pow_le_pow_right (by decide) (by omega)
            have h3 : t[p + k].toNat % 128 * 128 ^ k ≤ 127 * 128 ^ k := Nat.mul_le_mul_right _ (by omega)
            rw [Nat.pow_succ] at this
            omega
          · have : k = 9 := by omega
            subst this
            have : t[p + 9].toNat ≤ 1 := by omega
            have h3 : t[p + 9].toNat % 128 * 128 ^ 9 ≤ 1 * 128 ^ 9 := Nat.mul_le_mul_right _ (by omega)
            omega
        rw [or_add hn128 hsum hk]
        generalize hm : n + t[p + k].toNat % 128 * 128 ^ k = m at *
        refine ifB_dec (fun hlt8 => ?_) fun hge8 => ?_
        · have hx : takeU t p 0 = (m, p + (k + 1), 0) := by
            simp only [takeU, ne_eq, not_true_eq_false, if_false, hrd, hdrop, rdU]
            rw [if_neg hgood, if_pos (by omega), ← hm, Nat.mod_eq_of_lt (by omega)]
          have := hK w4
          rw [hx] at this
          exact this h4
        · have hk9 : k < 9 := by
            rcases Nat.lt_or_ge k 9 with h | h
            · exact h
            · exact absurd (Or.inl ⟨by omega, by omega⟩) hgood
          have hmod : t[p + k].toNat % 128 = t[p + k].toNat - 128 := by omega
          rw [w_i64 (by omega) (by omega)]
          refine ⟨⟨k + 1, m, rfl, by omega, by omega, ?_, by omega, ?_, h4⟩, by omega⟩
          · rw [Nat.pow_succ, ← hm]
            have h3 : t[p + k].toNat % 128 * 128 ^ k ≤ 127 * 128 ^ k := Nat.mul_le_mul_right _ (by omega)
            omega
          · rw [hrd, hdrop]
            simp only [rdU]
            rw [if_neg hgood, if_neg (by omega), ← hm, hmod]; rfl
      · refine ifB_beq (fun h63 => ?_) fun h63 => ?_
        · refine ifB_dec (fun hgt => bad w3 h3 (Or.inl ⟨by omega, by omega⟩)) fun hgt => ?_
          refine ifB_beq (fun hz => ?_) fun hz => ⟨by omega, h3⟩
          exact ifB_dec (fun hk0 => bad w3 h3 (Or.inr ⟨by omega, by omega⟩)) fun hk0 => ⟨by omega, h3⟩
        · refine ifB_beq (fun hz => ?_) fun hz => ⟨by omega, h3⟩
          exact ifB_dec (fun hk0 => bad w3 h3 (Or.inr ⟨by omega, by omega⟩)) fun hk0 => ⟨by omega, h3⟩
  · obtain ⟨s, h1⟩ := sat_rdr.1 h
    refine ldB h1 (i := 2) (x := e) ?_
    refine ifB_bne (fun he => ?_) fun he => ⟨he, h⟩
    have := hK w
    rw [(takeU_bound hp).2.2.2.2 he] at this
    exact this h
end
end Go.Proofs.Ytokogdigfohbeaa

/- Layer 3: the program's reader's contracts, second part. -/
namespace Go.Proofs.Ytokogdigfohbeaa
open Go Go.Pk
section
variable {W w : World} {l : List Res} {K : Value → World → Prop} {b p : Nat} {t : List UInt8} {e : Int}
theorem dInt_ok (h : Sat W w (RdrR b t p e :: l)) (hp : p ≤ t.length) (ht : t.length ≤ 140737488355328)
    (hK : ∀ w', Sat W w' (RdrR b t (takeI t p e).2.1 (takeI t p e).2.2 :: l) → K (.int .i64 (takeI t p e).1) w') :
    CallP P F_codec_Reader_Int [.pointer (some ⟨b, 0, none⟩)] w K := by
  apply c_codec_Reader_Int
  unfold S_codec_Reader_Int
  refine dUint_ok h hp ht fun w' h' => tyI ?_
  rw [zag_code (takeU_bound hp).1]
  exact hK w' h'
theorem dFlag_ok (h : Sat W w (RdrR b t p e :: l)) (hp : p ≤ t.length) (ht : t.length ≤ 140737488355328)
    (hK : ∀ w', Sat W w' (RdrR b t (takeF t p e).2.1 (takeF t p e).2.2 :: l) → K (.bool (takeF t p e).1) w') :
    CallP P F_codec_Reader_Flag [.pointer (some ⟨b, 0, none⟩)] w K := by
  apply c_codec_Reader_Flag
  unfold S_codec_Reader_Flag
  refine dUint_ok h hp ht fun w' h' => tyI ?_
  refine ifB_dec (fun hc => ?_) fun hc => ?_
  · have hx : takeF t p e = (false, (takeU t p e).2.1, if (takeU t p e).2.2 = 0 then 7 else (takeU t p e).2.2) := by
      simp only [takeF]; rw [if_pos (by omega)]
    refine fail_ok h' fun w2 h2 => tupU rfl ?_
    have := hK w2; rw [hx] at this; exact this h2
  · have hx : takeF t p e = ((takeU t p e).1 == 1, (takeU t p e).2.1, (takeU t p e).2.2) := by
      simp only [takeF]; rw [if_neg (by omega)]
    have := hK w'; rw [hx] at this
    have h2 : (((takeU t p e).1 : Int) == 1) = ((takeU t p e).1 == 1) := by
      rw [Bool.eq_iff_iff]; simp; omega
    rw [h2]; exact this h'
theorem fixed_code (a b c d : UInt8) : IntKind.u32.wrap (↑(BitVec.ofInt 32 (IntKind.u32.wrap (↑(BitVec.ofInt 32 (IntKind.u32.wrap (↑(BitVec.ofInt 32 (IntKind.u32.wrap (a.toNat : Int)) ||| BitVec.ofInt 32 (IntKind.u32.wrap (IntKind.u32.wrap (b.toNat : Int) * 2 ^ 8))).toNat : Int)) ||| BitVec.ofInt 32 (IntKind.u32.wrap (IntKind.u32.wrap (c.toNat : Int) * 2 ^ 16))).toNat : Int)) ||| BitVec.ofInt 32 (IntKind.u32.wrap (IntKind.u32.wrap (d.toNat : Int) * 2 ^ 24))).toNat : Int)
    = ((a.toNat + b.toNat * 256 + c.toNat * 65536 + d.toNat * 16777216 : Nat) : Int) := by
  have ha := a.toNat_lt
  have hb := b.toNat_lt
  have hc := c.toNat_lt
  have hd := d.toNat_lt
  rw [w_u32 (n := (a.toNat : Int)) (by omega) (by omega), w_u32 (n := (b.toNat : Int)) (by omega) (by omega), w_u32 (n := (c.toNat : Int)) (by omega) (by omega), w_u32 (n := (d.toNat : Int)) (by omega) (by omega),
    w_u32 (n := (b.toNat : Int) * 2 ^ 8) (by omega) (by omega), w_u32 (n := (c.toNat : Int) * 2 ^ 16) (by omega) (by omega), w_u32 (n := (d.toNat : Int) * 2 ^ 24) (by omega) (by omega)]
  have step : ∀ (x y k : Nat), x < 2 ^ k → x + y * 2 ^ k < 2 ^ 32 → IntKind.u32.wrap (↑(BitVec.ofInt 32 (x : Int) ||| BitVec.ofInt 32 ((y * 2 ^ k : Nat) : Int)).toNat : Int) = ((x + y * 2 ^ k : Nat) : Int) := by
    intro x y k hx hxy
    have h1 : (BitVec.ofInt 32 (x : Int)).toNat = x := by rw [BitVec.toNat_ofInt]; omega
    have h2 : (BitVec.ofInt 32 ((y * 2 ^ k : Nat) : Int)).toNat = y * 2 ^ k := by rw [BitVec.toNat_ofInt]; omega
    have h3 : x ||| y * 2 ^ k = x + y * 2 ^ k := by
      have := Nat.two_pow_add_eq_or_of_lt hx y
      rw [Nat.or_comm, Nat.mul_comm y, ← this, Nat.add_comm]
    rw [BitVec.toNat_or, h1, h2, h3, w_u32 (by omega) (by omega)]
  have e1 : (b.toNat : Int) * 2 ^ 8 = ((b.toNat * 2 ^ 8 : Nat) : Int) := by omega
  have e2 : (c.toNat : Int) * 2 ^ 16 = ((c.toNat * 2 ^ 16 : Nat) : Int) := by omega
  have e3 : (d.toNat : Int) * 2 ^ 24 = ((d.toNat * 2 ^ 24 : Nat) : Int) := by omega
  rw [e1, e2, e3, step a.toNat b.toNat 8 (by omega) (by omega), step _ c.toNat 16 (by omega) (by omega), step _ d.toNat 24 (by omega) (by omega)]
theorem dBytes_ok (h : Sat W w (RdrR b t p e :: l)) (hp : p ≤ t.length) (ht : t.length ≤ 140737488355328)
    (hK : ∀ s w', Sat W w' (BsR s (takeB t p e).1 :: RdrR b t (takeB t p e).2.1 (takeB t p e).2.2 :: l) → K s.v w') :
    CallP P F_codec_Reader_Bytes [.pointer (some ⟨b, 0, none⟩)] w K := by
  apply c_codec_Reader_Bytes
  unfold S_codec_Reader_Bytes
  refine dUint_ok h hp ht fun w1 h1 => tyI ?_
  have hb := takeU_bound (e := e) hp
  simp only [Option.isNone_some, ifB_false, nilCk]
  generalize hu : takeU t p e = u at *
  obtain ⟨n, q, e1⟩ := u
  simp only at h1 hb ⊢
  have hnil : ∀ w' q' e', takeB t p e = ([], q', e') → Sat W w' (RdrR b t q' e' :: l) → K (.slice none 0 0) w' := by
    intro w' q' e' hx h'
    have := hK ⟨none, 0, 0⟩ w'
    rw [hx] at this
    exact this (h'.nilSlr T_uint8 1)
  refine ⟨fun _ w' => e1 = 0 ∧ n ≤ 4096 ∧ q + n ≤ t.length ∧ Sat W w' (RdrR b t q 0 :: l), ?_, ?_⟩
  · rintro _ w2 ⟨rfl, hn, hqn, h2⟩
    obtain ⟨s, h2⟩ := sat_rdr.1 h2
    have hsl := Sat.bsLen h2.tail
    have hrd : ∀ w, Sat W w (Blk b [s.v, .int .i64 q, .int .i64 0] T_codec_Reader :: BsR s t :: l) → ∃ l', Sat W w (Blk b [s.v, .int .i64 q, .int .i64 0] T_codec_Reader :: l') := fun w h => ⟨_, h⟩
    refine ⟨fun w => Sat W w (Blk b [s.v, .int .i64 q, .int .i64 0] T_codec_Reader :: BsR s t :: l), h2.drew, ?_⟩
    refine hldB hrd (i := 0) (x := s) ?_
    refine hldB hrd (i := 1) (x := (q : Int)) ?_
    refine hldB hrd (i := 1) (x := (q : Int)) ?_
    rw [w_i64 (n := (n : Int)) (by omega) (by omega), w_i64 (n := (q : Int) + n) (by omega) (by omega)]
    have hcap := h2.tail.slLen.2.1
    refine ⟨subSl s 1 q (q + n), fun w3 h3 => ?_, ?_⟩
    · have := run_slice (P := P) et_bytes (s := s) (lo := (q : Int)) (hi := (q : Int) + n) (by omega) (by omega) (by omega) w3 (j := .i64) (k := .i64)
      rw [this]
      have e1 : ((q : Int) + n).toNat = q + n := by omega
      rw [e1]; rfl
    · have hr := (h2.drew.swap.rdc).sub (lo := q) (hi := q + n) (by omega) (by omega)
      have hx : takeB t p e = ((t.drop q).take n, q + n, 0) := by
        simp only [takeB, hu]; rw [if_neg (by simp), if_neg (by omega), if_neg (by omega)]
      have e2 : (List.take ((q + n - q) * 1) (List.drop (q * 1) (t.map vB))) = (((t.drop q).take n)).map vB := by
        rw [Nat.mul_one, Nat.mul_one, Nat.add_sub_cancel_left, List.map_take, List.map_drop]
      rw [e2] at hr
      refine appBytes (s := ⟨none, 0, 0⟩) (o := []) (Sat.nilSlr h2.drew T_uint8 1) hr (by simp; omega) fun s' w3 h3 => ?_
      rw [List.nil_append] at h3
      refine ⟨h3.tail, ?_⟩
      refine ldB h3.swap (i := 1) (x := (q : Int)) ?_
      refine stB h3.swap (i := 1) fun w4 h4 => ?_
      rw [w_i64 (by omega) (by omega)] at h4
      have := hK s' w4
      rw [hx] at this
      refine this (Sat.swap (sat_rdr.2 ⟨s, ?_⟩))
      have h5 := h4.perm (List.Perm.cons _ (List.Perm.swap _ _ _))
      exact h5
  · obtain ⟨s, h2⟩ := sat_rdr.1 h1
    refine ldB h2 (i := 2) (x := e1) ?_
    refine ifB_bne (fun he => hnil w1 q e1 (by simp only [takeB, hu]; rw [if_pos he]) h1) fun he => ?_
    subst he
    refine ifB_dec (fun hc => ?_) fun hc => ?_
    · refine fail_ok h1 fun w2 h3 => tupU rfl (hnil w2 q 2 (by simp only [takeB, hu]; rw [if_neg (by simp), if_pos (by omega)]) h3)
    · have hsl := Sat.bsLen h2.tail
      refine ldB h2.drew (i := 0) (x := s) ?_
      refine ldB h2.drew (i := 1) (x := (q : Int)) ?_
      rw [w_i64 (n := (n : Int)) (by omega) (by omega), w_i64 (by omega) (by omega)]
      refine ifB_dec (fun hc2 => ?_) fun hc2 => ?_
      · refine fail_ok (sat_rdr.2 ⟨s, h2.drew⟩) fun w2 h3 => tupU rfl (hnil w2 q 6 (by simp only [takeB, hu]; rw [if_neg (by simp), if_neg (by omega), if_pos (by omega)]) h3)
      · exact ⟨rfl, by omega, by omega, sat_rdr.2 ⟨s, h2.drew⟩⟩
theorem dInts_ok (h : Sat W w (RdrR b t p e :: l)) (hp : p ≤ t.length) (ht : t.length ≤ 140737488355328)
    (hK : ∀ s w', Sat W w' (IsR s (takeL t p e).1 :: RdrR b t (takeL t p e).2.1 (takeL t p e).2.2 :: l) → K s.v w') :
    CallP P F_codec_Reader_Ints [.pointer (some ⟨b, 0, none⟩)] w K := by
  apply c_codec_Reader_Ints
  unfold S_codec_Reader_Ints
  refine dUint_ok h hp ht fun w1 h1 => tyI ?_
  have hb := takeU_bound (e := e) hp
  simp only [nilCk]
  generalize hu : takeU t p e = u at *
  obtain ⟨n, q, e1⟩ := u
  simp only at h1 hb ⊢
  have hnil : ∀ w' q' e', takeL t p e = ([], q', e') → Sat W w' (RdrR b t q' e' :: l) → K (.slice none 0 0) w' := by
    intro w' q' e' hx h'
    have := hK ⟨none, 0, 0⟩ w'
    rw [hx] at this
    exact this (h'.nilSlr T_int 1)
  refine ifB_dec (fun hc => ?_) fun hc => ?_
  · have he : e1 = 0 := by
      by_cases he : e1 = 0
      · exact he
      · have := hb.2.2.2.1 he; omega
    subst he
    exact fail_ok h1 fun w2 h3 => tupU rfl (hnil w2 q 2 (by simp only [takeL, hu]; rw [if_neg (by simp), if_pos (by omega)]) h3)
  · by_cases he : e1 = 0
    · subst he
      have hx0 : takeL t p e = takeN t n q [] := by simp only [takeL, hu]; rw [if_neg (by simp), if_neg (by omega)]
      refine ⟨fun x w' => ∃ (i : Nat) (acc : List Int) (r : Nat), x.2.1 = i ∧ i ≤ n ∧ acc.length = i ∧ r ≤ t.length ∧ takeN t n q [] = takeN t (n - i) r acc ∧ Sat W w' (IsR x.1 acc :: RdrR b t r 0 :: l), fun x _ => n - x.2.1.toNat,
        ⟨0, [], q, rfl, by omega, rfl, by omega, rfl, h1.nilSlr T_int 1⟩, ?_⟩
      rintro ⟨s, i', u⟩ w2 ⟨i, acc, r, hi, hin, hal, hr, htn, h2⟩
      simp only at hi h2 ⊢
      subst hi
      refine ifB_dec (fun hlt => ?_) fun hge => ?_
      · refine dInt_ok h2.swap hr ht fun w3 h3 => tyI ?_
        have hbi := takeU_bound (e := 0) hr
        have hni : n - i = (n - (i + 1)) + 1 := by omega
        generalize hv : takeI t r 0 = v at *
        obtain ⟨x, r', e'⟩ := v
        have hr' : r' ≤ t.length := by
          have : r' = (takeU t r 0).2.1 := by
            have := congrArg (fun z => z.2.1) hv; simpa [takeI] using this.symm
          omega
        simp only at h3 ⊢
        have h3' := h3
        obtain ⟨s3, h3⟩ := sat_rdr.1 h3
        refine ldB h3 (i := 2) (x := e') ?_
        refine ifB_bne (fun he => ?_) fun he => ?_
        · refine hnil w3 r' e' ?_ h3'.drop2
          rw [hx0, htn, hni, takeN, hv]; simp [he]
        · subst he
          have hsl := Sat.isLen h3'.swap
          refine app1 et_ints h3'.swap rfl (by omega) (by omega) fun s4 w4 h4 _ => ?_
          rw [w_u64 (by omega) (by omega)]
          refine ⟨⟨i + 1, acc ++ [x], r', rfl, by omega, by simp [hal], hr', ?_, ?_⟩, by omega⟩
          · rw [htn, hni, takeN, hv]; simp
          · rw [IsR, List.map_append]; exact h4
      · have : n - i = 0 := by omega
        rw [this, takeN] at htn
        have := hK s w2
        rw [hx0, htn] at this
        exact this h2
    · have hn := hb.2.2.2.1 he
      subst hn
      refine ⟨fun x w' => x.1 = ⟨none, 0, 0⟩ ∧ x.2.1 = 0 ∧ Sat W w' (RdrR b t q e1 :: l), fun _ _ => 0, ⟨rfl, rfl, h1⟩, ?_⟩
      rintro ⟨s, i', u⟩ w2 ⟨hs, hi, h2⟩
      simp only at hs hi ⊢
      subst hs; subst hi
      refine ifB_dec (fun hlt => by omega) fun hge => ?_
      exact hnil w2 q e1 (by simp only [takeL, hu]; rw [if_pos he]) h2
end
end Go.Proofs.Ytokogdigfohbeaa

/- Layer 3: State, End; the reference's reader. -/
namespace Go.Proofs.Ytokogdigfohbeaa
open Go Go.Pk
section
variable {W w : World} {l : List Res} {K : Value → World → Prop} {b p : Nat} {t : List UInt8} {e : Int}
theorem dState_ok (h : Sat W w (RdrR b t p e :: l)) (hp : p ≤ t.length)
    (hK : ∀ w', Sat W w' (RdrR b t p e :: l) → K (.tuple #[.int .i64 p, .int .i64 ((t.length - p : Nat) : Int), .int .i64 e]) w') :
    CallP P F_codec_Reader_State [.pointer (some ⟨b, 0, none⟩)] w K := by
  apply c_codec_Reader_State
  unfold S_codec_Reader_State
  simp only [Option.isNone_some, ifB_false, nilCk]
  obtain ⟨s, h⟩ := sat_rdr.1 h
  have hsl := Sat.bsLen h.tail
  refine ldB h.drew (i := 1) (x := (p : Int)) ?_
  refine ldB h.drew (i := 0) (x := s) ?_
  refine ldB h.drew (i := 1) (x := (p : Int)) ?_
  refine ldB h.drew (i := 2) (x := e) ?_
  rw [w_i64 (by omega) (by omega)]
  have : ((t.length - p : Nat) : Int) = (s.len : Int) - p := by omega
  have h2 := hK w.drew (sat_rdr.2 ⟨s, h.drew⟩)
  rw [this] at h2
  exact h2
theorem dEnd_ok (h : Sat W w (RdrR b t p e :: l)) (hK : ∀ w', Sat W w' (RdrR b t p e :: l) → K (.int .i64 (endE t p e)) w') :
    CallP P F_codec_Reader_End [.pointer (some ⟨b, 0, none⟩)] w K := by
  apply c_codec_Reader_End
  unfold S_codec_Reader_End
  simp only [Option.isNone_some, ifB_false, nilCk]
  obtain ⟨s, h⟩ := sat_rdr.1 h
  have hsl := Sat.bsLen h.tail
  refine ⟨fun _ w' => ¬ (e = 0 ∧ p < t.length) ∧ Sat W w' (Blk b [s.v, .int .i64 p, .int .i64 e] T_codec_Reader :: BsR s t :: l), ?_, ?_⟩
  · rintro _ w1 ⟨hn, h1⟩
    refine ldB h1 (i := 2) (x := e) ?_
    have := hK w1 (sat_rdr.2 ⟨s, h1⟩)
    rw [endE, if_neg hn] at this
    exact this
  · refine ldB h.drew (i := 2) (x := e) ?_
    refine ifB_beq (fun he => ?_) fun he => ⟨fun hh => he hh.1, h.drew⟩
    refine ldB h.drew (i := 1) (x := (p : Int)) ?_
    refine ldB h.drew (i := 0) (x := s) ?_
    refine ifB_dec (fun hc => ?_) fun hc => ⟨by omega, h.drew⟩
    have := hK w.drew (sat_rdr.2 ⟨s, h.drew⟩)
    rw [endE, if_pos ⟨he, by omega⟩] at this
    exact this

/-! ### the reference's reader -/
variable {s : Sl}
end
end Go.Proofs.Ytokogdigfohbeaa

/- Layer 3: the reference's reader of bytes and of numbers; sameness. -/
namespace Go.Proofs.Ytokogdigfohbeaa
open Go Go.Pk
section
variable {W w : World} {l : List Res} {K : Value → World → Prop} {b p : Nat} {t : List UInt8} {e : Int} {s : Sl}
/-! ### sameness -/
theorem same_ok {x y : Sl} {xs ys : List UInt8} (h : Sat W w l) (hx : Rd W l x 1 (xs.map vB)) (hy : Rd W l y 1 (ys.map vB)) (hm : xs.length < 9223372036854775808)
    (hK : ∀ w', Sat W w' l → K (.bool (decide (xs = ys))) w') : CallP P F_ref03_Same [x.v, y.v] w K := by
  apply c_ref03_Same
  unfold S_ref03_Same
  have hxl := (hx w h).1
  have hyl := (hy w h).1
  simp at hxl hyl
  refine ifB_bne (fun hc => ?_) fun hc => ?_
  · have := hK w h
    rw [decide_eq_false (by rintro rfl; omega)] at this
    exact this
  · refine ⟨fun z w' => ∃ i : Nat, z.1 = i ∧ i ≤ xs.length ∧ xs.take i = ys.take i ∧ Sat W w' l, fun z _ => xs.length - z.1.toNat, ⟨0, rfl, by omega, by simp, h⟩, ?_⟩
    rintro ⟨i', u⟩ w1 ⟨i, hi, hil, heq, h1⟩
    simp only at hi ⊢
    subst hi
    refine ifB_dec (fun hlt => ?_) fun hge => ?_
    · have hi1 : i < xs.length := by omega
      have hi2 : i < ys.length := by omega
      refine ixld et_bytes (hx _ h1.drew) (by omega) (k := .int .u8) (x := (xs[i].toNat : Int)) (by exact getElem?_vB hi1) ?_
      refine ixld et_bytes (hy _ h1.drew) (by omega) (k := .int .u8) (x := (ys[i].toNat : Int)) (by exact getElem?_vB hi2) ?_
      refine ifB_bne (fun hne => ?_) fun he => ?_
      · have := hK _ h1.drew
        rw [decide_eq_false (by rintro rfl; exact hne rfl)] at this
        exact this
      · rw [w_i64 (by omega) (by omega)]
        refine ⟨⟨i + 1, rfl, by omega, ?_, h1.drew⟩, by omega⟩
        have : xs[i] = ys[i] := UInt8.toNat_inj.1 (by omega)
        rw [List.take_add_one, List.take_add_one, heq, List.getElem?_eq_getElem hi1, List.getElem?_eq_getElem hi2, this]
    · have := hK _ h1
      have hi : xs.length ≤ i := by omega
      rw [List.take_of_length_le hi, List.take_of_length_le (by omega)] at heq
      rw [decide_eq_true heq] at this
      exact this
theorem getElem?_vI {t : List Int} {i : Nat} (h : i < t.length) : (t.map vI)[i]? = some (Kd.v (.int .i64) (t[i])) := by simp [vI, h]
end
end Go.Proofs.Ytokogdigfohbeaa

/- Layer 3: the law of one number after another. -/
namespace Go.Proofs.Ytokogdigfohbeaa
open Go Go.Pk
section
variable {W w : World} {l : List Res} {K : Value → World → Prop}
theorem tup2 {s : Sl} {e : Int} {K : Sl × Int × Unit → Prop} (h : K (s, e, ())) : TupP [.sl, .int .i64] (.tuple #[s.v, .int .i64 e]) K := ⟨_, rfl, h⟩
theorem wOut0_ok {b : Nat} {o : List UInt8} (h : Sat W w (WrR b o 0 :: l)) (hlen : o.length ≤ 140737488355328)
    (h1 : ∀ s w', Sat W w' (BsR s o :: WrR b o 0 :: l) → K (.tuple #[s.v, .int .i64 0]) w') : CallP P F_codec_Writer_Out [.pointer (some ⟨b, 0, none⟩)] w K :=
  wOut_ok h hlen (fun h => absurd rfl h) fun _ => h1
theorem uintB_300 : uintB 300 = [172, 2] := by rw [uintB_big (by decide), uintB_small (by decide)]; rfl
end
end Go.Proofs.Ytokogdigfohbeaa

/- Layer 3: the laws of one's own bytes and of taking. -/
namespace Go.Proofs.Ytokogdigfohbeaa
open Go Go.Pk
section
variable {W w : World} {l : List Res} {K : Value → World → Prop}
theorem copyBytes {x : Sl} {n : List UInt8} {ty : TypeId} {K : Sl → World → Prop} (h : Sat W w l) (hx : Rd W l x 1 (n.map vB)) (hb : n.length ≤ 140737488355328) (hK : ∀ s w', Sat W w' (BsR s n :: l) → K s w') :
    RunK .sl P (Instr.buildSlice T_sl_uint8 0 #[]) w fun s1 w1 => RunK .sl P (Builtin.append_ #[T_sl_uint8, T_sl_uint8] ty #[s1.v, x.v]) w1 K := by
  refine bsB h (cs := []) (e := T_uint8) (fun w => by kernel_rfl) fun g w1 h1 => ?_
  have h2 : Sat W w1 (BsR ⟨some ⟨g, 0, none⟩, 0, 0⟩ [] :: l) := h1.mkSlr rfl (by simp) (by simp) (by simp) rfl (by simp)
  refine appBytes h2 (hx w1 h1.tail) (by simpa using hb) fun s w3 h3 => hK s w3 (by simpa using h3)
theorem appInts {s x : Sl} {o n : List Int} {ty : TypeId} {K : Sl → World → Prop} (h : Sat W w (IsR s o :: l)) (hx : RdC w x 1 (n.map vI)) (hb : (o.length + n.length) * 8 ≤ 140737488355328)
    (hK : ∀ s' w', Sat W w' (IsR s' (o ++ n) :: l) → K s' w') : RunK .sl P (Builtin.append_ #[T_sl_int, T_sl_int] ty #[s.v, x.v]) w K := by
  have h1 := Sat.isLen h
  have h2 := hx.1
  simp at h2
  refine appB et_ints (by decide) h hx (vI_all n) (by omega) (by omega) fun s' w' h' _ => hK s' w' (by rw [IsR, List.map_append]; exact h')
theorem copyInts {x : Sl} {n : List Int} {ty : TypeId} {K : Sl → World → Prop} (h : Sat W w l) (hx : Rd W l x 1 (n.map vI)) (hb : n.length * 8 ≤ 140737488355328) (hK : ∀ s w', Sat W w' (IsR s n :: l) → K s w') :
    RunK .sl P (Instr.buildSlice T_sl_int 0 #[]) w fun s1 w1 => RunK .sl P (Builtin.append_ #[T_sl_int, T_sl_int] ty #[s1.v, x.v]) w1 K := by
  refine bsB h (cs := []) (e := T_int) (fun w => by kernel_rfl) fun g w1 h1 => ?_
  have h2 : Sat W w1 (IsR ⟨some ⟨g, 0, none⟩, 0, 0⟩ [] :: l) := h1.mkSlr rfl (by simp) (by simp) (by simp) rfl (by simp)
  refine appInts h2 (hx w1 h1.tail) (by simpa using hb) fun s w3 h3 => hK s w3 (by simpa using h3)
/-- all bytes of a slice of one's own are overwritten with one -/
theorem fillLoop {s : Sl} {o : List UInt8} (c : UInt8) {K : World → Prop} (h : Sat W w (BsR s o :: l)) (hK : ∀ w', Sat W w' l → K w') :
    LoopP (T := Int × Unit) (some (0, ())) w fun next t w1 =>
      ifB (decide (t.fst < (↑s.len : Int)))
       (RunQ .addr P (Instr.indexAt T_sl_uint8 s.v (.int .i64 t.fst)) w1 fun (a : Addr) =>
        StoreP P T_uint8 (.pointer (some a)) (.int .u8 (c.toNat : Int)) w1 fun w2 => next (some ((IntKind.i64.wrap (t.fst + 1)), ())) w2)
       (K w1) := by
  refine ⟨fun z w' => ∃ (i : Nat) (o' : List UInt8), z.1 = i ∧ i ≤ s.len ∧ Sat W w' (BsR s o' :: l), fun z _ => s.len - z.1.toNat, ⟨0, o, rfl, by omega, h⟩, ?_⟩
  rintro ⟨i', u⟩ w1 ⟨i, o', hi, hil, h1⟩
  simp only at hi ⊢
  subst hi
  have hsl := Sat.bsLen h1
  refine ifB_dec (fun hlt => ?_) fun hge => hK w1 h1.tail
  refine ixst et_bytes h1 (by omega) (by omega) fun w2 h2 => ?_
  rw [w_i64 (by omega) (by omega)]
  refine ⟨⟨i + 1, o'.set i c, rfl, by omega, ?_⟩, by omega⟩
  have e : (o'.map vB).set i (vB c) = (o'.set i c).map vB := by rw [List.map_set]
  rw [BsR, ← e]; exact h2
end
end Go.Proofs.Ytokogdigfohbeaa

/- Layer 3: the law of taking what any bytes hold. -/
namespace Go.Pk
open Go
theorem takeF_bound {t : List UInt8} {p : Nat} {e : Int} (hp : p ≤ t.length) : (takeF t p e).2.1 ≤ t.length := by
  have := takeU_bound (e := e) hp
  simp only [takeF]; split <;> simp <;> omega
theorem takeX_bound {t : List UInt8} {p : Nat} {e : Int} (hp : p ≤ t.length) : (takeX t p e).2.1 ≤ t.length := by
  simp only [takeX]; split
  · exact hp
  · split
    · exact hp
    · simp; omega
theorem takeB_bound {t : List UInt8} {p : Nat} {e : Int} (hp : p ≤ t.length) : (takeB t p e).2.1 ≤ t.length := by
  have := takeU_bound (e := e) hp
  simp only [takeB]; split
  · simp; omega
  · split
    · simp; omega
    · split <;> simp <;> omega
theorem takeN_bound {t : List UInt8} : ∀ (n p : Nat) (acc : List Int), p ≤ t.length → (takeN t n p acc).2.1 ≤ t.length := by
  intro n
  induction n with
  | zero => intro p acc hp; simpa [takeN] using hp
  | succ n ih =>
    intro p acc hp
    have hb := takeU_bound (e := 0) hp
    have e1 : (takeI t p 0).2 = (takeU t p 0).2 := rfl
    simp only [takeN]
    split
    · rw [e1]; exact hb.2.2.1
    · exact ih _ _ (by rw [e1]; exact hb.2.2.1)
theorem takeL_bound {t : List UInt8} {p : Nat} {e : Int} (hp : p ≤ t.length) : (takeL t p e).2.1 ≤ t.length := by
  have := takeU_bound (e := e) hp
  simp only [takeL]; split
  · simp; omega
  · split
    · simp; omega
    · exact takeN_bound _ _ _ (by omega)
/-- where a reader stands behind one taking -/
def takeS (o : Int) (t : List UInt8) (p : Nat) (e : Int) : Nat × Int :=
  if o = 0 then (takeU t p e).2 else if o = 1 then (takeI t p e).2 else if o = 2 then (takeF t p e).2 else if o = 3 then (takeX t p e).2 else if o = 4 then (takeB t p e).2 else (takeL t p e).2
theorem takeS_bound {o : Int} {t : List UInt8} {p : Nat} {e : Int} (hp : p ≤ t.length) : (takeS o t p e).1 ≤ t.length := by
  have h1 := takeU_bound (e := e) hp
  unfold takeS
  split
  · exact h1.2.2.1
  · split
    · exact h1.2.2.1
    · split
      · exact takeF_bound hp
      · split
        · exact takeX_bound hp
        · split
          · exact takeB_bound hp
          · exact takeL_bound hp
end Go.Pk
namespace Go.Proofs.Ytokogdigfohbeaa
open Go Go.Pk
section
variable {W w : World} {l : List Res} {K : Value → World → Prop} {b c p : Nat} {t : List UInt8} {e : Int} {s : Sl}
end
end Go.Proofs.Ytokogdigfohbeaa

/- Layer 3: the law's own way of laying an item; the writer that is none. -/
namespace Go.Proofs.Ytokogdigfohbeaa
open Go Go.Pk
/-- a writer, or none -/
def WrN (p : Option Nat) (o : List UInt8) (e : Int) : Res := match p with | some b => WrR b o e | none => Pure True
def wp (p : Option Nat) : Option Addr := p.map fun b => ⟨b, 0, none⟩
structure It where
  k : Int
  u : Int
  i : Int
  f : Bool
  b : Sl
  n : Sl
  bs : List UInt8
  ns : List Int
def It.cells (x : It) : List Value := [.int .i64 x.k, .int .u64 x.u, .int .i64 x.i, .bool x.f, x.b.v, x.n.v]
def It.ok (x : It) (W : World) : Prop := 0 ≤ x.u ∧ x.u < 18446744073709551616 ∧ -9223372036854775808 ≤ x.i ∧ x.i < 9223372036854775808 ∧ (∀ i ∈ x.ns, -9223372036854775808 ≤ i ∧ i < 9223372036854775808) ∧ RdC W x.b 1 (x.bs.map vB) ∧ RdC W x.n 1 (x.ns.map vI)
def It.form (x : It) : List UInt8 := if x.k = 0 then uintB x.u.toNat else if x.k = 1 then intB x.i else if x.k = 2 then flagB x.f else if x.k = 3 then fixedB (x.u.toNat % 4294967296) else if x.k = 4 then bytesB x.bs else intsB x.ns
def It.err (x : It) (e : Int) : Int := if x.k = 4 then wErr e x.bs.length else e
/-- how much an item weighs -/
def It.wt (x : It) : Nat := x.bs.length + x.ns.length
theorem flat_len : ∀ (m : List Int), (∀ i ∈ m, -9223372036854775808 ≤ i ∧ i < 9223372036854775808) → (m.flatMap intB).length ≤ 10 * m.length := by
  intro m
  induction m with
  | nil => simp
  | cons x m ih =>
    intro hm
    have := ih fun i hi => hm i (by simp [hi])
    have h3 := uintB_len10 (zig x) (zig_lt (hm x (by simp)).1 (hm x (by simp)).2)
    simp only [List.flatMap_cons, List.length_append, List.length_cons, intB] at this ⊢; omega
theorem form_len {x : It} {W : World} (h : x.ok W) (hw : x.wt < 2 ^ 40) : x.form.length ≤ 10 + 10 * x.wt := by
  obtain ⟨h0, h1, h2, h3, h4, h5, h6⟩ := h
  simp only [It.wt] at hw ⊢
  unfold It.form
  split
  · have := uintB_len10 x.u.toNat (by omega); omega
  split
  · have := uintB_len10 (zig x.i) (zig_lt h2 h3); simp only [intB]; omega
  split
  · simp [flagB]; omega
  split
  · simp [fixedB]; omega
  split
  · have := uintB_len10 x.bs.length (by omega); simp only [bytesB, List.length_append]; omega
  · have := uintB_len10 x.ns.length (by omega)
    have := flat_len x.ns h4
    simp only [intsB, List.length_append]; omega
section
variable {W w : World} {l : List Res} {K : Value → World → Prop} {p : Option Nat} {o : List UInt8} {e : Int}
theorem nUint_ok {n : Int} (h : Sat W w (WrN p o e :: l)) (h0 : 0 ≤ n) (h1 : n < 18446744073709551616) (hlen : o.length + 10 ≤ 140737488355328)
    (hK : ∀ w', Sat W w' (WrN p (o ++ uintB n.toNat) e :: l) → K (.tuple #[]) w') : CallP P F_codec_Writer_Uint [.pointer (wp p), .int .u64 n] w K := by
  cases p with
  | some b => exact wUint_ok h h0 h1 hlen hK
  | none => apply c_codec_Writer_Uint; exact hK w h
theorem nInt_ok {n : Int} (h : Sat W w (WrN p o e :: l)) (h0 : -9223372036854775808 ≤ n) (h1 : n < 9223372036854775808) (hlen : o.length + 10 ≤ 140737488355328)
    (hK : ∀ w', Sat W w' (WrN p (o ++ intB n) e :: l) → K (.tuple #[]) w') : CallP P F_codec_Writer_Int [.pointer (wp p), .int .i64 n] w K := by
  cases p with
  | some b => exact wInt_ok h h0 h1 hlen hK
  | none =>
    apply c_codec_Writer_Int
    unfold S_codec_Writer_Int
    rw [zig_code h0 h1]
    have := zig_lt h0 h1
    exact nUint_ok (p := none) h (by omega) (by omega) hlen fun w1 h1 => tupU rfl (hK w1 h1)
theorem nFlag_ok {f : Bool} (h : Sat W w (WrN p o e :: l)) (hlen : o.length + 10 ≤ 140737488355328)
    (hK : ∀ w', Sat W w' (WrN p (o ++ flagB f) e :: l) → K (.tuple #[]) w') : CallP P F_codec_Writer_Flag [.pointer (wp p), .bool f] w K := by
  cases p with
  | some b => exact wFlag_ok h hlen hK
  | none =>
    apply c_codec_Writer_Flag
    unfold S_codec_Writer_Flag
    cases f
    · exact nUint_ok (p := none) h (by omega) (by omega) hlen fun w1 h1 => tupU rfl (hK w1 h1)
    · exact nUint_ok (p := none) h (by omega) (by omega) hlen fun w1 h1 => tupU rfl (hK w1 h1)
theorem nBytes_ok {n : List UInt8} {x : Sl} (h : Sat W w (WrN p o e :: l)) (hx : Rd W l x 1 (n.map vB)) (hlen : o.length + 10 + n.length ≤ 140737488355328)
    (hK : ∀ w', Sat W w' (WrN p (o ++ bytesB n) (wErr e n.length) :: l) → K (.tuple #[]) w') : CallP P F_codec_Writer_Bytes [.pointer (wp p), x.v] w K := by
  cases p with
  | some b => exact wBytes_ok h hx hlen hK
  | none => apply c_codec_Writer_Bytes; exact hK w h
theorem nInts_ok {n : List Int} {x : Sl} (h : Sat W w (WrN p o e :: l)) (hx : Rd W l x 1 (n.map vI)) (hn : ∀ i ∈ n, -9223372036854775808 ≤ i ∧ i < 9223372036854775808) (hlen : o.length + 10 + 10 * n.length ≤ 140737488355328)
    (hK : ∀ w', Sat W w' (WrN p (o ++ intsB n) e :: l) → K (.tuple #[]) w') : CallP P F_codec_Writer_Ints [.pointer (wp p), x.v] w K := by
  cases p with
  | some b => exact wInts_ok h hx hn hlen hK
  | none =>
    apply c_codec_Writer_Ints
    unfold S_codec_Writer_Ints
    have hxl := (hx w h.tail).1
    simp at hxl
    rw [w_u64 (by omega) (by omega)]
    refine nUint_ok (p := none) h (by omega) (by omega) (by omega) fun w1 h1 => tupU rfl ?_
    refine ⟨fun z w' => ∃ i : Nat, z.1 = i ∧ i ≤ x.len ∧ Sat W w' (WrN none o e :: l), fun z _ => x.len - z.1.toNat, ⟨0, rfl, by omega, h1⟩, ?_⟩
    rintro ⟨i', u⟩ w2 ⟨i, hi, hil, h2⟩
    simp only at hi ⊢
    subst hi
    refine ifB_dec (fun hlt => ?_) fun hge => hK w2 h2
    have hi1 : i < n.length := by omega
    refine ixld et_ints (hx _ h2.tail) (by omega) (k := .int .i64) (x := n[i]) (by exact getElem?_vI hi1) ?_
    have hb := hn n[i] (List.getElem_mem hi1)
    refine nInt_ok (p := none) h2 hb.1 hb.2 (by omega) fun w3 h3 => tupU rfl ?_
    rw [w_i64 (by omega) (by omega)]
    exact ⟨⟨i + 1, rfl, by omega, h3⟩, by omega⟩
end
end Go.Proofs.Ytokogdigfohbeaa

/- Layer 3: the law of laying, and of the writer and reader that are none. -/
namespace Go.Proofs.Ytokogdigfohbeaa
open Go Go.Pk
theorem ops_get : ∀ (its : List It) (i j : Nat) (hi : i < its.length) (u : Value), its[i].cells[j]? = some u → (its.flatMap It.cells)[i * 6 + j]? = some u
  | x :: its, 0, j, _, u, h => by
    simp only [List.getElem_cons_zero] at h
    simp only [List.flatMap_cons, Nat.zero_mul, Nat.zero_add]
    have : j < x.cells.length := by rcases Nat.lt_or_ge j x.cells.length with hlt | hge; exact hlt; rw [List.getElem?_eq_none hge] at h; cases h
    rw [List.getElem?_append_left this]; exact h
  | x :: its, i + 1, j, hi, u, h => by
    have := ops_get its i j (by simpa using hi) u (by simpa using h)
    have hl : x.cells.length = 6 := rfl
    simp only [List.flatMap_cons]
    rw [List.getElem?_append_right (by omega), hl, show (i + 1) * 6 + j - 6 = i * 6 + j by omega]; exact this
theorem ops_len : ∀ (its : List It), (its.flatMap It.cells).length = its.length * 6
  | [] => rfl
  | x :: its => by
    have := ops_len its
    have hl : x.cells.length = 6 := rfl
    simp only [List.flatMap_cons, List.length_append, List.length_cons]; omega
def itW : List It → Nat
  | [] => 0
  | x :: l => 1 + x.wt + itW l
theorem itW_mem : ∀ {l : List It} {x : It}, x ∈ l → x.wt ≤ itW l
  | y :: l, x, h => by
    rcases List.mem_cons.1 h with rfl | h
    · simp only [itW]; omega
    · have := itW_mem h; simp only [itW]; omega
theorem itW_len : ∀ (l : List It), l.length ≤ itW l
  | [] => Nat.le_refl _
  | y :: l => by have := itW_len l; simp only [itW, List.length_cons]; omega
theorem itW_take : ∀ (l : List It) (i : Nat), itW (l.take i) ≤ itW l
  | [], i => by simp
  | y :: l, 0 => by simp [itW]
  | y :: l, i + 1 => by have := itW_take l i; simp only [List.take_succ_cons, itW]; omega
def forms (l : List It) : List UInt8 := l.flatMap It.form
theorem forms_len {W : World} : ∀ {l : List It}, (∀ x ∈ l, x.ok W) → itW l < 2 ^ 40 → (forms l).length ≤ 10 * itW l
  | [], _, _ => by simp [forms]
  | y :: l, h, hw => by
    simp only [itW] at hw
    have h1 := forms_len (l := l) (fun x hx => h x (by simp [hx])) (by omega)
    have h2 := form_len (h y (by simp)) (by omega)
    simp only [forms, List.flatMap_cons, List.length_append, itW] at h1 ⊢; omega
theorem forms_succ {l : List It} {i : Nat} (hi : i < l.length) : forms (l.take (i + 1)) = forms (l.take i) ++ l[i].form := by
  simp only [forms]
  rw [List.take_add_one, List.getElem?_eq_getElem hi, List.flatMap_append]
  simp
section
variable {W w : World} {l : List Res} {K : Value → World → Prop}
end
end Go.Proofs.Ytokogdigfohbeaa

/- Layer 3: the laws of taking back what was laid, and of what was cut off. -/
namespace Go.Pk
open Go
theorem remR {P : Program} {w : World} {k : IntKind} {x y : Int} {t : TypeId} {o1 o2 : Operand} {K : Int → World → Prop} (hy : y ≠ 0) (hK : K (x.tmod y) w) :
    RunK (.int k) P (do (eqGuard .rem t o1 o2 (.int k x) (.int k y)); (binOp .rem t (.int k x) (.int k y))) w K := by
  refine ⟨_, w, ?_, hK⟩
  simp [eqGuard, binOp, hy, Op.intDiv, Sem.run]
end Go.Pk
namespace Go.Proofs.Ytokogdigfohbeaa
open Go Go.Pk
def It.small (x : It) : Prop := x.bs.length ≤ 4096 ∧ x.ns.length ≤ 4096
theorem takeS_at {x : It} {W : World} (hok : x.ok W) (hs : x.small) {t r : List UInt8} {p : Nat} (h : t.drop p = x.form ++ r) : takeS x.k t p 0 = (p + x.form.length, 0) := by
  obtain ⟨h0, h1, h2, h3, h4, _, _⟩ := hok
  unfold It.form at h ⊢
  unfold takeS
  split
  · rename_i hk; rw [if_pos hk] at h; rw [takeU_at h (by omega)]
  rename_i hk; rw [if_neg hk] at h
  split
  · rename_i hk; rw [if_pos hk] at h; rw [takeI_at h h2 h3]
  rename_i hk; rw [if_neg hk] at h
  split
  · rename_i hk; rw [if_pos hk] at h; rw [takeF_at h]; simp [flagB]
  rename_i hk; rw [if_neg hk] at h
  split
  · rename_i hk; rw [if_pos hk] at h; rw [takeX_at h (by omega)]; simp [fixedB]
  rename_i hk; rw [if_neg hk] at h
  split
  · rename_i hk; rw [if_pos hk] at h; rw [takeB_at h hs.1]
  rename_i hk; rw [if_neg hk] at h
  rw [takeL_at h hs.2 h4]
theorem takeS_cut {x : It} {W : World} (hok : x.ok W) (hs : x.small) {t : List UInt8} {p m : Nat} (h : t.drop p = x.form.take m) (hm : m < x.form.length) : (takeS x.k t p 0).2 ≠ 0 := by
  obtain ⟨h0, h1, h2, h3, h4, _, _⟩ := hok
  unfold It.form at h hm
  unfold takeS
  split
  · rename_i hk; rw [if_pos hk] at h hm; exact (takeU_cut h (by omega) hm).2
  rename_i hk; rw [if_neg hk] at h hm
  split
  · rename_i hk; rw [if_pos hk] at h hm; exact (takeU_cut h (zig_lt h2 h3) hm).2
  rename_i hk; rw [if_neg hk] at h hm
  split
  · rename_i hk; rw [if_pos hk] at h hm; exact takeF_cut h hm
  rename_i hk; rw [if_neg hk] at h hm
  split
  · rename_i hk; rw [if_pos hk] at h hm; exact takeX_cut h hm
  rename_i hk; rw [if_neg hk] at h hm
  split
  · rename_i hk; rw [if_pos hk] at h hm; exact takeB_cut h hs.1 hm
  rename_i hk; rw [if_neg hk] at h hm
  exact takeL_cut h hs.2 h4 hm
theorem takeS_err {o : Int} {t : List UInt8} {p : Nat} {e : Int} (h : e ≠ 0) : takeS o t p e = (p, e) := by
  unfold takeS
  split
  · rw [takeU_err h]
  split
  · rw [takeI_err h]
  split
  · rw [takeF_err h]
  split
  · rw [takeX_err h]
  split
  · rw [takeB_err h]
  · rw [takeL_err h]
theorem forms_drop {its : List It} {i : Nat} (hi : i < its.length) : (forms its).drop (forms (its.take i)).length = its[i].form ++ forms (its.drop (i + 1)) := by
  have e : forms its = forms (its.take i) ++ (its[i].form ++ forms (its.drop (i + 1))) := by
    have := congrArg (List.flatMap It.form) (List.take_append_drop i its).symm
    rw [List.flatMap_append, List.drop_eq_getElem_cons hi, List.flatMap_cons] at this
    exact this
  rw [e, List.drop_left]
section
variable {W w : World} {l : List Res} {K : Value → World → Prop}
/-- one round of laying, where all that is long has been refused -/
theorem small_err {x : It} (h : x.small) : x.err 0 = 0 := by
  unfold It.err wErr
  split
  · rw [if_neg (by have := h.1; omega)]
  · rfl
end
end Go.Proofs.Ytokogdigfohbeaa
