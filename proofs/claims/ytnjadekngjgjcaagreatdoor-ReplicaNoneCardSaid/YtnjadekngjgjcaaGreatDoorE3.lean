/- Texts of mine, put together: QC2, QC3, CW, CW2, CR, CR2, CR3, CR4. -/
import Derived.Test.YtnjadekngjgjcaaGreatDoorE2
import Derived.Test.YtnjadekngjgjcaaGreatDoorFA
/- Layer 3 in plain Lean: what was laid is taken again. -/
namespace Go.Pk
open Go
theorem rdU_uintB (m : Nat) : ∀ (n : Nat), n ≤ m → ∀ (k acc : Nat) (r : List UInt8), n * 128 ^ k < 2 ^ 64 → (k = 0 ∨ 0 < n) → k ≤ 9 →
    rdU (uintB n ++ r) k acc = .inr (acc + n * 128 ^ k, k + (uintB n).length) := by
  induction m with
  | zero =>
    intro n hn k acc r _ h0 _
    have : n = 0 := by omega
    subst this
    have hk : k = 0 := by omega
    subst hk
    rw [uintB_small (by decide)]
    simp [rdU]
  | succ m ih =>
    intro n hn k acc r hlt h0 hk
    by_cases hs : n ≤ 127
    · rw [uintB_small hs]
      have hb : (UInt8.ofNat n).toNat = n := by simp; omega
      simp only [List.cons_append, List.nil_append, rdU, hb]
      rw [if_neg, if_pos (by omega)]
      · rfl
      · rintro (⟨h9, h1⟩ | ⟨h2, h3⟩)
        · subst h9; omega
        · omega
    · rw [uintB_big hs]
      have hb : (UInt8.ofNat (n % 128 + 128)).toNat = n % 128 + 128 := by simp; omega
      have hk9 : k < 9 := by
        rcases Nat.lt_or_ge k 9 with h | h
        · exact h
        · have : k = 9 := by omega
          subst this; omega
      simp only [List.cons_append, rdU, hb]
      rw [if_neg (by omega), if_neg (by omega)]
      have e1 : n / 128 * 128 ^ (k + 1) = n / 128 * 128 * 128 ^ k := by rw [Nat.pow_succ, Nat.mul_assoc, Nat.mul_comm (128 ^ k) 128]
      have e2 : n / 128 * 128 * 128 ^ k ≤ n * 128 ^ k := Nat.mul_le_mul_right _ (by omega)
      rw [ih (n / 128) (by omega) (k + 1) _ r (by omega) (by omega) (by omega)]
      have e3 : n * 128 ^ k = (n / 128 * 128) * 128 ^ k + (n % 128) * 128 ^ k := by rw [← Nat.add_mul]; congr 1; omega
      have e4 : n % 128 + 128 - 128 = n % 128 := by omega
      rw [e1, e3, e4, List.length_cons]
      generalize n / 128 * 128 * 128 ^ k = A
      generalize n % 128 * 128 ^ k = B
      generalize (uintB (n / 128)).length = L
      rw [show acc + B + A = acc + (A + B) by omega, show k + 1 + L = k + (L + 1) by omega]
theorem takeU_at {t r : List UInt8} {p n : Nat} (h : t.drop p = uintB n ++ r) (hn : n < 2 ^ 64) : takeU t p 0 = (n, p + (uintB n).length, 0) := by
  simp only [takeU, ne_eq, not_true_eq_false, if_false, h]
  rw [rdU_uintB n n (Nat.le_refl _) 0 0 r (by simpa using hn) (.inl rfl) (by omega)]
  simp
theorem takeI_at {t r : List UInt8} {p : Nat} {n : Int} (h : t.drop p = intB n ++ r) (h0 : -9223372036854775808 ≤ n) (h1 : n < 9223372036854775808) : takeI t p 0 = (n, p + (intB n).length, 0) := by
  simp only [takeI, takeU_at h (zig_lt h0 h1), zag_zig]; rfl
theorem flagB_eq (b : Bool) : flagB b = uintB (if b then 1 else 0) := by cases b <;> rw [uintB_small (by decide)] <;> rfl
theorem takeF_at {t r : List UInt8} {p : Nat} {b : Bool} (h : t.drop p = flagB b ++ r) : takeF t p 0 = (b, p + 1, 0) := by
  rw [flagB_eq] at h
  simp only [takeF, takeU_at h (by cases b <;> decide)]
  cases b <;> simp [uintB_small (show (0 : Nat) ≤ 127 by decide), uintB_small (show (1 : Nat) ≤ 127 by decide)]
theorem drop_add {α : Type} {t a r : List α} {p : Nat} (h : t.drop p = a ++ r) : t.drop (p + a.length) = r := by
  rw [← List.drop_drop, h, List.drop_left]
theorem takeB_at {t r n : List UInt8} {p : Nat} (h : t.drop p = bytesB n ++ r) (hn : n.length ≤ 4096) : takeB t p 0 = (n, p + (bytesB n).length, 0) := by
  have h' : t.drop p = uintB n.length ++ (n ++ r) := by rw [h, bytesB, List.append_assoc]
  have hd := drop_add h'
  have hl := congrArg List.length hd
  simp at hl
  have e0 := takeU_at h' (by omega)
  simp only [takeB, e0]
  rw [if_neg (by simp), if_neg (by omega), if_neg (by omega), hd, List.take_left' rfl]
  simp [bytesB]; omega
end Go.Pk

/- Layer 3 in plain Lean: what was cut off is found out. -/
namespace Go.Pk
open Go
theorem takeU_err {t : List UInt8} {p : Nat} {e : Int} (h : e ≠ 0) : takeU t p e = (0, p, e) := by simp [takeU, h]
theorem drop_len {α : Type} {t u : List α} {p : Nat} (h : t.drop p = u) : t.length - p = u.length := by rw [← h]; simp
theorem cut_append {t a b : List UInt8} {p m : Nat} (h : t.drop p = (a ++ b).take m) (hm : a.length ≤ m) : t.drop p = a ++ b.take (m - a.length) := by
  rw [h, List.take_append, List.take_of_length_le hm]
theorem cut_left {t a b : List UInt8} {p m : Nat} (h : t.drop p = (a ++ b).take m) (hm : m ≤ a.length) : t.drop p = a.take m := by
  rw [h, List.take_append_of_le_length hm]
theorem takeF_err {t : List UInt8} {p : Nat} {e : Int} (h : e ≠ 0) : takeF t p e = (false, p, e) := by simp [takeF, takeU_err h]
theorem takeB_err {t : List UInt8} {p : Nat} {e : Int} (h : e ≠ 0) : takeB t p e = ([], p, e) := by simp [takeB, takeU_err h, h]
theorem takeI_err {t : List UInt8} {p : Nat} {e : Int} (h : e ≠ 0) : takeI t p e = (0, p, e) := by simp [takeI, takeU_err h, zag]
end Go.Pk

/- Layer 3: the writers' contracts (the program's and the reference's). -/
namespace Go.Proofs.YtnjadekngjgjcaaGreatDoor
open Go Go.Pk
theorem et_bytes : ET P T_sl_uint8 T_uint8 1 1 := ET.of (by kernel_rfl)
theorem et_ints : ET P T_sl_int T_int 1 8 := ET.of (by kernel_rfl)
/-- a slice of bytes, of numbers, of one's own -/
abbrev BsR (s : Sl) (l : List UInt8) : Res := SlR T_uint8 1 s (l.map vB)
abbrev IsR (s : Sl) (l : List Int) : Res := SlR T_int 1 s (l.map vI)
/-- a writer: what was laid, the error -/
def WrR (b : Nat) (o : List UInt8) (e : Int) : Res := Ex fun s : Sl => All [Blk b [s.v, .int .i64 e] T_codec_Writer, BsR s o]
theorem sat_wr {W w : World} {l : List Res} {b : Nat} {o : List UInt8} {e : Int} : Sat W w (WrR b o e :: l) ↔ ∃ s : Sl, Sat W w (Blk b [s.v, .int .i64 e] T_codec_Writer :: BsR s o :: l) := by
  simp only [WrR, sat_ex, sat_all, List.cons_append, List.nil_append]
section
variable {W w : World} {l : List Res} {K : Value → World → Prop}
theorem Sat.bsLen {s : Sl} {o : List UInt8} (h : Sat W w (BsR s o :: l)) : o.length = s.len ∧ s.len < 2 ^ 63 := by
  have := h.slLen; simp at this; omega
theorem Sat.isLen {s : Sl} {o : List Int} (h : Sat W w (IsR s o :: l)) : o.length = s.len ∧ s.len < 2 ^ 63 := by
  have := h.slLen; simp at this; omega
/-- bytes behind bytes -/
theorem appBytes {s x : Sl} {o n : List UInt8} {ty : TypeId} {K : Sl → World → Prop} (h : Sat W w (BsR s o :: l)) (hx : RdC w x 1 (n.map vB)) (hb : o.length + n.length ≤ 140737488355328)
    (hK : ∀ s' w', Sat W w' (BsR s' (o ++ n) :: l) → K s' w') : RunK .sl P (Builtin.append_ #[T_sl_uint8, T_sl_uint8] ty #[s.v, x.v]) w K := by
  have h1 := Sat.bsLen h
  have h2 := hx.1
  simp at h2
  refine appB et_bytes (by decide) h hx (vB_all n) (by omega) (by omega) fun s' w' h' _ => hK s' w' (by rw [BsR, List.map_append]; exact h')
theorem appByte {s : Sl} {o : List UInt8} {b : UInt8} {ty : TypeId} {n : Int} {K : Sl → World → Prop} (h : Sat W w (BsR s o :: l)) (hn : n = (b.toNat : Int)) (hb : o.length + 1 ≤ 140737488355328)
    (hK : ∀ s' w', Sat W w' (BsR s' (o ++ [b]) :: l) → K s' w') :
    RunK .sl P (Instr.buildSlice T_sl_uint8 1 #[(0, .int .u8 n)]) w fun s5 w6 => RunK .sl P (Builtin.append_ #[T_sl_uint8, T_sl_uint8] ty #[s.v, s5.v]) w6 K := by
  subst hn
  have h1 := Sat.bsLen h
  refine app1 et_bytes h rfl (by omega) (by omega) fun s' w' h' _ => hK s' w' (by rw [BsR, List.map_append]; exact h')

/-! ### the program's -/
theorem newWriter_ok (h : Sat W w l) (hK : ∀ b w', Sat W w' (WrR b [] 0 :: l) → K (.pointer (some ⟨b, 0, none⟩)) w') : CallP P F_codec_NewWriter [] w K := by
  apply c_codec_NewWriter
  unfold S_codec_NewWriter
  exact boxB h fun b w1 h1 => hK b w1 (sat_wr.2 ⟨⟨none, 0, 0⟩, (h1.nilSlr T_uint8 1).swap⟩)

theorem wUint_ok {b : Nat} {o : List UInt8} {e n : Int} (h : Sat W w (WrR b o e :: l)) (h0 : 0 ≤ n) (h1 : n < 18446744073709551616) (hlen : o.length + 10 ≤ 140737488355328)
    (hK : ∀ w', Sat W w' (WrR b (o ++ uintB n.toNat) e :: l) → K (.tuple #[]) w') : CallP P F_codec_Writer_Uint [.pointer (some ⟨b, 0, none⟩), .int .u64 n] w K := by
  apply c_codec_Writer_Uint
  unfold S_codec_Writer_Uint
  simp only [Option.isNone_some, ifB, nilCk]
  have hl10 := uintB_len10 n.toNat (by omega)
  refine ⟨fun t w' => 0 ≤ t.1 ∧ t.1 < 18446744073709551616 ∧ ∃ pre, pre ++ uintB t.1.toNat = uintB n.toNat ∧ Sat W w' (WrR b (o ++ pre) e :: l), fun t _ => t.1.toNat, ⟨h0, h1, [], rfl, by simpa using h⟩, ?_⟩
  rintro ⟨m, u⟩ w' ⟨hm0, hm1, pre, hpre, h⟩
  simp only at hm0 hm1 hpre ⊢
  obtain ⟨s, h⟩ := sat_wr.1 h
  have hpl : pre.length ≤ 9 := by
    have := uintB_pos m.toNat
    have := congrArg List.length hpre
    simp at this; omega
  refine ifB_dec (fun hm => ?_) fun hm => ?_
  · refine ldB h (i := 0) (x := s) ?_
    refine appByte h.swap (or128 m hm0) (by simp; omega) fun s' w1 h1 => ?_
    refine stB h1.swap (i := 0) (v := s'.v) fun w2 h2 => ?_
    have hd : Int.fdiv m (2 ^ 7) = m / 128 := fdiv_pos _ (by decide)
    rw [hd]
    refine ⟨⟨by omega, by omega, pre ++ [UInt8.ofNat (m.toNat % 128 + 128)], ?_, sat_wr.2 ⟨s', by simpa using h2⟩⟩, by omega⟩
    rw [← hpre, uintB_big (n := m.toNat) (by omega), show (m / 128).toNat = m.toNat / 128 by omega]
    simp
  · refine ldB h (i := 0) (x := s) ?_
    refine appByte h.swap (w_u8_of m hm0) (by simp; omega) fun s' w1 h1 => ?_
    refine stB h1.swap (i := 0) (v := s'.v) fun w2 h2 => hK w2 (sat_wr.2 ⟨s', ?_⟩)
    rw [← hpre, uintB_small (n := m.toNat) (by omega)]
    simpa using h2
theorem tyI {k : Kd} {x : k.Ty} {K : k.Ty → Prop} (h : K x) : TyP k (k.v x) K := ⟨x, rfl, h⟩
theorem tupU {v : Value} {K : Unit → Prop} (hv : v = .tuple #[]) (h : K ()) : TupP [] v K := ⟨(), hv, h⟩
theorem wInt_ok {b : Nat} {o : List UInt8} {e n : Int} (h : Sat W w (WrR b o e :: l)) (h0 : -9223372036854775808 ≤ n) (h1 : n < 9223372036854775808) (hlen : o.length + 10 ≤ 140737488355328)
    (hK : ∀ w', Sat W w' (WrR b (o ++ intB n) e :: l) → K (.tuple #[]) w') : CallP P F_codec_Writer_Int [.pointer (some ⟨b, 0, none⟩), .int .i64 n] w K := by
  apply c_codec_Writer_Int
  unfold S_codec_Writer_Int
  rw [zig_code h0 h1]
  have hz := zig_lt h0 h1
  refine wUint_ok h (by omega) (by omega) hlen fun w' h' => tupU rfl (hK w' ?_)
  simpa [intB] using h'
theorem wFlag_ok {b : Nat} {o : List UInt8} {e : Int} {f : Bool} (h : Sat W w (WrR b o e :: l)) (hlen : o.length + 10 ≤ 140737488355328)
    (hK : ∀ w', Sat W w' (WrR b (o ++ flagB f) e :: l) → K (.tuple #[]) w') : CallP P F_codec_Writer_Flag [.pointer (some ⟨b, 0, none⟩), .bool f] w K := by
  apply c_codec_Writer_Flag
  unfold S_codec_Writer_Flag
  cases f
  · exact wUint_ok h (by decide) (by decide) hlen fun w' h' => tupU rfl (hK w' (by simpa [flagB, uintB_small] using h'))
  · exact wUint_ok h (by decide) (by decide) hlen fun w' h' => tupU rfl (hK w' (by simpa [flagB, uintB_small] using h'))
theorem wFixed_ok {b : Nat} {o : List UInt8} {e n : Int} (h : Sat W w (WrR b o e :: l)) (h0 : 0 ≤ n) (h1 : n < 4294967296) (hlen : o.length + 10 ≤ 140737488355328)
    (hK : ∀ w', Sat W w' (WrR b (o ++ fixedB n.toNat) e :: l) → K (.tuple #[]) w') : CallP P F_codec_Writer_Fixed [.pointer (some ⟨b, 0, none⟩), .int .u32 n] w K := by
  apply c_codec_Writer_Fixed
  unfold S_codec_Writer_Fixed
  simp only [Option.isNone_some, ifB, nilCk, Bool.not_false]
  obtain ⟨s, h⟩ := sat_wr.1 h
  refine ldB h (i := 0) (x := s) ?_
  refine bsB h (cs := [.int .u8 (IntKind.u8.wrap n), .int .u8 (IntKind.u8.wrap (n.fdiv (2 ^ 8))), .int .u8 (IntKind.u8.wrap (n.fdiv (2 ^ 16))), .int .u8 (IntKind.u8.wrap (n.fdiv (2 ^ 24)))]) (e := T_uint8) (fun w => by kernel_rfl) fun g w1 h1 => ?_
  have hx : RdC w1 ⟨some ⟨g, 0, none⟩, 4, 4⟩ 1 ((fixedB n.toNat).map vB) := by
    have := rdBlk h1 (n := 4) (sz := 1) rfl
    simp only [fdiv_pos _ (show (0 : Int) ≤ 2 ^ 8 by decide), fdiv_pos _ (show (0 : Int) ≤ 2 ^ 16 by decide), fdiv_pos _ (show (0 : Int) ≤ 2 ^ 24 by decide)] at this
    rw [w_u8_of n h0, w_u8_of (n / 2 ^ 8) (by omega), w_u8_of (n / 2 ^ 16) (by omega), w_u8_of (n / 2 ^ 24) (by omega)] at this
    have e1 : (n / 2 ^ 8).toNat = n.toNat / 256 := by omega
    have e2 : (n / 2 ^ 16).toNat = n.toNat / 65536 := by omega
    have e3 : (n / 2 ^ 24).toNat = n.toNat / 16777216 := by omega
    rw [e1, e2, e3] at this
    exact this
  refine appBytes h1.rot3 hx (by simp [fixedB]; omega) fun s' w2 h2 => ?_
  refine stB h2.drop2.swap (i := 0) (v := s'.v) fun w3 h3 => hK w3 (sat_wr.2 ⟨s', by simpa using h3⟩)
/-- the error of a writer that is told so many bytes -/
def wErr (e : Int) (n : Nat) : Int := if n > 4096 ∧ e = 0 then 2 else e
theorem wBytes_ok {b : Nat} {o n : List UInt8} {e : Int} {x : Sl} (h : Sat W w (WrR b o e :: l)) (hx : Rd W l x 1 (n.map vB)) (hlen : o.length + 10 + n.length ≤ 140737488355328)
    (hK : ∀ w', Sat W w' (WrR b (o ++ bytesB n) (wErr e n.length) :: l) → K (.tuple #[]) w') : CallP P F_codec_Writer_Bytes [.pointer (some ⟨b, 0, none⟩), x.v] w K := by
  apply c_codec_Writer_Bytes
  unfold S_codec_Writer_Bytes
  simp only [Option.isNone_some, ifB, nilCk]
  have hxl := (hx w h.tail).1
  simp at hxl
  refine ⟨fun _ w' => Sat W w' (WrR b o (wErr e n.length) :: l), fun _ w1 h1 => ?_, ?_⟩
  · rw [w_u64 (by omega) (by omega)]
    refine wUint_ok h1 (by omega) (by omega) (by omega) fun w2 h2 => tupU rfl ?_
    obtain ⟨s, h2⟩ := sat_wr.1 h2
    refine ldB h2 (i := 0) (x := s) ?_
    have h10 := uintB_len10 x.len (by omega)
    refine appBytes h2.swap (hx w2 h2.tail.tail) (by simp; omega) fun s' w3 h3 => ?_
    refine stB h3.swap (i := 0) (v := s'.v) fun w4 h4 => hK w4 (sat_wr.2 ⟨s', ?_⟩)
    simpa [bytesB, hxl] using h4
  · refine ifB_dec (fun hc => ?_) fun hc => ?_
    · obtain ⟨s, h⟩ := sat_wr.1 h
      refine ldB h (i := 1) (x := e) ?_
      refine ifB_beq (fun he => ?_) fun he => ?_
      · refine stB h (i := 1) fun w2 h2 => sat_wr.2 ⟨s, ?_⟩
        rw [wErr, if_pos ⟨by omega, he⟩]; simpa using h2
      · rw [wErr, if_neg (by omega)]; exact sat_wr.2 ⟨s, h⟩
    · rw [wErr, if_neg (by omega)]; exact h
end
end Go.Proofs.YtnjadekngjgjcaaGreatDoor

/- Layer 3: the writers' contracts, second part: Out, the reference's forms, a writer that there isn't. -/
namespace Go.Proofs.YtnjadekngjgjcaaGreatDoor
open Go Go.Pk
section
variable {W w : World} {l : List Res} {K : Value → World → Prop}
theorem wOut_ok {b : Nat} {o : List UInt8} {e : Int} (h : Sat W w (WrR b o e :: l)) (hlen : o.length ≤ 140737488355328)
    (h0 : e ≠ 0 → ∀ w', Sat W w' (WrR b o e :: l) → K (.tuple #[.slice none 0 0, .int .i64 e]) w')
    (h1 : e = 0 → ∀ s w', Sat W w' (BsR s o :: WrR b o e :: l) → K (.tuple #[s.v, .int .i64 0]) w') : CallP P F_codec_Writer_Out [.pointer (some ⟨b, 0, none⟩)] w K := by
  apply c_codec_Writer_Out
  unfold S_codec_Writer_Out
  simp only [Option.isNone_some, ifB, nilCk]
  obtain ⟨s, h⟩ := sat_wr.1 h
  refine ldB h (i := 1) (x := e) ?_
  refine ifB_bne (fun he => ?_) fun he => ?_
  · exact ldB h.drew (i := 1) (x := e) (h0 he _ (sat_wr.2 ⟨s, h.drew⟩))
  · refine ldB h (i := 0) (x := s) ?_
    have h2 := Sat.nilSlr h T_uint8 1
    refine appBytes (s := ⟨none, 0, 0⟩) (o := []) h2 (h.swap.rdc) (by simpa using hlen) fun s' w1 h3 => h1 he s' w1 ?_
    have h4 := h3.swap
    have h5 := h3.rot3
    -- [BsR s o, BsR s' .., Blk ..]
    have : Sat W w1 (Blk b [s.v, .int .i64 e] T_codec_Writer :: BsR s o :: BsR s' ([] ++ o) :: l) := h5.perm (by
      refine (List.Perm.cons _ (List.Perm.swap _ _ _)).trans (List.Perm.swap _ _ _)|>.trans ?_
      exact List.Perm.refl _)
    have h6 := sat_wr.2 ⟨s, this⟩
    simpa using h6.swap

/-! ### the reference's forms -/
end
end Go.Proofs.YtnjadekngjgjcaaGreatDoor

/- Layer 3: the program's reader's contracts. -/
namespace Go.Pk
open Go
theorem shlR {P : Program} {w : World} {k yk : IntKind} {x y : Int} {t : TypeId} {o1 o2 : Operand} {a b : Value} {K : Int → World → Prop} (hy : 0 ≤ y) (hK : K (k.wrap (x * 2 ^ (min y.toNat k.bits))) w) :
    RunK (.int k) P (do (eqGuard .shl t o1 o2 a b); (binOp .shl t (.int k x) (.int yk y))) w K := by
  refine ⟨_, w, ?_, hK⟩
  have : ¬ y < 0 := by omega
  simp [eqGuard, binOp, Op.shift, this]
theorem or_add {n c k : Nat} (hn : n < 128 ^ k) (h : n + c * 128 ^ k < 2 ^ 64) (hk : k ≤ 9) :
    IntKind.u64.wrap (↑(BitVec.ofInt 64 (n : Int) ||| BitVec.ofInt 64 (IntKind.u64.wrap ((c : Int) * 2 ^ (min (7 * (k : Int)).toNat IntKind.u64.bits)))).toNat : Int) = ((n + c * 128 ^ k : Nat) : Int) := by
  have hm : min (7 * (k : Int)).toNat IntKind.u64.bits = 7 * k := by show min (7 * (k : Int)).toNat 64 = 7 * k; omega
  have h128 : 128 ^ k = 2 ^ (7 * k) := by rw [Nat.pow_mul]
  rw [hm]
  have hc : ((c : Int) * 2 ^ (7 * k)) = ((c * 128 ^ k : Nat) : Int) := by rw [h128]; push_cast; rfl
  rw [hc, w_u64 (n := ((c * 128 ^ k : Nat) : Int)) (by omega) (by omega)]
  have h1 : (BitVec.ofInt 64 (n : Int)).toNat = n := by simp [BitVec.toNat_ofInt]; omega
  have h2 : (BitVec.ofInt 64 ((c * 128 ^ k : Nat) : Int)).toNat = c * 128 ^ k := by
    rw [BitVec.toNat_ofInt]; omega
  rw [BitVec.toNat_or, h1, h2]
  have h3 : n ||| c * 128 ^ k = n + c * 128 ^ k := by
    rw [h128] at hn ⊢
    have := Nat.two_pow_add_eq_or_of_lt hn c
    rw [Nat.or_comm, Nat.mul_comm c, ← this, Nat.add_comm]
  rw [h3, w_u64 (by omega) (by omega)]
end Go.Pk
namespace Go.Proofs.YtnjadekngjgjcaaGreatDoor
open Go Go.Pk
/-- a reader: the bytes, the place, the error -/
def RdrR (b : Nat) (t : List UInt8) (p : Nat) (e : Int) : Res := Ex fun s : Sl => All [Blk b [s.v, .int .i64 p, .int .i64 e] T_codec_Reader, BsR s t]
theorem sat_rdr {W w : World} {l : List Res} {b p : Nat} {t : List UInt8} {e : Int} : Sat W w (RdrR b t p e :: l) ↔ ∃ s : Sl, Sat W w (Blk b [s.v, .int .i64 p, .int .i64 e] T_codec_Reader :: BsR s t :: l) := by
  simp only [RdrR, sat_ex, sat_all, List.cons_append, List.nil_append]
theorem getElem?_vB {t : List UInt8} {i : Nat} (h : i < t.length) : (t.map vB)[i]? = some (Kd.v (.int .u8) (t[i].toNat : Int)) := by simp [vB, h]
section
variable {W w : World} {l : List Res} {K : Value → World → Prop} {b p : Nat} {t : List UInt8} {e : Int}
theorem newReader_ok {x : Sl} (h : Sat W w l) (hx : Rd W l x 1 (t.map vB)) (hlen : t.length ≤ 140737488355328)
    (hK : ∀ b w', Sat W w' (RdrR b t 0 0 :: l) → K (.pointer (some ⟨b, 0, none⟩)) w') : CallP P F_codec_NewReader [x.v] w K := by
  apply c_codec_NewReader
  unfold S_codec_NewReader
  refine appBytes (s := ⟨none, 0, 0⟩) (o := []) (Sat.nilSlr h T_uint8 1) (hx w h) (by simpa using hlen) fun s w1 h1 => ?_
  rw [List.nil_append] at h1
  exact boxB h1 fun b w2 h2 => hK b w2 (sat_rdr.2 ⟨s, h2⟩)
theorem fail_ok {x : Int} (h : Sat W w (RdrR b t p e :: l)) (hK : ∀ w', Sat W w' (RdrR b t p (if e = 0 then x else e) :: l) → K (.tuple #[]) w') :
    CallP P F_codec_Reader_fail [.pointer (some ⟨b, 0, none⟩), .int .i64 x] w K := by
  apply c_codec_Reader_fail
  unfold S_codec_Reader_fail
  simp only [nilCk]
  obtain ⟨s, h⟩ := sat_rdr.1 h
  refine ldB h (i := 2) (x := e) ?_
  refine ifB_beq (fun he => ?_) fun he => ?_
  · refine stB h (i := 2) fun w1 h1 => hK w1 ?_
    rw [if_pos he]; exact sat_rdr.2 ⟨s, by simpa using h1⟩
  · refine hK w ?_
    rw [if_neg he]; exact sat_rdr.2 ⟨s, h⟩
set_option maxRecDepth 4000 in
theorem dUint_ok (h : Sat W w (RdrR b t p e :: l)) (hp : p ≤ t.length) (ht : t.length ≤ 140737488355328)
    (hK : ∀ w', Sat W w' (RdrR b t (takeU t p e).2.1 (takeU t p e).2.2 :: l) → K (.int .u64 (takeU t p e).1) w') :
    CallP P F_codec_Reader_Uint [.pointer (some ⟨b, 0, none⟩)] w K := by
  apply c_codec_Reader_Uint
  unfold S_codec_Reader_Uint
  simp only [Option.isNone_some, ifB_false, nilCk]
  refine ⟨fun _ w' => e = 0 ∧ Sat W w' (RdrR b t p e :: l), fun _ w1 ⟨he, h1⟩ => ?_, ?_⟩
  · subst he
    obtain ⟨s, h1⟩ := sat_rdr.1 h1
    refine ldB h1 (i := 1) (x := (p : Int)) ?_
    refine ⟨fun x w' => ∃ k n : Nat, x.1 = n ∧ x.2.1 = 7 * (k : Int) ∧ k ≤ 9 ∧ n < 128 ^ k ∧ p + k ≤ t.length ∧ rdU (t.drop p) 0 0 = rdU (t.drop (p + k)) k n ∧ Sat W w' (RdrR b t (p + k) 0 :: l),
      fun x _ => 70 - x.2.1.toNat, ⟨0, 0, rfl, rfl, by omega, by simp, by omega, rfl, sat_rdr.2 ⟨s, h1⟩⟩, ?_⟩
    rintro ⟨n', sh, u⟩ w2 ⟨k, n, hn, hsh, hk, hn128, hpk, hrd, h2⟩
    simp only at hn hsh ⊢
    subst hn; subst hsh
    have h2' := h2
    obtain ⟨s2, h2⟩ := sat_rdr.1 h2
    have hsl := Sat.bsLen h2.tail
    refine ldB h2.drew (i := 1) (x := ((p + k : Nat) : Int)) ?_
    refine ldB h2.drew (i := 0) (x := s2) ?_
    refine ifB_beq (fun hc => ?_) fun hc => ?_
    · have hx : takeU t p 0 = (0, p, 6) := by
        simp only [takeU, ne_eq, not_true_eq_false, if_false, hrd]
        rw [List.drop_of_length_le (by omega)]; rfl
      refine stB h2.drew (i := 1) fun w3 h3 => ?_
      have h3 := sat_rdr.2 ⟨s2, h3⟩
      refine fail_ok h3 fun w4 h4 => tupU rfl ?_
      have := hK w4
      rw [hx] at this
      exact this h4
    · have hlt : p + k < t.length := by omega
      have hdrop : t.drop (p + k) = t[p + k] :: t.drop (p + k + 1) := List.drop_eq_getElem_cons hlt
      have hb := t[p + k].toNat_lt
      refine ldB h2.drew.drew (i := 0) (x := s2) ?_
      refine ldB h2.drew.drew (i := 1) (x := ((p + k : Nat) : Int)) ?_
      refine ixld et_bytes (h2.drew.drew.swap.rdc) (by omega) (k := .int .u8) (by exact getElem?_vB hlt) ?_
      refine ldB h2.drew.drew (i := 1) (x := ((p + k : Nat) : Int)) ?_
      refine stB h2.drew.drew (i := 1) fun w3 h3 => ?_
      rw [w_i64 (by omega) (by omega)] at h3
      have h3 := sat_rdr.2 ⟨s2, (show Sat W w3 (Blk b [s2.v, .int .i64 ((p + k + 1 : Nat) : Int), .int .i64 0] T_codec_Reader :: BsR s2 t :: l) from by simpa using h3)⟩
      -- what is refused
      have bad : ∀ w4 : World, Sat W w4 (RdrR b t (p + k + 1) 0 :: l) → (k = 9 ∧ t[p + k].toNat > 1) ∨ (t[p + k].toNat = 0 ∧ k > 0) →
          StoreP P 3 (.pointer (some ((⟨b, 0, none⟩ : Addr).add 1))) (.int .i64 p) w4 fun w33 => CallP P F_codec_Reader_fail [(.pointer (some ⟨b, 0, none⟩)), (.int .i64 7)] w33 fun v34 w35 => TupP [] v34 fun _ => K (.int .u64 0) w35 := by
        intro w4 h4 hbad
        obtain ⟨s4, h4⟩ := sat_rdr.1 h4
        refine stB h4 (i := 1) fun w5 h5 => ?_
        have h5 := sat_rdr.2 ⟨s4, h5⟩
        refine fail_ok h5 fun w6 h6 => tupU rfl ?_
        have hx : takeU t p 0 = (0, p, 7) := by
          simp only [takeU, ne_eq, not_true_eq_false, if_false, hrd, hdrop, rdU]
          rw [if_pos hbad]
        have := hK w6
        rw [hx] at this
        exact this h6
      refine ⟨fun _ w' => ¬ ((k = 9 ∧ t[p + k].toNat > 1) ∨ (t[p + k].toNat = 0 ∧ k > 0)) ∧ Sat W w' (RdrR b t (p + k + 1) 0 :: l), ?_, ?_⟩
      · rintro _ w4 ⟨hgood, h4⟩
        rw [and127, w_u64 (n := ((t[p + k].toNat % 128 : Nat) : Int)) (by omega) (by omega)]
        refine shlR (by omega) ?_
        have hsum : n + t[p + k].toNat % 128 * 128 ^ k < 2 ^ 64 := by
          rcases Nat.lt_or_ge k 9 with h9 | h9
          · have : 128 ^ (k + 1) ≤ 128 ^ 9 := Nat.pow_le_pow_right (by decide) (by omega)
            have h3 : t[p + k].toNat % 128 * 128 ^ k ≤ 127 * 128 ^ k := Nat.mul_le_mul_right _ (by omega)
            rw [Nat.pow_succ] at this
            omega
          · have : k = 9 := by omega
            subst this
            have : t[p + 9].toNat ≤ 1 := by omega
            have h3 : t[p + 9].toNat % 128 * 128 ^ 9 ≤ 1 * 128 ^ 9 := Nat.mul_le_mul_right _ (by omega)
            omega
        rw [or_add hn128 hsum hk]
        generalize hm : n + t[p + k].toNat % 128 * 128 ^ k = m at *
        refine ifB_dec (fun hlt8 => ?_) fun hge8 => ?_
        · have hx : takeU t p 0 = (m, p + (k + 1), 0) := by
            simp only [takeU, ne_eq, not_true_eq_false, if_false, hrd, hdrop, rdU]
            rw [if_neg hgood, if_pos (by omega), ← hm, Nat.mod_eq_of_lt (by omega)]
          have := hK w4
          rw [hx] at this
          exact this h4
        · have hk9 : k < 9 := by
            rcases Nat.lt_or_ge k 9 with h | h
            · exact h
            · exact absurd (Or.inl ⟨by omega, by omega⟩) hgood
          have hmod : t[p + k].toNat % 128 = t[p + k].toNat - 128 := by omega
          rw [w_i64 (by omega) (by omega)]
          refine ⟨⟨k + 1, m, rfl, by omega, by omega, ?_, by omega, ?_, h4⟩, by omega⟩
          · rw [Nat.pow_succ, ← hm]
            have h3 : t[p + k].toNat % 128 * 128 ^ k ≤ 127 * 128 ^ k := Nat.mul_le_mul_right _ (by omega)
            omega
          · rw [hrd, hdrop]
            simp only [rdU]
            rw [if_neg hgood, if_neg (by omega), ← hm, hmod]; rfl
      · refine ifB_beq (fun h63 => ?_) fun h63 => ?_
        · refine ifB_dec (fun hgt => bad w3 h3 (Or.inl ⟨by omega, by omega⟩)) fun hgt => ?_
          refine ifB_beq (fun hz => ?_) fun hz => ⟨by omega, h3⟩
          exact ifB_dec (fun hk0 => bad w3 h3 (Or.inr ⟨by omega, by omega⟩)) fun hk0 => ⟨by omega, h3⟩
        · refine ifB_beq (fun hz => ?_) fun hz => ⟨by omega, h3⟩
          exact ifB_dec (fun hk0 => bad w3 h3 (Or.inr ⟨by omega, by omega⟩)) fun hk0 => ⟨by omega, h3⟩
  · obtain ⟨s, h1⟩ := sat_rdr.1 h
    refine ldB h1 (i := 2) (x := e) ?_
    refine ifB_bne (fun he => ?_) fun he => ⟨he, h⟩
    have := hK w
    rw [(takeU_bound hp).2.2.2.2 he] at this
    exact this h
end
end Go.Proofs.YtnjadekngjgjcaaGreatDoor

/- Layer 3: the program's reader's contracts, second part. -/
namespace Go.Proofs.YtnjadekngjgjcaaGreatDoor
open Go Go.Pk
section
variable {W w : World} {l : List Res} {K : Value → World → Prop} {b p : Nat} {t : List UInt8} {e : Int}
theorem dInt_ok (h : Sat W w (RdrR b t p e :: l)) (hp : p ≤ t.length) (ht : t.length ≤ 140737488355328)
    (hK : ∀ w', Sat W w' (RdrR b t (takeI t p e).2.1 (takeI t p e).2.2 :: l) → K (.int .i64 (takeI t p e).1) w') :
    CallP P F_codec_Reader_Int [.pointer (some ⟨b, 0, none⟩)] w K := by
  apply c_codec_Reader_Int
  unfold S_codec_Reader_Int
  refine dUint_ok h hp ht fun w' h' => tyI ?_
  rw [zag_code (takeU_bound hp).1]
  exact hK w' h'
theorem dFlag_ok (h : Sat W w (RdrR b t p e :: l)) (hp : p ≤ t.length) (ht : t.length ≤ 140737488355328)
    (hK : ∀ w', Sat W w' (RdrR b t (takeF t p e).2.1 (takeF t p e).2.2 :: l) → K (.bool (takeF t p e).1) w') :
    CallP P F_codec_Reader_Flag [.pointer (some ⟨b, 0, none⟩)] w K := by
  apply c_codec_Reader_Flag
  unfold S_codec_Reader_Flag
  refine dUint_ok h hp ht fun w' h' => tyI ?_
  refine ifB_dec (fun hc => ?_) fun hc => ?_
  · have hx : takeF t p e = (false, (takeU t p e).2.1, if (takeU t p e).2.2 = 0 then 7 else (takeU t p e).2.2) := by
      simp only [takeF]; rw [if_pos (by omega)]
    refine fail_ok h' fun w2 h2 => tupU rfl ?_
    have := hK w2; rw [hx] at this; exact this h2
  · have hx : takeF t p e = ((takeU t p e).1 == 1, (takeU t p e).2.1, (takeU t p e).2.2) := by
      simp only [takeF]; rw [if_neg (by omega)]
    have := hK w'; rw [hx] at this
    have h2 : (((takeU t p e).1 : Int) == 1) = ((takeU t p e).1 == 1) := by
      rw [Bool.eq_iff_iff]; simp; omega
    rw [h2]; exact this h'
theorem fixed_code (a b c d : UInt8) : IntKind.u32.wrap (↑(BitVec.ofInt 32 (IntKind.u32.wrap (↑(BitVec.ofInt 32 (IntKind.u32.wrap (↑(BitVec.ofInt 32 (IntKind.u32.wrap (a.toNat : Int)) ||| BitVec.ofInt 32 (IntKind.u32.wrap (IntKind.u32.wrap (b.toNat : Int) * 2 ^ 8))).toNat : Int)) ||| BitVec.ofInt 32 (IntKind.u32.wrap (IntKind.u32.wrap (c.toNat : Int) * 2 ^ 16))).toNat : Int)) ||| BitVec.ofInt 32 (IntKind.u32.wrap (IntKind.u32.wrap (d.toNat : Int) * 2 ^ 24))).toNat : Int)
    = ((a.toNat + b.toNat * 256 + c.toNat * 65536 + d.toNat * 16777216 : Nat) : Int) := by
  have ha := a.toNat_lt
  have hb := b.toNat_lt
  have hc := c.toNat_lt
  have hd := d.toNat_lt
  rw [w_u32 (n := (a.toNat : Int)) (by omega) (by omega), w_u32 (n := (b.toNat : Int)) (by omega) (by omega), w_u32 (n := (c.toNat : Int)) (by omega) (by omega), w_u32 (n := (d.toNat : Int)) (by omega) (by omega),
    w_u32 (n := (b.toNat : Int) * 2 ^ 8) (by omega) (by omega), w_u32 (n := (c.toNat : Int) * 2 ^ 16) (by omega) (by omega), w_u32 (n := (d.toNat : Int) * 2 ^ 24) (by omega) (by omega)]
  have step : ∀ (x y k : Nat), x < 2 ^ k → x + y * 2 ^ k < 2 ^ 32 → IntKind.u32.wrap (↑(BitVec.ofInt 32 (x : Int) ||| BitVec.ofInt 32 ((y * 2 ^ k : Nat) : Int)).toNat : Int) = ((x + y * 2 ^ k : Nat) : Int) := by
    intro x y k hx hxy
    have h1 : (BitVec.ofInt 32 (x : Int)).toNat = x := by rw [BitVec.toNat_ofInt]; omega
    have h2 : (BitVec.ofInt 32 ((y * 2 ^ k : Nat) : Int)).toNat = y * 2 ^ k := by rw [BitVec.toNat_ofInt]; omega
    have h3 : x ||| y * 2 ^ k = x + y * 2 ^ k := by
      have := Nat.two_pow_add_eq_or_of_lt hx y
      rw [Nat.or_comm, Nat.mul_comm y, ← this, Nat.add_comm]
    rw [BitVec.toNat_or, h1, h2, h3, w_u32 (by omega) (by omega)]
  have e1 : (b.toNat : Int) * 2 ^ 8 = ((b.toNat * 2 ^ 8 : Nat) : Int) := by omega
  have e2 : (c.toNat : Int) * 2 ^ 16 = ((c.toNat * 2 ^ 16 : Nat) : Int) := by omega
  have e3 : (d.toNat : Int) * 2 ^ 24 = ((d.toNat * 2 ^ 24 : Nat) : Int) := by omega
  rw [e1, e2, e3, step a.toNat b.toNat 8 (by omega) (by omega), step _ c.toNat 16 (by omega) (by omega), step _ d.toNat 24 (by omega) (by omega)]
theorem dFixed_ok (h : Sat W w (RdrR b t p e :: l)) (hp : p ≤ t.length) (ht : t.length ≤ 140737488355328)
    (hK : ∀ w', Sat W w' (RdrR b t (takeX t p e).2.1 (takeX t p e).2.2 :: l) → K (.int .u32 (takeX t p e).1) w') :
    CallP P F_codec_Reader_Fixed [.pointer (some ⟨b, 0, none⟩)] w K := by
  apply c_codec_Reader_Fixed
  unfold S_codec_Reader_Fixed
  simp only [Option.isNone_some, ifB_false, nilCk]
  refine ⟨fun _ w' => e = 0 ∧ Sat W w' (RdrR b t p e :: l), ?_, ?_⟩
  · rintro _ w1 ⟨rfl, h1⟩
    obtain ⟨s, h1⟩ := sat_rdr.1 h1
    have hsl := Sat.bsLen h1.tail
    refine ldB h1.drew (i := 0) (x := s) ?_
    refine ldB h1.drew (i := 1) (x := (p : Int)) ?_
    rw [w_i64 (by omega) (by omega)]
    refine ifB_dec (fun hc => ?_) fun hc => ?_
    · refine fail_ok (sat_rdr.2 ⟨s, h1.drew⟩) fun w2 h2 => tupU rfl ?_
      have hx : takeX t p 0 = (0, p, 6) := by simp only [takeX]; rw [if_neg (by simp), if_pos (by omega)]
      have := hK w2; rw [hx] at this; exact this h2
    · refine ldB h1.drew.drew (i := 0) (x := s) ?_
      refine ldB h1.drew.drew (i := 1) (x := (p : Int)) ?_
      have hrc := h1.drew.drew.swap.rdc
      refine ⟨subSl s 1 p s.len, ?_, ?_⟩
      · have := run_sliceLo (P := P) et_bytes (s := s) (lo := (p : Int)) (by omega) (by omega) hrc.2.1 w1.drew.drew (j := .i64)
        simpa [subSl] using this
      refine ldB h1.drew.drew (i := 1) (x := (p : Int)) ?_
      refine stB h1.drew.drew (i := 1) fun w2 h2 => ?_
      rw [w_i64 (by omega) (by omega)] at h2
      have hs2 := (h2.drew.swap.rdc).sub (lo := p) (hi := s.len) (by omega) (Nat.le_refl _)
      have hget : ∀ i, i < 4 → (((t.map vB).drop (p * 1)).take ((s.len - p) * 1))[i]? = (t[p + i]?).map vB := by
        intro i hi
        rw [List.getElem?_take, if_pos (by omega), List.getElem?_drop, Nat.mul_one, List.getElem?_map]
      have g : ∀ i (hi : i < 4), (((t.map vB).drop (p * 1)).take ((s.len - p) * 1))[((i : Nat) : Int).toNat]? = some (Kd.v (.int .u8) (t[p + i]'(by omega)).toNat) := by
        intro i hi
        show _[i]? = _
        rw [hget i hi, List.getElem?_eq_getElem (by omega)]; rfl
      refine ixld et_bytes hs2 (by decide) (k := .int .u8) (by exact g 0 (by omega)) ?_
      refine ixld et_bytes hs2 (by decide) (k := .int .u8) (by exact g 1 (by omega)) ?_
      refine ixld et_bytes hs2 (by decide) (k := .int .u8) (by exact g 2 (by omega)) ?_
      refine ixld et_bytes hs2 (by decide) (k := .int .u8) (by exact g 3 (by omega)) ?_
      rw [fixed_code]
      have hdr : t.drop p = t[p] :: t[p + 1] :: t[p + 2] :: t[p + 3] :: t.drop (p + 4) := by
        rw [List.drop_eq_getElem_cons (by omega), List.drop_eq_getElem_cons (i := p + 1) (by omega), List.drop_eq_getElem_cons (i := p + 2) (by omega), List.drop_eq_getElem_cons (i := p + 3) (by omega)]
      have hx : takeX t p 0 = (t[p].toNat + t[p + 1].toNat * 256 + t[p + 2].toNat * 65536 + t[p + 3].toNat * 16777216, p + 4, 0) := by
        simp only [takeX]; rw [if_neg (by simp), if_neg (by omega), hdr]; rfl
      have := hK w2.drew; rw [hx] at this
      exact this (sat_rdr.2 ⟨s, h2.drew⟩)
  · obtain ⟨s, h1⟩ := sat_rdr.1 h
    refine ldB h1 (i := 2) (x := e) ?_
    refine ifB_bne (fun he => ?_) fun he => ⟨he, h⟩
    have hx : takeX t p e = (0, p, e) := by simp [takeX, he]
    have := hK w
    rw [hx] at this
    exact this h
theorem dBytes_ok (h : Sat W w (RdrR b t p e :: l)) (hp : p ≤ t.length) (ht : t.length ≤ 140737488355328)
    (hK : ∀ s w', Sat W w' (BsR s (takeB t p e).1 :: RdrR b t (takeB t p e).2.1 (takeB t p e).2.2 :: l) → K s.v w') :
    CallP P F_codec_Reader_Bytes [.pointer (some ⟨b, 0, none⟩)] w K := by
  apply c_codec_Reader_Bytes
  unfold S_codec_Reader_Bytes
  refine dUint_ok h hp ht fun w1 h1 => tyI ?_
  have hb := takeU_bound (e := e) hp
  simp only [Option.isNone_some, ifB_false, nilCk]
  generalize hu : takeU t p e = u at *
  obtain ⟨n, q, e1⟩ := u
  simp only at h1 hb ⊢
  have hnil : ∀ w' q' e', takeB t p e = ([], q', e') → Sat W w' (RdrR b t q' e' :: l) → K (.slice none 0 0) w' := by
    intro w' q' e' hx h'
    have := hK ⟨none, 0, 0⟩ w'
    rw [hx] at this
    exact this (h'.nilSlr T_uint8 1)
  refine ⟨fun _ w' => e1 = 0 ∧ n ≤ 4096 ∧ q + n ≤ t.length ∧ Sat W w' (RdrR b t q 0 :: l), ?_, ?_⟩
  · rintro _ w2 ⟨rfl, hn, hqn, h2⟩
    obtain ⟨s, h2⟩ := sat_rdr.1 h2
    have hsl := Sat.bsLen h2.tail
    have hrd : ∀ w, Sat W w (Blk b [s.v, .int .i64 q, .int .i64 0] T_codec_Reader :: BsR s t :: l) → ∃ l', Sat W w (Blk b [s.v, .int .i64 q, .int .i64 0] T_codec_Reader :: l') := fun w h => ⟨_, h⟩
    refine ⟨fun w => Sat W w (Blk b [s.v, .int .i64 q, .int .i64 0] T_codec_Reader :: BsR s t :: l), h2.drew, ?_⟩
    refine hldB hrd (i := 0) (x := s) ?_
    refine hldB hrd (i := 1) (x := (q : Int)) ?_
    refine hldB hrd (i := 1) (x := (q : Int)) ?_
    rw [w_i64 (n := (n : Int)) (by omega) (by omega), w_i64 (n := (q : Int) + n) (by omega) (by omega)]
    have hcap := h2.tail.slLen.2.1
    refine ⟨subSl s 1 q (q + n), fun w3 h3 => ?_, ?_⟩
    · have := run_slice (P := P) et_bytes (s := s) (lo := (q : Int)) (hi := (q : Int) + n) (by omega) (by omega) (by omega) w3 (j := .i64) (k := .i64)
      rw [this]
      have e1 : ((q : Int) + n).toNat = q + n := by omega
      rw [e1]; rfl
    · have hr := (h2.drew.swap.rdc).sub (lo := q) (hi := q + n) (by omega) (by omega)
      have hx : takeB t p e = ((t.drop q).take n, q + n, 0) := by
        simp only [takeB, hu]; rw [if_neg (by simp), if_neg (by omega), if_neg (by omega)]
      have e2 : (List.take ((q + n - q) * 1) (List.drop (q * 1) (t.map vB))) = (((t.drop q).take n)).map vB := by
        rw [Nat.mul_one, Nat.mul_one, Nat.add_sub_cancel_left, List.map_take, List.map_drop]
      rw [e2] at hr
      refine appBytes (s := ⟨none, 0, 0⟩) (o := []) (Sat.nilSlr h2.drew T_uint8 1) hr (by simp; omega) fun s' w3 h3 => ?_
      rw [List.nil_append] at h3
      refine ⟨h3.tail, ?_⟩
      refine ldB h3.swap (i := 1) (x := (q : Int)) ?_
      refine stB h3.swap (i := 1) fun w4 h4 => ?_
      rw [w_i64 (by omega) (by omega)] at h4
      have := hK s' w4
      rw [hx] at this
      refine this (Sat.swap (sat_rdr.2 ⟨s, ?_⟩))
      have h5 := h4.perm (List.Perm.cons _ (List.Perm.swap _ _ _))
      exact h5
  · obtain ⟨s, h2⟩ := sat_rdr.1 h1
    refine ldB h2 (i := 2) (x := e1) ?_
    refine ifB_bne (fun he => hnil w1 q e1 (by simp only [takeB, hu]; rw [if_pos he]) h1) fun he => ?_
    subst he
    refine ifB_dec (fun hc => ?_) fun hc => ?_
    · refine fail_ok h1 fun w2 h3 => tupU rfl (hnil w2 q 2 (by simp only [takeB, hu]; rw [if_neg (by simp), if_pos (by omega)]) h3)
    · have hsl := Sat.bsLen h2.tail
      refine ldB h2.drew (i := 0) (x := s) ?_
      refine ldB h2.drew (i := 1) (x := (q : Int)) ?_
      rw [w_i64 (n := (n : Int)) (by omega) (by omega), w_i64 (by omega) (by omega)]
      refine ifB_dec (fun hc2 => ?_) fun hc2 => ?_
      · refine fail_ok (sat_rdr.2 ⟨s, h2.drew⟩) fun w2 h3 => tupU rfl (hnil w2 q 6 (by simp only [takeB, hu]; rw [if_neg (by simp), if_neg (by omega), if_pos (by omega)]) h3)
      · exact ⟨rfl, by omega, by omega, sat_rdr.2 ⟨s, h2.drew⟩⟩
end
end Go.Proofs.YtnjadekngjgjcaaGreatDoor

/- Layer 3: State, End; the reference's reader. -/
namespace Go.Proofs.YtnjadekngjgjcaaGreatDoor
open Go Go.Pk
section
variable {W w : World} {l : List Res} {K : Value → World → Prop} {b p : Nat} {t : List UInt8} {e : Int}
theorem dState_ok (h : Sat W w (RdrR b t p e :: l)) (hp : p ≤ t.length)
    (hK : ∀ w', Sat W w' (RdrR b t p e :: l) → K (.tuple #[.int .i64 p, .int .i64 ((t.length - p : Nat) : Int), .int .i64 e]) w') :
    CallP P F_codec_Reader_State [.pointer (some ⟨b, 0, none⟩)] w K := by
  apply c_codec_Reader_State
  unfold S_codec_Reader_State
  simp only [Option.isNone_some, ifB_false, nilCk]
  obtain ⟨s, h⟩ := sat_rdr.1 h
  have hsl := Sat.bsLen h.tail
  refine ldB h.drew (i := 1) (x := (p : Int)) ?_
  refine ldB h.drew (i := 0) (x := s) ?_
  refine ldB h.drew (i := 1) (x := (p : Int)) ?_
  refine ldB h.drew (i := 2) (x := e) ?_
  rw [w_i64 (by omega) (by omega)]
  have : ((t.length - p : Nat) : Int) = (s.len : Int) - p := by omega
  have h2 := hK w.drew (sat_rdr.2 ⟨s, h.drew⟩)
  rw [this] at h2
  exact h2
theorem dEnd_ok (h : Sat W w (RdrR b t p e :: l)) (hK : ∀ w', Sat W w' (RdrR b t p e :: l) → K (.int .i64 (endE t p e)) w') :
    CallP P F_codec_Reader_End [.pointer (some ⟨b, 0, none⟩)] w K := by
  apply c_codec_Reader_End
  unfold S_codec_Reader_End
  simp only [Option.isNone_some, ifB_false, nilCk]
  obtain ⟨s, h⟩ := sat_rdr.1 h
  have hsl := Sat.bsLen h.tail
  refine ⟨fun _ w' => ¬ (e = 0 ∧ p < t.length) ∧ Sat W w' (Blk b [s.v, .int .i64 p, .int .i64 e] T_codec_Reader :: BsR s t :: l), ?_, ?_⟩
  · rintro _ w1 ⟨hn, h1⟩
    refine ldB h1 (i := 2) (x := e) ?_
    have := hK w1 (sat_rdr.2 ⟨s, h1⟩)
    rw [endE, if_neg hn] at this
    exact this
  · refine ldB h.drew (i := 2) (x := e) ?_
    refine ifB_beq (fun he => ?_) fun he => ⟨fun hh => he hh.1, h.drew⟩
    refine ldB h.drew (i := 1) (x := (p : Int)) ?_
    refine ldB h.drew (i := 0) (x := s) ?_
    refine ifB_dec (fun hc => ?_) fun hc => ⟨by omega, h.drew⟩
    have := hK w.drew (sat_rdr.2 ⟨s, h.drew⟩)
    rw [endE, if_pos ⟨he, by omega⟩] at this
    exact this

/-! ### the reference's reader -/
variable {s : Sl}
end
end Go.Proofs.YtnjadekngjgjcaaGreatDoor

/- Layer 3: the reference's reader of bytes and of numbers; sameness. -/
namespace Go.Proofs.YtnjadekngjgjcaaGreatDoor
open Go Go.Pk
section
variable {W w : World} {l : List Res} {K : Value → World → Prop} {b p : Nat} {t : List UInt8} {e : Int} {s : Sl}
/-! ### sameness -/
end
end Go.Proofs.YtnjadekngjgjcaaGreatDoor
