/- Layer 3: the program's reader's contracts. -/
import Derived.Test.YtcfgbboibgjlcaaCW2
namespace Go.Pk
open Go
theorem shlR {P : Program} {w : World} {k yk : IntKind} {x y : Int} {t : TypeId} {o1 o2 : Operand} {a b : Value} {K : Int → World → Prop} (hy : 0 ≤ y) (hK : K (k.wrap (x * 2 ^ (min y.toNat k.bits))) w) :
    RunK (.int k) P (do (eqGuard .shl t o1 o2 a b); (binOp .shl t (.int k x) (.int yk y))) w K := by
  refine ⟨_, w, ?_, hK⟩
  have : ¬ y < 0 := by omega
  simp [eqGuard, binOp, Op.shift, this]
theorem or_add {n c k : Nat} (hn : n < 128 ^ k) (h : n + c * 128 ^ k < 2 ^ 64) (hk : k ≤ 9) :
    IntKind.u64.wrap (↑(BitVec.ofInt 64 (n : Int) ||| BitVec.ofInt 64 (IntKind.u64.wrap ((c : Int) * 2 ^ (min (7 * (k : Int)).toNat IntKind.u64.bits)))).toNat : Int) = ((n + c * 128 ^ k : Nat) : Int) := by
  have hm : min (7 * (k : Int)).toNat IntKind.u64.bits = 7 * k := by show min (7 * (k : Int)).toNat 64 = 7 * k; omega
  have h128 : 128 ^ k = 2 ^ (7 * k) := by rw [Nat.pow_mul]
  rw [hm]
  have hc : ((c : Int) * 2 ^ (7 * k)) = ((c * 128 ^ k : Nat) : Int) := by rw [h128]; push_cast; rfl
  rw [hc, w_u64 (n := ((c * 128 ^ k : Nat) : Int)) (by omega) (by omega)]
  have h1 : (BitVec.ofInt 64 (n : Int)).toNat = n := by simp [BitVec.toNat_ofInt]; omega
  have h2 : (BitVec.ofInt 64 ((c * 128 ^ k : Nat) : Int)).toNat = c * 128 ^ k := by
    rw [BitVec.toNat_ofInt]; omega
  rw [BitVec.toNat_or, h1, h2]
  have h3 : n ||| c * 128 ^ k = n + c * 128 ^ k := by
    rw [h128] at hn ⊢
    have := Nat.two_pow_add_eq_or_of_lt hn c
    rw [Nat.or_comm, Nat.mul_comm c, ← this, Nat.add_comm]
  rw [h3, w_u64 (by omega) (by omega)]
end Go.Pk
namespace Go.Proofs.Ytcfgbboibgjlcaa
open Go Go.Pk
/-- a reader: the bytes, the place, the error -/
def RdrR (b : Nat) (t : List UInt8) (p : Nat) (e : Int) : Res := Ex fun s : Sl => All [Blk b [s.v, .int .i64 p, .int .i64 e] T_codec_Reader, BsR s t]
theorem sat_rdr {W w : World} {l : List Res} {b p : Nat} {t : List UInt8} {e : Int} : Sat W w (RdrR b t p e :: l) ↔ ∃ s : Sl, Sat W w (Blk b [s.v, .int .i64 p, .int .i64 e] T_codec_Reader :: BsR s t :: l) := by
  simp only [RdrR, sat_ex, sat_all, List.cons_append, List.nil_append]
theorem getElem?_vB {t : List UInt8} {i : Nat} (h : i < t.length) : (t.map vB)[i]? = some (Kd.v (.int .u8) (t[i].toNat : Int)) := by simp [vB, h]
section
variable {W w : World} {l : List Res} {K : Value → World → Prop} {b p : Nat} {t : List UInt8} {e : Int}
theorem newReader_ok {x : Sl} (h : Sat W w l) (hx : Rd W l x 1 (t.map vB)) (hlen : t.length ≤ 140737488355328)
    (hK : ∀ b w', Sat W w' (RdrR b t 0 0 :: l) → K (.pointer (some ⟨b, 0, none⟩)) w') : CallP P F_codec_NewReader [x.v] w K := by
  apply c_codec_NewReader
  unfold S_codec_NewReader
  refine appBytes (s := ⟨none, 0, 0⟩) (o := []) (Sat.nilSlr h T_uint8 1) (hx w h) (by simpa using hlen) fun s w1 h1 => ?_
  rw [List.nil_append] at h1
  exact boxB h1 fun b w2 h2 => hK b w2 (sat_rdr.2 ⟨s, h2⟩)
theorem fail_ok {x : Int} (h : Sat W w (RdrR b t p e :: l)) (hK : ∀ w', Sat W w' (RdrR b t p (if e = 0 then x else e) :: l) → K (.tuple #[]) w') :
    CallP P F_codec_Reader_fail [.pointer (some ⟨b, 0, none⟩), .int .i64 x] w K := by
  apply c_codec_Reader_fail
  unfold S_codec_Reader_fail
  simp only [nilCk]
  obtain ⟨s, h⟩ := sat_rdr.1 h
  refine ldB h (i := 2) (x := e) ?_
  refine ifB_beq (fun he => ?_) fun he => ?_
  · refine stB h (i := 2) fun w1 h1 => hK w1 ?_
    rw [if_pos he]; exact sat_rdr.2 ⟨s, by simpa using h1⟩
  · refine hK w ?_
    rw [if_neg he]; exact sat_rdr.2 ⟨s, h⟩
set_option maxRecDepth 4000 in
theorem dUint_ok (h : Sat W w (RdrR b t p e :: l)) (hp : p ≤ t.length) (ht : t.length ≤ 140737488355328)
    (hK : ∀ w', Sat W w' (RdrR b t (takeU t p e).2.1 (takeU t p e).2.2 :: l) → K (.int .u64 (takeU t p e).1) w') :
    CallP P F_codec_Reader_Uint [.pointer (some ⟨b, 0, none⟩)] w K := by
  apply c_codec_Reader_Uint
  unfold S_codec_Reader_Uint
  simp only [Option.isNone_some, ifB_false, nilCk]
  refine ⟨fun _ w' => e = 0 ∧ Sat W w' (RdrR b t p e :: l), fun _ w1 ⟨he, h1⟩ => ?_, ?_⟩
  · subst he
    obtain ⟨s, h1⟩ := sat_rdr.1 h1
    refine ldB h1 (i := 1) (x := (p : Int)) ?_
    refine ⟨fun x w' => ∃ k n : Nat, x.1 = n ∧ x.2.1 = 7 * (k : Int) ∧ k ≤ 9 ∧ n < 128 ^ k ∧ p + k ≤ t.length ∧ rdU (t.drop p) 0 0 = rdU (t.drop (p + k)) k n ∧ Sat W w' (RdrR b t (p + k) 0 :: l),
      fun x _ => 70 - x.2.1.toNat, ⟨0, 0, rfl, rfl, by omega, by simp, by omega, rfl, sat_rdr.2 ⟨s, h1⟩⟩, ?_⟩
    rintro ⟨n', sh, u⟩ w2 ⟨k, n, hn, hsh, hk, hn128, hpk, hrd, h2⟩
    simp only at hn hsh ⊢
    subst hn; subst hsh
    have h2' := h2
    obtain ⟨s2, h2⟩ := sat_rdr.1 h2
    have hsl := Sat.bsLen h2.tail
    refine ldB h2.drew (i := 1) (x := ((p + k : Nat) : Int)) ?_
    refine ldB h2.drew (i := 0) (x := s2) ?_
    refine ifB_beq (fun hc => ?_) fun hc => ?_
    · have hx : takeU t p 0 = (0, p, 6) := by
        simp only [takeU, ne_eq, not_true_eq_false, if_false, hrd]
        rw [List.drop_of_length_le (by omega)]; rfl
      refine stB h2.drew (i := 1) fun w3 h3 => ?_
      have h3 := sat_rdr.2 ⟨s2, h3⟩
      refine fail_ok h3 fun w4 h4 => tupU rfl ?_
      have := hK w4
      rw [hx] at this
      exact this h4
    · have hlt : p + k < t.length := by omega
      have hdrop : t.drop (p + k) = t[p + k] :: t.drop (p + k + 1) := List.drop_eq_getElem_cons hlt
      have hb := t[p + k].toNat_lt
      refine ldB h2.drew.drew (i := 0) (x := s2) ?_
      refine ldB h2.drew.drew (i := 1) (x := ((p + k : Nat) : Int)) ?_
      refine ixld et_bytes (h2.drew.drew.swap.rdc) (by omega) (k := .int .u8) (by exact getElem?_vB hlt) ?_
      refine ldB h2.drew.drew (i := 1) (x := ((p + k : Nat) : Int)) ?_
      refine stB h2.drew.drew (i := 1) fun w3 h3 => ?_
      rw [w_i64 (by omega) (by omega)] at h3
      have h3 := sat_rdr.2 ⟨s2, (show Sat W w3 (Blk b [s2.v, .int .i64 ((p + k + 1 : Nat) : Int), .int .i64 0] T_codec_Reader :: BsR s2 t :: l) from by simpa using h3)⟩
      -- what is refused
      have bad : ∀ w4 : World, Sat W w4 (RdrR b t (p + k + 1) 0 :: l) → (k = 9 ∧ t[p + k].toNat > 1) ∨ (t[p + k].toNat = 0 ∧ k > 0) →
          StoreP P 3 (.pointer (some ((⟨b, 0, none⟩ : Addr).add 1))) (.int .i64 p) w4 fun w33 => CallP P F_codec_Reader_fail [(.pointer (some ⟨b, 0, none⟩)), (.int .i64 7)] w33 fun v34 w35 => TupP [] v34 fun _ => K (.int .u64 0) w35 := by
        intro w4 h4 hbad
        obtain ⟨s4, h4⟩ := sat_rdr.1 h4
        refine stB h4 (i := 1) fun w5 h5 => ?_
        have h5 := sat_rdr.2 ⟨s4, h5⟩
        refine fail_ok h5 fun w6 h6 => tupU rfl ?_
        have hx : takeU t p 0 = (0, p, 7) := by
          simp only [takeU, ne_eq, not_true_eq_false, if_false, hrd, hdrop, rdU]
          rw [if_pos hbad]
        have := hK w6
        rw [hx] at this
        exact this h6
      refine ⟨fun _ w' => ¬ ((k = 9 ∧ t[p + k].toNat > 1) ∨ (t[p + k].toNat = 0 ∧ k > 0)) ∧ Sat W w' (RdrR b t (p + k + 1) 0 :: l), ?_, ?_⟩
      · rintro _ w4 ⟨hgood, h4⟩
        rw [and127, w_u64 (n := ((t[p + k].toNat % 128 : Nat) : Int)) (by omega) (by omega)]
        refine shlR (by omega) ?_
        have hsum : n + t[p + k].toNat % 128 * 128 ^ k < 2 ^ 64 := by
          rcases Nat.lt_or_ge k 9 with h9 | h9
          · have : 128 ^ (k + 1) ≤ 128 ^ 9 := Nat.pow_le_pow_right (by decide) (by omega)
            have h3 : t[p + k].toNat % 128 * 128 ^ k ≤ 127 * 128 ^ k := Nat.mul_le_mul_right _ (by omega)
            rw [Nat.pow_succ] at this
            omega
          · have : k = 9 := by omega
            subst this
            have : t[p + 9].toNat ≤ 1 := by omega
            have h3 : t[p + 9].toNat % 128 * 128 ^ 9 ≤ 1 * 128 ^ 9 := Nat.mul_le_mul_right _ (by omega)
            omega
        rw [or_add hn128 hsum hk]
        generalize hm : n + t[p + k].toNat % 128 * 128 ^ k = m at *
        refine ifB_dec (fun hlt8 => ?_) fun hge8 => ?_
        · have hx : takeU t p 0 = (m, p + (k + 1), 0) := by
            simp only [takeU, ne_eq, not_true_eq_false, if_false, hrd, hdrop, rdU]
            rw [if_neg hgood, if_pos (by omega), ← hm, Nat.mod_eq_of_lt (by omega)]
          have := hK w4
          rw [hx] at this
          exact this h4
        · have hk9 : k < 9 := by
            rcases Nat.lt_or_ge k 9 with h | h
            · exact h
            · exact absurd (Or.inl ⟨by omega, by omega⟩) hgood
          have hmod : t[p + k].toNat % 128 = t[p + k].toNat - 128 := by omega
          rw [w_i64 (by omega) (by omega)]
          refine ⟨⟨k + 1, m, rfl, by omega, by omega, ?_, by omega, ?_, h4⟩, by omega⟩
          · rw [Nat.pow_succ, ← hm]
            have h3 : t[p + k].toNat % 128 * 128 ^ k ≤ 127 * 128 ^ k := Nat.mul_le_mul_right _ (by omega)
            omega
          · rw [hrd, hdrop]
            simp only [rdU]
            rw [if_neg hgood, if_neg (by omega), ← hm, hmod]; rfl
      · refine ifB_beq (fun h63 => ?_) fun h63 => ?_
        · refine ifB_dec (fun hgt => bad w3 h3 (Or.inl ⟨by omega, by omega⟩)) fun hgt => ?_
          refine ifB_beq (fun hz => ?_) fun hz => ⟨by omega, h3⟩
          exact ifB_dec (fun hk0 => bad w3 h3 (Or.inr ⟨by omega, by omega⟩)) fun hk0 => ⟨by omega, h3⟩
        · refine ifB_beq (fun hz => ?_) fun hz => ⟨by omega, h3⟩
          exact ifB_dec (fun hk0 => bad w3 h3 (Or.inr ⟨by omega, by omega⟩)) fun hk0 => ⟨by omega, h3⟩
  · obtain ⟨s, h1⟩ := sat_rdr.1 h
    refine ldB h1 (i := 2) (x := e) ?_
    refine ifB_bne (fun he => ?_) fun he => ⟨he, h⟩
    have := hK w
    rw [(takeU_bound hp).2.2.2.2 he] at this
    exact this h
end
end Go.Proofs.Ytcfgbboibgjlcaa
