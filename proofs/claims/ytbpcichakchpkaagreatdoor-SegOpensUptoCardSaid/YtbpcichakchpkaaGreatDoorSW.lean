/- Layer 8: the reference's check sums and frames. -/
import Derived.Test.YtbpcichakchpkaaGreatDoorSV
namespace Go.Pk
open Go
theorem shrR {P : Program} {w : World} {t : TypeId} {o1 o2 : Operand} {yk : IntKind} {x y : Int} {K : Int → World → Prop} (h0 : 0 ≤ y) (h1 : y ≤ 8) (hK : K (x / 2 ^ y.toNat) w) :
    RunK (.int .u8) P (do (eqGuard .shr t o1 o2 (.int .u8 x) (.int yk y)); (binOp .shr t (.int .u8 x) (.int yk y))) w K := by
  refine ⟨_, w, ?_, hK⟩
  simp only [eqGuard_shr, binOp_shr]
  rw [shift_shr_u8 yk x y h0 h1]
  rfl
theorem bit_u8 (x : UInt8) (k : Nat) : (BitVec.ofInt 32 (IntKind.u32.wrap ((x.toNat : Int) / 2 ^ k))).getLsbD 0 = x.toBitVec.getLsbD k := by
  have e1 : (x.toNat : Int) / 2 ^ k = ((x.toNat >>> k : Nat) : Int) := by
    rw [Nat.shiftRight_eq_div_pow]
    simp
  have hlt : x.toNat >>> k < 2 ^ 32 := by
    have h1 : x.toNat < 256 := x.toNat_lt
    have h2 : x.toNat >>> k ≤ x.toNat := by rw [Nat.shiftRight_eq_div_pow]; exact Nat.div_le_self _ _
    omega
  rw [e1]
  generalize hm : x.toNat >>> k = m at *
  have e2 : IntKind.u32.wrap (m : Int) = (m : Int) := by
    simp [IntKind.wrap, IntKind.signed, IntKind.bits]; omega
  rw [e2]
  have e3 : BitVec.ofInt 32 (m : Int) = BitVec.ofNat 32 m := BitVec.ofInt_natCast 32 m
  rw [e3, BitVec.getLsbD_ofNat, ← hm, Nat.testBit_shiftRight]
  simp [BitVec.getLsbD]
theorem xor_bits (p q : Bool) : (IntKind.u32.wrap (((BitVec.ofInt 32 (IntKind.u32.wrap (if p = true then 1 else 0)) ^^^ BitVec.ofInt 32 (IntKind.u32.wrap (if q = true then 1 else 0))).toNat : Nat) : Int) == 1) = (p ^^ q) := by
  cases p <;> cases q <;> decide
end Go.Pk
namespace Go.Proofs.YtbpcichakchpkaaGreatDoor
open Go Go.Pk
section
variable {W w : World} {l : List Res} {K : Value → World → Prop}
theorem rmore_ok {x : Sl} {b : List UInt8} (h : Sat W w l) (hx : Rd W l x 1 (b.map vB)) (hb : b.length < 4611686018427387904) (hK : ∀ w', Sat W w' l → K (.int .u32 (crc b).toNat) w') :
    CallP P F_ref02_More [.int .u32 0, x.v] w K := by
  apply c_ref02_More
  unfold S_ref02_More
  have hxl : x.len = b.length := by have := (hx w h).1; simp at this; omega
  have e0 : BitVec.ofInt 32 0 = 0#32 := by decide
  rw [e0, ones_xor, w_u32b]
  refine ⟨fun z w' => ∃ (j : Nat) (c : BitVec 32), z.2.1 = j ∧ j ≤ b.length ∧ z.1 = c.toNat ∧ c = (b.take j).foldl rByte (~~~ 0#32) ∧ Sat W w' l, fun z _ => b.length - z.2.1.toNat, ⟨0, _, rfl, Nat.zero_le _, rfl, rfl, h⟩, ?_⟩
  rintro ⟨c', j', u⟩ w2 ⟨j, c, hj, hjl, hc, hcs, h2⟩
  simp only at hj hc ⊢
  subst hj; subst hc
  refine ifB_dec (fun hlt => ?_) fun hge => ?_
  · have hj2 : j < b.length := by omega
    refine ⟨fun z w' => ∃ (k : Nat) (r : BitVec 32), z.2.1 = k ∧ k ≤ 8 ∧ z.1 = r.toNat ∧ rSteps r b[j] (8 - k) k = rByte c b[j] ∧ Sat W w' l, fun z _ => 8 - z.2.1.toNat, ⟨0, c, rfl, by omega, rfl, rfl, h2⟩, ?_⟩
    rintro ⟨r', k', u2⟩ w5 ⟨k, r, hk, hkl, hr, hrs, h3⟩
    simp only at hk hr ⊢
    subst hk; subst hr
    refine ifB_dec (fun hlt2 => ?_) fun hge2 => ?_
    · refine ixld et_bytes (hx _ h3) (by omega) (k := .int .u8) (x := (b[j].toNat : Int)) (by simp [vB, hj2, Kd.v]) ?_
      have ek : IntKind.u64.wrap (k : Int) = (k : Int) := by simp [IntKind.wrap, IntKind.signed, IntKind.bits]; omega
      rw [ek]
      refine shrR (by omega) (by omega) ?_
      have ek2 : ((k : Int)).toNat = k := by omega
      rw [ek2, bv_of, and_one, and_one, bit_u8, xor_bits, w_i64 (n := (k : Int) + 1) (by omega) (by omega), fdiv_sh, bv_of]
      have hp : BitVec.ofInt 32 2197175160 = poly := by decide
      rw [hp, w_u32b]
      obtain ⟨m, hm⟩ : ∃ m, 8 - k = m + 1 := ⟨7 - k, by omega⟩
      have hst : rSteps (rStep r (b[j].toBitVec.getLsbD k)) b[j] (8 - (k + 1)) (k + 1) = rByte c b[j] := by
        rw [← hrs, hm, rSteps]
        congr 1
        omega
      refine ifB_intro (fun hc => ?_) fun hc => ?_
      · refine ⟨⟨k + 1, (r >>> 1) ^^^ poly, by show (k : Int) + 1 = _; omega, by omega, rfl, ?_, h3⟩, by show 8 - ((k : Int) + 1).toNat < 8 - (k : Int).toNat; omega⟩
        rw [← hst]; unfold rStep; rw [if_pos hc]
      · refine ⟨⟨k + 1, r >>> 1, by show (k : Int) + 1 = _; omega, by omega, rfl, ?_, h3⟩, by show 8 - ((k : Int) + 1).toNat < 8 - (k : Int).toNat; omega⟩
        rw [← hst]; unfold rStep; rw [if_neg (by rw [hc]; simp)]
    · have hke : k = 8 := by omega
      subst hke
      rw [w_i64 (n := (j : Int) + 1) (by omega) (by omega)]
      refine ⟨⟨j + 1, r, by show (j : Int) + 1 = _; omega, by omega, rfl, ?_, h3⟩, by show b.length - ((j : Int) + 1).toNat < b.length - (j : Int).toNat; omega⟩
      rw [List.take_add_one, List.getElem?_eq_getElem hj2, List.foldl_append, ← hcs]
      exact hrs
  · have hje : b.take j = b := List.take_of_length_le (by omega)
    rw [bv_of, ones_xor, w_u32b]
    rw [hje] at hcs
    have e : crc b = ~~~ c := by rw [hcs, ← crcFold_eq]; rfl
    rw [e] at hK
    exact hK w2 h2
theorem rframe_ok {x : Sl} {p : List UInt8} (h : Sat W w l) (hx : Rd W l x 1 (p.map vB)) (hp : p.length ≤ 4096) (hK : ∀ s w', Sat W w' (BsR s (frm p) :: l) → K (.tuple #[s.v, .int .i64 0]) w') :
    CallP P F_ref04_DocEncode [x.v] w K := by
  apply c_ref04_DocEncode
  unfold S_ref04_DocEncode
  have hxl : x.len = p.length := by have := (hx w h).1; simp at this; omega
  refine ifB_dec (fun c => absurd c (by omega)) fun _ => ?_
  have ew : IntKind.u32.wrap ((x.len : Nat) : Int) = (p.length : Int) := by
    rw [hxl]; simp [IntKind.wrap, IntKind.signed, IntKind.bits]; omega
  rw [ew]
  refine rFixed_ok h (by omega) (by omega) fun s2 w1 h1 => tyI (k := .sl) ?_
  refine rmore_ok h1 hx.cons (by omega) fun w4 h2 => tyI (k := .int .u32) ?_
  have hlt := crc_lt p
  refine rFixed_ok h2 (by omega) (by omega) fun s8 w7 h3 => tyI (k := .sl) ?_
  have hl2 : (fixedB ((p.length : Int)).toNat).length = 4 := by simp [fixedB]
  have hl8 : (fixedB (((crc p).toNat : Int)).toNat).length = 4 := by simp [fixedB]
  refine appBytes h3.swap (Sat.rdc h3) (by omega) fun s9 w10 h4 => ?_
  refine appBytes h4 (hx w10 h4.tail.tail) (by rw [List.length_append]; omega) fun s11 w12 h5 => ?_
  have e : fixedB ((p.length : Int)).toNat ++ fixedB (((crc p).toNat : Int)).toNat ++ p = frm p := rfl
  rw [e] at h5
  exact hK s11 w12 (h5.cut 1)
end
end Go.Proofs.YtbpcichakchpkaaGreatDoor
