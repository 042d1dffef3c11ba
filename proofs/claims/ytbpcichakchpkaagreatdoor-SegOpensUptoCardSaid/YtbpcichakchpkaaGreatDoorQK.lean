/- Layer 2 in plain Lean: check sums, by a table and bit by bit. -/
import Derived.Test.YtbpcichakchpkaaGreatDoorE2
namespace Go.Pk
open Go
def poly : BitVec 32 := 2197175160#32
def cStep (c : BitVec 32) : BitVec 32 := if c.getLsbD 0 = true then (c >>> 1) ^^^ poly else c >>> 1
def cSteps : Nat → BitVec 32 → BitVec 32
  | 0, c => c
  | n + 1, c => cSteps n (cStep c)
def tabE (i : Nat) : BitVec 32 := cSteps 8 (BitVec.ofNat 32 i)
def crcByte (c : BitVec 32) (x : UInt8) : BitVec 32 := tabE ((BitVec.ofNat 8 c.toNat) ^^^ x.toBitVec).toNat ^^^ (c >>> 8)
def crcMore (s : BitVec 32) (b : List UInt8) : BitVec 32 := ~~~ (b.foldl crcByte (~~~ s))
/-- one bit, as the reference takes it -/
def rStep (r : BitVec 32) (i : Bool) : BitVec 32 := if (r.getLsbD 0 ^^ i) = true then (r >>> 1) ^^^ poly else r >>> 1
def rSteps (r : BitVec 32) (x : UInt8) : Nat → Nat → BitVec 32
  | 0, _ => r
  | n + 1, k => rSteps (rStep r (x.toBitVec.getLsbD k)) x n (k + 1)
def rByte (r : BitVec 32) (x : UInt8) : BitVec 32 := rSteps r x 8 0
theorem bv_of (x : BitVec 32) : BitVec.ofInt 32 (x.toNat : Int) = x := by simp
theorem w_u32b (x : BitVec 32) : IntKind.u32.wrap (x.toNat : Int) = x.toNat := by
  have := x.isLt
  simp [IntKind.wrap, IntKind.signed, IntKind.bits]; omega
theorem fdiv_sh (x : BitVec 32) (k : Nat) : Int.fdiv (x.toNat : Int) (2 ^ k) = ((x >>> k).toNat : Int) := by
  rw [BitVec.toNat_ushiftRight, Nat.shiftRight_eq_div_pow]
  rw [show ((2 : Int) ^ k) = ((2 ^ k : Nat) : Int) by simp]
  rw [Int.fdiv_eq_ediv_of_nonneg _ (Int.natCast_nonneg _)]
  rfl
theorem and_one (x : BitVec 32) : ((x &&& BitVec.ofInt 32 1).toNat : Int) = if x.getLsbD 0 = true then 1 else 0 := by
  have e : (BitVec.ofInt 32 1) = 1#32 := by decide
  rw [e]
  have h : (x &&& 1#32).toNat = x.toNat % 2 := by
    rw [BitVec.toNat_and]
    show x.toNat &&& 1 = _
    exact Nat.and_one_is_mod _
  rw [h]
  have h2 : x.getLsbD 0 = decide (x.toNat % 2 = 1) := by simp [BitVec.getLsbD, Nat.testBit_zero]
  rw [h2]
  by_cases h3 : x.toNat % 2 = 1
  · simp [h3]
  · have : x.toNat % 2 = 0 := by omega
    simp [this]
/-! ### the table's way and the reference's are one -/
theorem cStep_bit (c : BitVec 32) (i : Nat) : (cStep c).getLsbD i = (c.getLsbD (i + 1) ^^ (c.getLsbD 0 && poly.getLsbD i)) := by
  unfold cStep
  cases h : c.getLsbD 0
  · simp [BitVec.getLsbD_ushiftRight, Nat.add_comm]
  · simp [BitVec.getLsbD_ushiftRight, Nat.add_comm]
theorem cStep_xor (a b : BitVec 32) : cStep (a ^^^ b) = cStep a ^^^ cStep b := by
  apply BitVec.eq_of_getLsbD_eq
  intro i hi
  simp only [cStep_bit, BitVec.getLsbD_xor]
  cases a.getLsbD (i + 1) <;> cases b.getLsbD (i + 1) <;> cases a.getLsbD 0 <;> cases b.getLsbD 0 <;> cases poly.getLsbD i <;> rfl
theorem cSteps_xor : ∀ (n : Nat) (a b : BitVec 32), cSteps n (a ^^^ b) = cSteps n a ^^^ cSteps n b
  | 0, _, _ => rfl
  | n + 1, a, b => by rw [cSteps, cStep_xor, cSteps_xor n]; rfl
theorem cSteps_high : ∀ (n : Nat) (b : BitVec 32), (∀ i, i < n → b.getLsbD i = false) → cSteps n b = b >>> n
  | 0, b, _ => by simp [cSteps]
  | n + 1, b, h => by
    have h0 : b.getLsbD 0 = false := h 0 (by omega)
    have e : cStep b = b >>> 1 := by unfold cStep; rw [h0]; simp
    rw [cSteps, e, cSteps_high n]
    · rw [← BitVec.shiftRight_add, Nat.add_comm 1 n]
    · intro i hi
      rw [BitVec.getLsbD_ushiftRight]
      exact h (1 + i) (by omega)
theorem rStep_eq (r : BitVec 32) (i : Bool) : rStep r i = cStep (r ^^^ (if i then 1#32 else 0#32)) := by
  apply BitVec.eq_of_getLsbD_eq
  intro j hj
  rw [cStep_bit]
  have h1 : ∀ k, (1#32 : BitVec 32).getLsbD (k + 1) = false := fun k => by simp [BitVec.getLsbD_one]
  have h2 : (1#32 : BitVec 32).getLsbD 0 = true := by decide
  have h3 : (0#32 : BitVec 32).getLsbD 0 = false := by decide
  have h4 : ∀ k, (0#32 : BitVec 32).getLsbD (k + 1) = false := fun k => by simp
  have e1 : (r ^^^ (if i then 1#32 else 0#32)).getLsbD (j + 1) = r.getLsbD (j + 1) := by
    rw [BitVec.getLsbD_xor]
    cases i
    · rw [if_neg (by decide), h4]; simp
    · rw [if_pos rfl, h1]; simp
  have e2 : (r ^^^ (if i then 1#32 else 0#32)).getLsbD 0 = (r.getLsbD 0 ^^ i) := by
    rw [BitVec.getLsbD_xor]
    cases i
    · rw [if_neg (by decide), h3]
    · rw [if_pos rfl, h2]
  rw [e1, e2]
  unfold rStep
  generalize (r.getLsbD 0 ^^ i) = q
  cases q
  · simp [BitVec.getLsbD_ushiftRight, Nat.add_comm]
  · simp [BitVec.getLsbD_ushiftRight, Nat.add_comm]
/-- the bits of a byte from the k-th one on, at their places -/
def hiBits (x : UInt8) (k : Nat) : BitVec 32 := (x.toBitVec.zeroExtend 32) >>> k
theorem rSteps_eq (x : UInt8) : ∀ (n k : Nat) (r : BitVec 32), n + k = 8 → rSteps r x n k = cSteps n (r ^^^ hiBits x k)
  | 0, k, r, h => by
    have : k = 8 := by omega
    subst this
    have e : hiBits x 8 = 0#32 := by
      apply BitVec.eq_of_getLsbD_eq
      intro i hi
      simp [hiBits, BitVec.getLsbD_ushiftRight]
    rw [e]
    simp [rSteps, cSteps]
  | n + 1, k, r, h => by
    rw [rSteps, rSteps_eq x n (k + 1) _ (by omega), cSteps, rStep_eq]
    congr 1
    have e : hiBits x k = (if x.toBitVec.getLsbD k then 1#32 else 0#32) ^^^ (hiBits x k &&& ~~~ 1#32) := by
      apply BitVec.eq_of_getLsbD_eq
      intro i hi
      cases i with
      | zero =>
        have a1 : (hiBits x k).getLsbD 0 = x.toBitVec.getLsbD k := by
          simp [hiBits, BitVec.getLsbD_ushiftRight, BitVec.getLsbD_setWidth]
          intro; omega
        rw [BitVec.getLsbD_xor, BitVec.getLsbD_and, a1]
        cases x.toBitVec.getLsbD k <;> decide
      | succ i =>
        rw [BitVec.getLsbD_xor, BitVec.getLsbD_and]
        have b1 : (if x.toBitVec.getLsbD k then 1#32 else 0#32 : BitVec 32).getLsbD (i + 1) = false := by split <;> simp [BitVec.getLsbD_one]
        have b2 : (~~~ (1#32 : BitVec 32)).getLsbD (i + 1) = true := by
          rw [BitVec.getLsbD_not]
          simp [BitVec.getLsbD_one]; omega
        rw [b1, b2]; simp
    have e2 : cStep (hiBits x k &&& ~~~ 1#32) = hiBits x (k + 1) := by
      apply BitVec.eq_of_getLsbD_eq
      intro i hi
      rw [cStep_bit, BitVec.getLsbD_and, BitVec.getLsbD_and]
      have b0 : (~~~ (1#32 : BitVec 32)).getLsbD 0 = false := by decide
      rw [b0]
      simp only [Bool.and_false, Bool.false_and, Bool.xor_false]
      by_cases h31 : i = 31
      · subst h31
        have a1 : (hiBits x k).getLsbD 32 = false := by simp
        have a2 : (hiBits x (k + 1)).getLsbD 31 = false := by
          simp [hiBits, BitVec.getLsbD_ushiftRight, BitVec.getLsbD_setWidth]
        rw [show 31 + 1 = 32 by rfl, a1, a2]; rfl
      · have b2 : (~~~ (1#32 : BitVec 32)).getLsbD (i + 1) = true := by
          rw [BitVec.getLsbD_not]
          simp [BitVec.getLsbD_one]; omega
        rw [b2]
        simp only [hiBits, BitVec.getLsbD_ushiftRight, Bool.and_true]
        congr 1; omega
    conv => rhs; rw [e]
    rw [← BitVec.xor_assoc, cStep_xor (r ^^^ (if x.toBitVec.getLsbD k then 1#32 else 0#32)) (hiBits x k &&& ~~~ 1#32), e2]
theorem crcByte_eq (c : BitVec 32) (x : UInt8) : crcByte c x = rByte c x := by
  unfold rByte
  rw [rSteps_eq x 8 0 c rfl]
  let y := c ^^^ hiBits x 0
  let lo : BitVec 32 := BitVec.ofNat 32 ((BitVec.ofNat 8 c.toNat) ^^^ x.toBitVec).toNat
  have hlo : ∀ i, lo.getLsbD i = (decide (i < 8) && y.getLsbD i) := fun i => by
    have a1 : (hiBits x 0).getLsbD i = x.toBitVec.getLsbD i := by
      have : hiBits x 0 = x.toBitVec.zeroExtend 32 := by simp [hiBits]
      rw [this]
      simp [BitVec.getLsbD_setWidth]
      intro h
      by_cases h8 : i < 8
      · omega
      · rw [BitVec.getLsbD_of_ge x.toBitVec i (by omega)] at h; cases h
    show (BitVec.ofNat 32 ((BitVec.ofNat 8 c.toNat) ^^^ x.toBitVec).toNat).getLsbD i = (decide (i < 8) && (c ^^^ hiBits x 0).getLsbD i)
    rw [BitVec.getLsbD_ofNat, BitVec.testBit_toNat, BitVec.getLsbD_xor, BitVec.getLsbD_xor, a1, BitVec.getLsbD_ofNat, BitVec.testBit_toNat]
    by_cases h8 : i < 8
    · have h32 : i < 32 := by omega
      simp [h8, h32]
    · rw [BitVec.getLsbD_of_ge x.toBitVec i (by omega)]
      simp [h8]
  have hy : y = lo ^^^ (y ^^^ lo) := by
    apply BitVec.eq_of_getLsbD_eq
    intro i hi
    simp only [BitVec.getLsbD_xor]
    cases y.getLsbD i <;> cases lo.getLsbD i <;> rfl
  show _ = cSteps 8 y
  rw [hy, cSteps_xor, cSteps_high 8 (y ^^^ lo)]
  · unfold crcByte tabE
    congr 1
    apply BitVec.eq_of_getLsbD_eq
    intro i hi
    have a1 : (hiBits x 0).getLsbD (8 + i) = false := by
      have : hiBits x 0 = x.toBitVec.zeroExtend 32 := by simp [hiBits]
      rw [this]
      simp [BitVec.getLsbD_setWidth]
    rw [BitVec.getLsbD_ushiftRight, BitVec.getLsbD_ushiftRight, BitVec.getLsbD_xor, hlo]
    show c.getLsbD (8 + i) = ((c ^^^ hiBits x 0).getLsbD (8 + i) ^^ (decide (8 + i < 8) && (c ^^^ hiBits x 0).getLsbD (8 + i)))
    rw [BitVec.getLsbD_xor, a1]
    have : ¬ (8 + i < 8) := by omega
    simp [this]
  · intro i hi
    rw [BitVec.getLsbD_xor, hlo]
    simp [hi]
theorem crcFold_eq (b : List UInt8) : ∀ c, b.foldl crcByte c = b.foldl rByte c := by
  induction b with
  | nil => intro c; rfl
  | cons x b ih => intro c; rw [List.foldl_cons, List.foldl_cons, crcByte_eq, ih]
theorem ones_xor (s : BitVec 32) : BitVec.ofInt 32 (if IntKind.u32.signed = true then -1 else IntKind.u32.max) ^^^ s = ~~~ s := by
  have : BitVec.ofInt 32 (if IntKind.u32.signed = true then -1 else IntKind.u32.max) = BitVec.allOnes 32 := by decide
  rw [this, BitVec.allOnes_xor]
theorem idx8 (c : BitVec 32) (x : UInt8) : BitVec.ofInt 8 (IntKind.u8.wrap (c.toNat : Int)) ^^^ BitVec.ofInt 8 (x.toNat : Int) = BitVec.ofNat 8 c.toNat ^^^ x.toBitVec := by
  have e1 : IntKind.u8.wrap (c.toNat : Int) = ((c.toNat % 256 : Nat) : Int) := by
    simp [IntKind.wrap, IntKind.signed, IntKind.bits]
  rw [e1]
  congr 1
  · apply BitVec.eq_of_toNat_eq
    simp; omega
  · apply BitVec.eq_of_toNat_eq
    simp
theorem w_u8b (x : BitVec 8) : IntKind.u8.wrap (x.toNat : Int) = x.toNat := by
  have := x.isLt
  simp [IntKind.wrap, IntKind.signed, IntKind.bits]; omega
def crc (b : List UInt8) : BitVec 32 := crcMore 0#32 b
end Go.Pk
