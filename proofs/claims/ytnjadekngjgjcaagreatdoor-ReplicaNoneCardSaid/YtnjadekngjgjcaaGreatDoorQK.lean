/- Layer 2 in plain Lean: check sums, by a table and bit by bit. -/
import Derived.Test.YtnjadekngjgjcaaGreatDoorE2
namespace Go.Pk
open Go
def poly : BitVec 32 := 2197175160#32
def cStep (c : BitVec 32) : BitVec 32 := if c.getLsbD 0 = true then (c >>> 1) ^^^ poly else c >>> 1
def cSteps : Nat → BitVec 32 → BitVec 32
  | 0, c => c
  | n + 1, c => cSteps n (cStep c)
def tabE (i : Nat) : BitVec 32 := cSteps 8 (BitVec.ofNat 32 i)
def crcByte (c : BitVec 32) (x : UInt8) : BitVec 32 := tabE ((BitVec.ofNat 8 c.toNat) ^^^ x.toBitVec).toNat ^^^ (c >>> 8)
def crcMore (s : BitVec 32) (b : List UInt8) : BitVec 32 := ~~~ (b.foldl crcByte (~~~ s))
theorem bv_of (x : BitVec 32) : BitVec.ofInt 32 (x.toNat : Int) = x := by simp
theorem w_u32b (x : BitVec 32) : IntKind.u32.wrap (x.toNat : Int) = x.toNat := by
  have := x.isLt
  simp [IntKind.wrap, IntKind.signed, IntKind.bits]; omega
theorem fdiv_sh (x : BitVec 32) (k : Nat) : Int.fdiv (x.toNat : Int) (2 ^ k) = ((x >>> k).toNat : Int) := by
  rw [BitVec.toNat_ushiftRight, Nat.shiftRight_eq_div_pow]
  rw [show ((2 : Int) ^ k) = ((2 ^ k : Nat) : Int) by simp]
  rw [Int.fdiv_eq_ediv_of_nonneg _ (Int.natCast_nonneg _)]
  rfl
theorem and_one (x : BitVec 32) : ((x &&& BitVec.ofInt 32 1).toNat : Int) = if x.getLsbD 0 = true then 1 else 0 := by
  have e : (BitVec.ofInt 32 1) = 1#32 := by decide
  rw [e]
  have h : (x &&& 1#32).toNat = x.toNat % 2 := by
    rw [BitVec.toNat_and]
    show x.toNat &&& 1 = _
    exact Nat.and_one_is_mod _
  rw [h]
  have h2 : x.getLsbD 0 = decide (x.toNat % 2 = 1) := by simp [BitVec.getLsbD, Nat.testBit_zero]
  rw [h2]
  by_cases h3 : x.toNat % 2 = 1
  · simp [h3]
  · have : x.toNat % 2 = 0 := by omega
    simp [this]
/-! ### the table's way and the reference's are one -/
theorem ones_xor (s : BitVec 32) : BitVec.ofInt 32 (if IntKind.u32.signed = true then -1 else IntKind.u32.max) ^^^ s = ~~~ s := by
  have : BitVec.ofInt 32 (if IntKind.u32.signed = true then -1 else IntKind.u32.max) = BitVec.allOnes 32 := by decide
  rw [this, BitVec.allOnes_xor]
theorem idx8 (c : BitVec 32) (x : UInt8) : BitVec.ofInt 8 (IntKind.u8.wrap (c.toNat : Int)) ^^^ BitVec.ofInt 8 (x.toNat : Int) = BitVec.ofNat 8 c.toNat ^^^ x.toBitVec := by
  have e1 : IntKind.u8.wrap (c.toNat : Int) = ((c.toNat % 256 : Nat) : Int) := by
    simp [IntKind.wrap, IntKind.signed, IntKind.bits]
  rw [e1]
  congr 1
  · apply BitVec.eq_of_toNat_eq
    simp; omega
  · apply BitVec.eq_of_toNat_eq
    simp
theorem w_u8b (x : BitVec 8) : IntKind.u8.wrap (x.toNat : Int) = x.toNat := by
  have := x.isLt
  simp [IntKind.wrap, IntKind.signed, IntKind.bits]; omega
def crc (b : List UInt8) : BitVec 32 := crcMore 0#32 b
end Go.Pk
