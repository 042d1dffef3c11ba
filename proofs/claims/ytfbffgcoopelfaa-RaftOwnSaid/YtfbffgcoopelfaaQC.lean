/- Layer 3 in plain Lean: the forms, and how they are taken. -/
import Derived.Test.YtfbffgcoopelfaaPkS4
namespace Go.Pk
open Go
def vB (b : UInt8) : Value := .int .u8 b.toNat
def vI (n : Int) : Value := .int .i64 n
def uintB (n : Nat) : List UInt8 := if n ≤ 127 then [UInt8.ofNat n] else UInt8.ofNat (n % 128 + 128) :: uintB (n / 128)
termination_by n
decreasing_by omega
def zig (n : Int) : Nat := if 0 ≤ n then (2 * n).toNat else (-2 * n - 1).toNat
def zag (n : Nat) : Int := if n % 2 = 0 then ((n / 2 : Nat) : Int) else -((n / 2 : Nat) : Int) - 1
def intB (n : Int) : List UInt8 := uintB (zig n)
def flagB (b : Bool) : List UInt8 := [if b then 1 else 0]
def fixedB (n : Nat) : List UInt8 := [UInt8.ofNat n, UInt8.ofNat (n / 256), UInt8.ofNat (n / 65536), UInt8.ofNat (n / 16777216)]
def bytesB (b : List UInt8) : List UInt8 := uintB b.length ++ b
def intsB (l : List Int) : List UInt8 := uintB l.length ++ l.flatMap intB

theorem uintB_len (k : Nat) : ∀ n, n < 128 ^ (k + 1) → (uintB n).length ≤ k + 1 := by
  induction k with
  | zero => intro n h; unfold uintB; rw [if_pos (by omega)]; simp
  | succ k ih =>
    intro n h
    unfold uintB
    split
    · simp
    · have := ih (n / 128) (by rw [Nat.pow_succ] at h; omega)
      simp; omega
theorem uintB_len10 (n : Nat) (h : n < 2 ^ 64) : (uintB n).length ≤ 10 := uintB_len 9 n (by omega)
theorem uintB_pos (n : Nat) : 0 < (uintB n).length := by unfold uintB; split <;> simp
theorem uintB_small {n : Nat} (h : n ≤ 127) : uintB n = [UInt8.ofNat n] := by unfold uintB; rw [if_pos h]
theorem uintB_big {n : Nat} (h : ¬ n ≤ 127) : uintB n = UInt8.ofNat (n % 128 + 128) :: uintB (n / 128) := by
  conv => lhs; unfold uintB
  rw [if_neg h]
theorem zig_lt {n : Int} (h0 : -9223372036854775808 ≤ n) (h1 : n < 9223372036854775808) : zig n < 2 ^ 64 := by
  unfold zig; split <;> omega
theorem zag_zig (n : Int) : zag (zig n) = n := by
  unfold zag zig
  split <;> split <;> omega
theorem zig_zag (n : Nat) : zig (zag n) = n := by
  unfold zag zig
  split <;> split <;> omega
theorem vB_one (b : UInt8) : (vB b).oneCell' = true := rfl
theorem vB_all (l : List UInt8) : ∀ u ∈ l.map vB, u.oneCell' = true := by
  intro u hu
  obtain ⟨b, _, rfl⟩ := List.mem_map.1 hu
  rfl
theorem vI_all (l : List Int) : ∀ u ∈ l.map vI, u.oneCell' = true := by
  intro u hu
  obtain ⟨b, _, rfl⟩ := List.mem_map.1 hu
  rfl
theorem vB_inj {a b : List UInt8} (h : a.map vB = b.map vB) : a = b := by
  induction a generalizing b with
  | nil => cases b <;> simp at h ⊢
  | cons x a ih =>
    cases b with
    | nil => simp at h
    | cons y b =>
      simp only [List.map_cons, List.cons.injEq, vB, Value.int.injEq, true_and] at h
      have := UInt8.toNat_inj.1 (show x.toNat = y.toNat by omega)
      rw [ih h.2, this]

/-! ### numbers of a kind -/
theorem w_i64 {n : Int} (h0 : -9223372036854775808 ≤ n) (h1 : n < 9223372036854775808) : IntKind.i64.wrap n = n := by
  simp only [IntKind.wrap, IntKind.signed, IntKind.bits, Bool.true_and]
  split <;> rename_i h <;> simp at h <;> omega
theorem w_i64_hi {n : Int} (h0 : 9223372036854775808 ≤ n) (h1 : n < 18446744073709551616) : IntKind.i64.wrap n = n - 18446744073709551616 := by
  simp only [IntKind.wrap, IntKind.signed, IntKind.bits, Bool.true_and]
  split <;> rename_i h <;> simp at h <;> omega
theorem w_u64 {n : Int} (h0 : 0 ≤ n) (h1 : n < 18446744073709551616) : IntKind.u64.wrap n = n := by
  simp [IntKind.wrap, IntKind.signed, IntKind.bits]; omega
theorem w_u64' (n : Int) : IntKind.u64.wrap n = n % 18446744073709551616 := by simp [IntKind.wrap, IntKind.signed, IntKind.bits]
theorem w_u32 {n : Int} (h0 : 0 ≤ n) (h1 : n < 4294967296) : IntKind.u32.wrap n = n := by
  simp [IntKind.wrap, IntKind.signed, IntKind.bits]; omega
theorem w_u32' (n : Int) : IntKind.u32.wrap n = n % 4294967296 := by simp [IntKind.wrap, IntKind.signed, IntKind.bits]
theorem w_u8' (n : Int) : IntKind.u8.wrap n = n % 256 := by simp [IntKind.wrap, IntKind.signed, IntKind.bits]
theorem w_u8_of (n : Int) (h : 0 ≤ n) : IntKind.u8.wrap n = ((UInt8.ofNat n.toNat).toNat : Int) := by rw [w_u8']; simp; omega
theorem fdiv_pos (n : Int) {d : Int} (h : 0 ≤ d) : Int.fdiv n d = n / d := Int.fdiv_eq_ediv_of_nonneg _ h
theorem or128 (n : Int) (h : 0 ≤ n) : IntKind.u8.wrap ↑(BitVec.ofInt 8 (IntKind.u8.wrap n) ||| BitVec.ofInt 8 128).toNat = ((UInt8.ofNat (n.toNat % 128 + 128)).toNat : Int) := by
  rw [w_u8', w_u8']
  have hk : n % 256 = (((n.toNat % 256 : Nat)) : Int) := by omega
  rw [hk]
  have hx : (n.toNat % 128 + 128) = (n.toNat % 256) % 128 + 128 := by omega
  rw [hx]
  have hlt : n.toNat % 256 < 256 := Nat.mod_lt _ (by decide)
  generalize n.toNat % 256 = k at hlt
  have key : ∀ k : Fin 256, ((BitVec.ofInt 8 ((k.val : Nat) : Int) ||| BitVec.ofInt 8 128).toNat : Int) % 256 = ((UInt8.ofNat (k.val % 128 + 128)).toNat : Int) := by decide +kernel
  exact key ⟨k, hlt⟩
theorem and127 (b : UInt8) : IntKind.u8.wrap ↑(BitVec.ofInt 8 (b.toNat : Int) &&& BitVec.ofInt 8 127).toNat = ((b.toNat % 128 : Nat) : Int) := by
  have hlt : b.toNat < 256 := b.toNat_lt
  generalize b.toNat = k at hlt
  rw [w_u8']
  have key : ∀ k : Fin 256, ((BitVec.ofInt 8 ((k.val : Nat) : Int) &&& BitVec.ofInt 8 127).toNat : Int) % 256 = ((k.val % 128 : Nat) : Int) := by decide +kernel
  exact key ⟨k, hlt⟩
theorem zig_code {x : Int} (h0 : -9223372036854775808 ≤ x) (h1 : x < 9223372036854775808) :
    IntKind.u64.wrap (↑(BitVec.ofInt 64 (IntKind.u64.wrap (IntKind.u64.wrap x * 2 ^ 1)) ^^^ BitVec.ofInt 64 (IntKind.u64.wrap (Int.fdiv x (2 ^ 63)))).toNat : Int) = (zig x : Int) := by
  have hxor : ∀ v : BitVec 64, IntKind.u64.wrap (v.toNat : Int) = (v.toNat : Int) := fun v => w_u64 (by omega) (by have := v.isLt; omega)
  rw [hxor, fdiv_pos _ (by decide)]
  simp only [w_u64']
  by_cases hx : 0 ≤ x
  · have h2 : x / 2 ^ 63 % 18446744073709551616 = 0 := by omega
    have h3 : x % 18446744073709551616 * 2 ^ 1 % 18446744073709551616 = 2 * x := by omega
    rw [h2, h3]
    simp [zig, hx, BitVec.toNat_ofInt]
    omega
  · have h2 : x / 2 ^ 63 % 18446744073709551616 = 18446744073709551615 := by omega
    have h3 : x % 18446744073709551616 * 2 ^ 1 % 18446744073709551616 = 18446744073709551616 + 2 * x := by omega
    rw [h2, h3]
    have h4 : BitVec.ofInt 64 18446744073709551615 = BitVec.allOnes 64 := by decide
    rw [h4, BitVec.xor_allOnes]
    simp [zig, hx, BitVec.toNat_not, BitVec.toNat_ofInt]
    omega
theorem zag_code {n : Nat} (h : n < 2 ^ 64) :
    IntKind.i64.wrap (↑(BitVec.ofInt 64 (IntKind.i64.wrap (Int.fdiv (n : Int) (2 ^ 1))) ^^^ BitVec.ofInt 64 (IntKind.i64.wrap (0 - IntKind.i64.wrap (IntKind.u64.wrap (↑(BitVec.ofInt 64 (n : Int) &&& BitVec.ofInt 64 1).toNat : Int))))).toNat : Int) = zag n := by
  rw [fdiv_pos _ (by decide)]
  have h1 : (BitVec.ofInt 64 (n : Int) &&& BitVec.ofInt 64 1).toNat = n % 2 := by
    have : (BitVec.ofInt 64 (n : Int)).toNat = n := by simp [BitVec.toNat_ofInt]; omega
    rw [BitVec.toNat_and, this]
    show n &&& 1 = n % 2
    exact Nat.and_one_is_mod n
  rw [h1]
  have hd : IntKind.i64.wrap ((n : Int) / 2 ^ 1) = (n : Int) / 2 := by rw [w_i64 (by omega) (by omega)]; rfl
  rw [hd]
  rcases Nat.mod_two_eq_zero_or_one n with h2 | h2
  · rw [h2]
    have : IntKind.i64.wrap (0 - IntKind.i64.wrap (IntKind.u64.wrap ((0 : Nat) : Int))) = 0 := by decide
    rw [this]
    have h3 : (BitVec.ofInt 64 ((n : Int) / 2) ^^^ BitVec.ofInt 64 0).toNat = n / 2 := by
      simp [BitVec.toNat_ofInt]; omega
    rw [h3, w_i64 (by omega) (by omega)]
    simp [zag, h2]
  · rw [h2]
    have : IntKind.i64.wrap (0 - IntKind.i64.wrap (IntKind.u64.wrap ((1 : Nat) : Int))) = -1 := by decide
    rw [this]
    have h4 : BitVec.ofInt 64 (-1) = BitVec.allOnes 64 := by decide
    have h3 : (BitVec.ofInt 64 ((n : Int) / 2) ^^^ BitVec.ofInt 64 (-1)).toNat = 18446744073709551615 - n / 2 := by
      rw [h4, BitVec.xor_allOnes, BitVec.toNat_not]
      simp [BitVec.toNat_ofInt]; omega
    rw [h3]
    have hv : ((18446744073709551615 - n / 2 : Nat) : Int) = 18446744073709551615 - (n : Int) / 2 := by omega
    rw [hv]
    have hz : zag n = -((n / 2 : Nat) : Int) - 1 := by unfold zag; rw [if_neg (by omega)]
    rw [hz, w_i64_hi (by omega) (by omega)]
    omega

/-! ### taking -/
def rdU : List UInt8 → Nat → Nat → Int ⊕ (Nat × Nat)
  | [], _, _ => .inl 6
  | b :: l, k, n => if (k = 9 ∧ b.toNat > 1) ∨ (b.toNat = 0 ∧ k > 0) then .inl 7 else
    if b.toNat < 128 then .inr (n + b.toNat * 128 ^ k, k + 1) else rdU l (k + 1) (n + (b.toNat - 128) * 128 ^ k)
def takeU (t : List UInt8) (p : Nat) (e : Int) : Nat × Nat × Int :=
  if e ≠ 0 then (0, p, e) else match rdU (t.drop p) 0 0 with
    | .inl e' => (0, p, e')
    | .inr (n, c) => (n, p + c, 0)
def takeI (t : List UInt8) (p : Nat) (e : Int) : Int × Nat × Int := (zag (takeU t p e).1, (takeU t p e).2)
def takeF (t : List UInt8) (p : Nat) (e : Int) : Bool × Nat × Int :=
  let x := takeU t p e
  if x.1 > 1 then (false, x.2.1, if x.2.2 = 0 then 7 else x.2.2) else (x.1 == 1, x.2.1, x.2.2)
def fixedN : List UInt8 → Nat
  | a :: b :: c :: d :: _ => a.toNat + b.toNat * 256 + c.toNat * 65536 + d.toNat * 16777216
  | _ => 0
def takeX (t : List UInt8) (p : Nat) (e : Int) : Nat × Nat × Int :=
  if e ≠ 0 then (0, p, e) else if t.length - p < 4 then (0, p, 6) else (fixedN (t.drop p), p + 4, 0)
def takeB (t : List UInt8) (p : Nat) (e : Int) : List UInt8 × Nat × Int :=
  let x := takeU t p e
  if x.2.2 ≠ 0 then ([], x.2.1, x.2.2) else if x.1 > 4096 then ([], x.2.1, 2) else if x.1 > t.length - x.2.1 then ([], x.2.1, 6) else ((t.drop x.2.1).take x.1, x.2.1 + x.1, 0)
def takeN (t : List UInt8) : Nat → Nat → List Int → List Int × Nat × Int
  | 0, p, acc => (acc, p, 0)
  | n + 1, p, acc => let x := takeI t p 0; if x.2.2 ≠ 0 then ([], x.2.1, x.2.2) else takeN t n x.2.1 (acc ++ [x.1])
def takeL (t : List UInt8) (p : Nat) (e : Int) : List Int × Nat × Int :=
  let x := takeU t p e
  if x.2.2 ≠ 0 then ([], x.2.1, x.2.2) else if x.1 > 4096 then ([], x.2.1, 2) else takeN t x.1 x.2.1 []
def endE (t : List UInt8) (p : Nat) (e : Int) : Int := if e = 0 ∧ p < t.length then 6 else e

def rdOk (k m : Nat) : Int ⊕ (Nat × Nat) → Prop
  | .inl e => e = 6 ∨ e = 7
  | .inr x => x.1 < 2 ^ 64 ∧ x.2 ≤ k + m ∧ k < x.2 ∧ x.2 ≤ 10
theorem rdU_bound : ∀ (l : List UInt8) (k n : Nat), k ≤ 9 → n < 128 ^ k → rdOk k l.length (rdU l k n) := by
  intro l
  induction l with
  | nil => intro k n _ _; simp [rdU, rdOk]
  | cons b l ih =>
    intro k n hk hn
    simp only [rdU]
    by_cases h1 : (k = 9 ∧ b.toNat > 1) ∨ (b.toNat = 0 ∧ k > 0)
    · rw [if_pos h1]; simp [rdOk]
    · rw [if_neg h1]
      by_cases h2 : b.toNat < 128
      · rw [if_pos h2]
        refine ⟨?_, (by show k + 1 ≤ k + (l.length + 1); omega), (by show k < k + 1; omega), (by show k + 1 ≤ 10; omega)⟩
        simp only
        rcases Nat.lt_or_ge k 9 with h9 | h9
        · have : 128 ^ (k + 1) ≤ 128 ^ 9 := Nat.pow_le_pow_right (by decide) (by omega)
          have h3 : b.toNat * 128 ^ k ≤ 127 * 128 ^ k := Nat.mul_le_mul_right _ (by omega)
          rw [Nat.pow_succ] at this
          omega
        · have : k = 9 := by omega
          subst this
          have : b.toNat ≤ 1 := by omega
          have h3 : b.toNat * 128 ^ 9 ≤ 1 * 128 ^ 9 := Nat.mul_le_mul_right _ this
          omega
      · rw [if_neg h2]
        have hk9 : k < 9 := by
          rcases Nat.lt_or_ge k 9 with h | h
          · exact h
          · exact absurd (Or.inl ⟨by omega, by omega⟩) h1
        have hb : b.toNat < 256 := b.toNat_lt
        have h3 : (b.toNat - 128) * 128 ^ k ≤ 127 * 128 ^ k := Nat.mul_le_mul_right _ (by omega)
        have := ih (k + 1) (n + (b.toNat - 128) * 128 ^ k) (by omega) (by rw [Nat.pow_succ]; omega)
        revert this
        cases rdU l (k + 1) (n + (b.toNat - 128) * 128 ^ k) with
        | inl e => exact id
        | inr x => simp only [List.length_cons, rdOk]; intro h; omega
theorem takeU_bound {t : List UInt8} {p : Nat} {e : Int} (hp : p ≤ t.length) : (takeU t p e).1 < 2 ^ 64 ∧ p ≤ (takeU t p e).2.1 ∧ (takeU t p e).2.1 ≤ t.length ∧ ((takeU t p e).2.2 ≠ 0 → (takeU t p e).1 = 0) ∧ (e ≠ 0 → takeU t p e = (0, p, e)) := by
  unfold takeU
  split
  · simp; omega
  · rename_i he
    have := rdU_bound (t.drop p) 0 0 (by omega) (by simp)
    revert this
    cases rdU (t.drop p) 0 0 with
    | inl e' => simp [rdOk, hp]; intro _ h; exact absurd h he
    | inr x => obtain ⟨m, c⟩ := x; simp [rdOk]; omega
end Go.Pk
