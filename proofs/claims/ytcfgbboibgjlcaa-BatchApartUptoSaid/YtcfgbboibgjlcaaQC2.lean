/- Layer 3 in plain Lean: what was laid is taken again. -/
import Derived.Test.YtcfgbboibgjlcaaQC
namespace Go.Pk
open Go
theorem rdU_uintB (m : Nat) : ∀ (n : Nat), n ≤ m → ∀ (k acc : Nat) (r : List UInt8), n * 128 ^ k < 2 ^ 64 → (k = 0 ∨ 0 < n) → k ≤ 9 →
    rdU (uintB n ++ r) k acc = .inr (acc + n * 128 ^ k, k + (uintB n).length) := by
  induction m with
  | zero =>
    intro n hn k acc r _ h0 _
    have : n = 0 := by omega
    subst this
    have hk : k = 0 := by omega
    subst hk
    rw [uintB_small (by decide)]
    simp [rdU]
  | succ m ih =>
    intro n hn k acc r hlt h0 hk
    by_cases hs : n ≤ 127
    · rw [uintB_small hs]
      have hb : (UInt8.ofNat n).toNat = n := by simp; omega
      simp only [List.cons_append, List.nil_append, rdU, hb]
      rw [if_neg, if_pos (by omega)]
      · rfl
      · rintro (⟨h9, h1⟩ | ⟨h2, h3⟩)
        · subst h9; omega
        · omega
    · rw [uintB_big hs]
      have hb : (UInt8.ofNat (n % 128 + 128)).toNat = n % 128 + 128 := by simp; omega
      have hk9 : k < 9 := by
        rcases Nat.lt_or_ge k 9 with h | h
        · exact h
        · have : k = 9 := by omega
          subst this; omega
      simp only [List.cons_append, rdU, hb]
      rw [if_neg (by omega), if_neg (by omega)]
      have e1 : n / 128 * 128 ^ (k + 1) = n / 128 * 128 * 128 ^ k := by rw [Nat.pow_succ, Nat.mul_assoc, Nat.mul_comm (128 ^ k) 128]
      have e2 : n / 128 * 128 * 128 ^ k ≤ n * 128 ^ k := Nat.mul_le_mul_right _ (by omega)
      rw [ih (n / 128) (by omega) (k + 1) _ r (by omega) (by omega) (by omega)]
      have e3 : n * 128 ^ k = (n / 128 * 128) * 128 ^ k + (n % 128) * 128 ^ k := by rw [← Nat.add_mul]; congr 1; omega
      have e4 : n % 128 + 128 - 128 = n % 128 := by omega
      rw [e1, e3, e4, List.length_cons]
      generalize n / 128 * 128 * 128 ^ k = A
      generalize n % 128 * 128 ^ k = B
      generalize (uintB (n / 128)).length = L
      rw [show acc + B + A = acc + (A + B) by omega, show k + 1 + L = k + (L + 1) by omega]
theorem takeU_at {t r : List UInt8} {p n : Nat} (h : t.drop p = uintB n ++ r) (hn : n < 2 ^ 64) : takeU t p 0 = (n, p + (uintB n).length, 0) := by
  simp only [takeU, ne_eq, not_true_eq_false, if_false, h]
  rw [rdU_uintB n n (Nat.le_refl _) 0 0 r (by simpa using hn) (.inl rfl) (by omega)]
  simp
theorem takeI_at {t r : List UInt8} {p : Nat} {n : Int} (h : t.drop p = intB n ++ r) (h0 : -9223372036854775808 ≤ n) (h1 : n < 9223372036854775808) : takeI t p 0 = (n, p + (intB n).length, 0) := by
  simp only [takeI, takeU_at h (zig_lt h0 h1), zag_zig]; rfl
theorem flagB_eq (b : Bool) : flagB b = uintB (if b then 1 else 0) := by cases b <;> rw [uintB_small (by decide)] <;> rfl
theorem takeF_at {t r : List UInt8} {p : Nat} {b : Bool} (h : t.drop p = flagB b ++ r) : takeF t p 0 = (b, p + 1, 0) := by
  rw [flagB_eq] at h
  simp only [takeF, takeU_at h (by cases b <;> decide)]
  cases b <;> simp [uintB_small (show (0 : Nat) ≤ 127 by decide), uintB_small (show (1 : Nat) ≤ 127 by decide)]
theorem takeX_at {t r : List UInt8} {p n : Nat} (h : t.drop p = fixedB n ++ r) (hn : n < 2 ^ 32) : takeX t p 0 = (n, p + 4, 0) := by
  have hl := congrArg List.length h
  simp [fixedB] at hl
  simp only [takeX, ne_eq, not_true_eq_false, if_false]
  rw [if_neg (by omega), h]
  simp [fixedB, fixedN]
  omega
theorem drop_add {α : Type} {t a r : List α} {p : Nat} (h : t.drop p = a ++ r) : t.drop (p + a.length) = r := by
  rw [← List.drop_drop, h, List.drop_left]
theorem takeB_at {t r n : List UInt8} {p : Nat} (h : t.drop p = bytesB n ++ r) (hn : n.length ≤ 4096) : takeB t p 0 = (n, p + (bytesB n).length, 0) := by
  have h' : t.drop p = uintB n.length ++ (n ++ r) := by rw [h, bytesB, List.append_assoc]
  have hd := drop_add h'
  have hl := congrArg List.length hd
  simp at hl
  have e0 := takeU_at h' (by omega)
  simp only [takeB, e0]
  rw [if_neg (by simp), if_neg (by omega), if_neg (by omega), hd, List.take_left' rfl]
  simp [bytesB]; omega
theorem takeN_at {t : List UInt8} : ∀ (l : List Int) (r : List UInt8) (p : Nat) (acc : List Int), (∀ i ∈ l, -9223372036854775808 ≤ i ∧ i < 9223372036854775808) → t.drop p = l.flatMap intB ++ r →
    takeN t l.length p acc = (acc ++ l, p + (l.flatMap intB).length, 0) := by
  intro l
  induction l with
  | nil => intro r p acc _ _; simp [takeN]
  | cons x l ih =>
    intro r p acc hb h
    have h' : t.drop p = intB x ++ (l.flatMap intB ++ r) := by rw [h]; simp
    have e0 := takeI_at h' (hb x (by simp)).1 (hb x (by simp)).2
    simp only [List.length_cons, takeN, e0]
    rw [if_neg (by simp), ih r _ _ (fun i hi => hb i (by simp [hi])) (drop_add h')]
    simp; omega
theorem takeL_at {t r : List UInt8} {n : List Int} {p : Nat} (h : t.drop p = intsB n ++ r) (hn : n.length ≤ 4096) (hb : ∀ i ∈ n, -9223372036854775808 ≤ i ∧ i < 9223372036854775808) : takeL t p 0 = (n, p + (intsB n).length, 0) := by
  have h' : t.drop p = uintB n.length ++ (n.flatMap intB ++ r) := by rw [h, intsB, List.append_assoc]
  have e0 := takeU_at h' (by omega)
  simp only [takeL, e0]
  rw [if_neg (by simp), if_neg (by omega), takeN_at n r _ _ hb (drop_add h')]
  simp [intsB]; omega
/-- how long a number is -/
theorem uintB_len_mono (m : Nat) : ∀ a b : Nat, b ≤ m → a ≤ b → (uintB a).length ≤ (uintB b).length := by
  induction m with
  | zero => intro a b hb ha; have h1 : a = 0 := by omega
            have h2 : b = 0 := by omega
            rw [h1, h2]; exact Nat.le_refl _
  | succ m ih =>
    intro a b hb ha
    by_cases h1 : a ≤ 127
    · rw [uintB_small h1]; exact uintB_pos b
    · rw [uintB_big h1, uintB_big (n := b) (by omega)]
      have := ih (a / 128) (b / 128) (by omega) (by omega)
      simp; omega
theorem uintB_len_low (m : Nat) : ∀ n : Nat, n ≤ m → 1 < (uintB n).length → 128 ^ ((uintB n).length - 1) ≤ n := by
  induction m with
  | zero => intro n hn h; have : n = 0 := by omega
            subst this; rw [uintB_small (by decide)] at h; simp at h
  | succ m ih =>
    intro n hn h
    by_cases h1 : n ≤ 127
    · rw [uintB_small h1] at h; simp at h
    · rw [uintB_big h1, List.length_cons, Nat.add_sub_cancel]
      by_cases h2 : 1 < (uintB (n / 128)).length
      · have := ih (n / 128) (by omega) h2
        have hp := uintB_pos (n / 128)
        have e : (uintB (n / 128)).length = (uintB (n / 128)).length - 1 + 1 := by omega
        rw [e, Nat.pow_succ]; omega
      · have hp := uintB_pos (n / 128)
        have e : (uintB (n / 128)).length = 1 := by omega
        rw [e]; omega
end Go.Pk
