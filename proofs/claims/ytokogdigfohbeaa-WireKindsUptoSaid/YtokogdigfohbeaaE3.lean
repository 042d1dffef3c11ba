/- Texts of mine, put together: QC2, QC3, QE, QG. -/
import Derived.Test.YtokogdigfohbeaaE2
/- Layer 3 in plain Lean: what was laid is taken again. -/
namespace Go.Pk
open Go
theorem rdU_uintB (m : Nat) : ∀ (n : Nat), n ≤ m → ∀ (k acc : Nat) (r : List UInt8), n * 128 ^ k < 2 ^ 64 → (k = 0 ∨ 0 < n) → k ≤ 9 →
    rdU (uintB n ++ r) k acc = .inr (acc + n * 128 ^ k, k + (uintB n).length) := by
  induction m with
  | zero =>
    intro n hn k acc r _ h0 _
    have : n = 0 := by omega
    subst this
    have hk : k = 0 := by omega
    subst hk
    rw [uintB_small (by decide)]
    simp [rdU]
  | succ m ih =>
    intro n hn k acc r hlt h0 hk
    by_cases hs : n ≤ 127
    · rw [uintB_small hs]
      have hb : (UInt8.ofNat n).toNat = n := by simp; omega
      simp only [List.cons_append, List.nil_append, rdU, hb]
      rw [if_neg, if_pos (by omega)]
      · rfl
      · rintro (⟨h9, h1⟩ | ⟨h2, h3⟩)
        · subst h9; omega
        · omega
    · rw [uintB_big hs]
      have hb : (UInt8.ofNat (n % 128 + 128)).toNat = n % 128 + 128 := by simp; omega
      have hk9 : k < 9 := by
        rcases Nat.lt_or_ge k 9 with h | h
        · exact h
        · have : k = 9 := by omega
          subst this; omega
      simp only [List.cons_append, rdU, hb]
      rw [if_neg (by omega), if_neg (by omega)]
      have e1 : n / 128 * 128 ^ (k + 1) = n / 128 * 128 * 128 ^ k := by rw [Nat.pow_succ, Nat.mul_assoc, Nat.mul_comm (128 ^ k) 128]
      have e2 : n / 128 * 128 * 128 ^ k ≤ n * 128 ^ k := Nat.mul_le_mul_right _ (by omega)
      rw [ih (n / 128) (by omega) (k + 1) _ r (by omega) (by omega) (by omega)]
      have e3 : n * 128 ^ k = (n / 128 * 128) * 128 ^ k + (n % 128) * 128 ^ k := by rw [← Nat.add_mul]; congr 1; omega
      have e4 : n % 128 + 128 - 128 = n % 128 := by omega
      rw [e1, e3, e4, List.length_cons]
      generalize n / 128 * 128 * 128 ^ k = A
      generalize n % 128 * 128 ^ k = B
      generalize (uintB (n / 128)).length = L
      rw [show acc + B + A = acc + (A + B) by omega, show k + 1 + L = k + (L + 1) by omega]
theorem takeU_at {t r : List UInt8} {p n : Nat} (h : t.drop p = uintB n ++ r) (hn : n < 2 ^ 64) : takeU t p 0 = (n, p + (uintB n).length, 0) := by
  simp only [takeU, ne_eq, not_true_eq_false, if_false, h]
  rw [rdU_uintB n n (Nat.le_refl _) 0 0 r (by simpa using hn) (.inl rfl) (by omega)]
  simp
theorem takeI_at {t r : List UInt8} {p : Nat} {n : Int} (h : t.drop p = intB n ++ r) (h0 : -9223372036854775808 ≤ n) (h1 : n < 9223372036854775808) : takeI t p 0 = (n, p + (intB n).length, 0) := by
  simp only [takeI, takeU_at h (zig_lt h0 h1), zag_zig]; rfl
theorem flagB_eq (b : Bool) : flagB b = uintB (if b then 1 else 0) := by cases b <;> rw [uintB_small (by decide)] <;> rfl
theorem takeF_at {t r : List UInt8} {p : Nat} {b : Bool} (h : t.drop p = flagB b ++ r) : takeF t p 0 = (b, p + 1, 0) := by
  rw [flagB_eq] at h
  simp only [takeF, takeU_at h (by cases b <;> decide)]
  cases b <;> simp [uintB_small (show (0 : Nat) ≤ 127 by decide), uintB_small (show (1 : Nat) ≤ 127 by decide)]
theorem takeX_at {t r : List UInt8} {p n : Nat} (h : t.drop p = fixedB n ++ r) (hn : n < 2 ^ 32) : takeX t p 0 = (n, p + 4, 0) := by
  have hl := congrArg List.length h
  simp [fixedB] at hl
  simp only [takeX, ne_eq, not_true_eq_false, if_false]
  rw [if_neg (by omega), h]
  simp [fixedB, fixedN]
  omega
theorem drop_add {α : Type} {t a r : List α} {p : Nat} (h : t.drop p = a ++ r) : t.drop (p + a.length) = r := by
  rw [← List.drop_drop, h, List.drop_left]
theorem takeB_at {t r n : List UInt8} {p : Nat} (h : t.drop p = bytesB n ++ r) (hn : n.length ≤ 4096) : takeB t p 0 = (n, p + (bytesB n).length, 0) := by
  have h' : t.drop p = uintB n.length ++ (n ++ r) := by rw [h, bytesB, List.append_assoc]
  have hd := drop_add h'
  have hl := congrArg List.length hd
  simp at hl
  have e0 := takeU_at h' (by omega)
  simp only [takeB, e0]
  rw [if_neg (by simp), if_neg (by omega), if_neg (by omega), hd, List.take_left' rfl]
  simp [bytesB]; omega
theorem takeN_at {t : List UInt8} : ∀ (l : List Int) (r : List UInt8) (p : Nat) (acc : List Int), (∀ i ∈ l, -9223372036854775808 ≤ i ∧ i < 9223372036854775808) → t.drop p = l.flatMap intB ++ r →
    takeN t l.length p acc = (acc ++ l, p + (l.flatMap intB).length, 0) := by
  intro l
  induction l with
  | nil => intro r p acc _ _; simp [takeN]
  | cons x l ih =>
    intro r p acc hb h
    have h' : t.drop p = intB x ++ (l.flatMap intB ++ r) := by rw [h]; simp
    have e0 := takeI_at h' (hb x (by simp)).1 (hb x (by simp)).2
    simp only [List.length_cons, takeN, e0]
    rw [if_neg (by simp), ih r _ _ (fun i hi => hb i (by simp [hi])) (drop_add h')]
    simp; omega
theorem takeL_at {t r : List UInt8} {n : List Int} {p : Nat} (h : t.drop p = intsB n ++ r) (hn : n.length ≤ 4096) (hb : ∀ i ∈ n, -9223372036854775808 ≤ i ∧ i < 9223372036854775808) : takeL t p 0 = (n, p + (intsB n).length, 0) := by
  have h' : t.drop p = uintB n.length ++ (n.flatMap intB ++ r) := by rw [h, intsB, List.append_assoc]
  have e0 := takeU_at h' (by omega)
  simp only [takeL, e0]
  rw [if_neg (by simp), if_neg (by omega), takeN_at n r _ _ hb (drop_add h')]
  simp [intsB]; omega
/-- how long a number is -/
theorem uintB_len_mono (m : Nat) : ∀ a b : Nat, b ≤ m → a ≤ b → (uintB a).length ≤ (uintB b).length := by
  induction m with
  | zero => intro a b hb ha; have h1 : a = 0 := by omega
            have h2 : b = 0 := by omega
            rw [h1, h2]; exact Nat.le_refl _
  | succ m ih =>
    intro a b hb ha
    by_cases h1 : a ≤ 127
    · rw [uintB_small h1]; exact uintB_pos b
    · rw [uintB_big h1, uintB_big (n := b) (by omega)]
      have := ih (a / 128) (b / 128) (by omega) (by omega)
      simp; omega
theorem uintB_len_low (m : Nat) : ∀ n : Nat, n ≤ m → 1 < (uintB n).length → 128 ^ ((uintB n).length - 1) ≤ n := by
  induction m with
  | zero => intro n hn h; have : n = 0 := by omega
            subst this; rw [uintB_small (by decide)] at h; simp at h
  | succ m ih =>
    intro n hn h
    by_cases h1 : n ≤ 127
    · rw [uintB_small h1] at h; simp at h
    · rw [uintB_big h1, List.length_cons, Nat.add_sub_cancel]
      by_cases h2 : 1 < (uintB (n / 128)).length
      · have := ih (n / 128) (by omega) h2
        have hp := uintB_pos (n / 128)
        have e : (uintB (n / 128)).length = (uintB (n / 128)).length - 1 + 1 := by omega
        rw [e, Nat.pow_succ]; omega
      · have hp := uintB_pos (n / 128)
        have e : (uintB (n / 128)).length = 1 := by omega
        rw [e]; omega
end Go.Pk

/- Layer 3 in plain Lean: what was cut off is found out. -/
namespace Go.Pk
open Go
theorem rdU_mono (r : List UInt8) : ∀ (l : List UInt8) (k n : Nat) (x : Nat × Nat), rdU l k n = .inr x → rdU (l ++ r) k n = .inr x := by
  intro l
  induction l with
  | nil => intro k n x h; simp [rdU] at h
  | cons b l ih =>
    intro k n x h
    simp only [rdU, List.cons_append] at h ⊢
    split at h
    · cases h
    · rename_i h1
      rw [if_neg h1]
      split at h
      · rename_i h2; rw [if_pos h2]; exact h
      · rename_i h2; rw [if_neg h2]; exact ih _ _ _ h
theorem takeU_err {t : List UInt8} {p : Nat} {e : Int} (h : e ≠ 0) : takeU t p e = (0, p, e) := by simp [takeU, h]
theorem takeU_cut {t : List UInt8} {p n m : Nat} (h : t.drop p = (uintB n).take m) (hn : n < 2 ^ 64) (hm : m < (uintB n).length) : (takeU t p 0).1 = 0 ∧ (takeU t p 0).2.2 ≠ 0 := by
  simp only [takeU, ne_eq, not_true_eq_false, if_false]
  have hb := rdU_bound (t.drop p) 0 0 (by omega) (by simp)
  cases hr : rdU (t.drop p) 0 0 with
  | inl e' =>
    rw [hr] at hb
    simp only [rdOk] at hb
    refine ⟨rfl, ?_⟩
    show e' ≠ 0
    omega
  | inr x =>
    rw [hr] at hb
    simp only [rdOk] at hb
    have h1 := rdU_mono ((uintB n).drop m) _ _ _ _ hr
    rw [h, List.take_append_drop] at h1
    have h2 := rdU_uintB n n (Nat.le_refl _) 0 0 [] (by simpa using hn) (.inl rfl) (by omega)
    rw [List.append_nil, h1] at h2
    simp at h2
    have hl : (t.drop p).length = m := by rw [h]; simp; omega
    have : x.2 = (uintB n).length := by rw [h2]
    omega
theorem takeF_cut {t : List UInt8} {p m : Nat} {b : Bool} (h : t.drop p = (flagB b).take m) (hm : m < (flagB b).length) : (takeF t p 0).2.2 ≠ 0 := by
  rw [flagB_eq] at h hm
  have := takeU_cut h (by cases b <;> decide) hm
  simp only [takeF]
  rw [if_neg (by omega)]
  exact this.2
theorem takeX_cut {t : List UInt8} {p n m : Nat} (h : t.drop p = (fixedB n).take m) (hm : m < (fixedB n).length) : (takeX t p 0).2.2 ≠ 0 := by
  have hl := congrArg List.length h
  simp [fixedB] at hl hm
  simp only [takeX, ne_eq, not_true_eq_false, if_false]
  rw [if_pos (by omega)]
  simp
theorem drop_len {α : Type} {t u : List α} {p : Nat} (h : t.drop p = u) : t.length - p = u.length := by rw [← h]; simp
theorem cut_append {t a b : List UInt8} {p m : Nat} (h : t.drop p = (a ++ b).take m) (hm : a.length ≤ m) : t.drop p = a ++ b.take (m - a.length) := by
  rw [h, List.take_append, List.take_of_length_le hm]
theorem cut_left {t a b : List UInt8} {p m : Nat} (h : t.drop p = (a ++ b).take m) (hm : m ≤ a.length) : t.drop p = a.take m := by
  rw [h, List.take_append_of_le_length hm]
theorem takeB_cut {t n : List UInt8} {p m : Nat} (h : t.drop p = (bytesB n).take m) (hn : n.length ≤ 4096) (hm : m < (bytesB n).length) : (takeB t p 0).2.2 ≠ 0 := by
  simp only [bytesB, List.length_append] at h hm
  rcases Nat.lt_or_ge m (uintB n.length).length with hc | hc
  · have := takeU_cut (cut_left h (by omega)) (by omega) hc
    simp only [takeB]
    rw [if_pos this.2]
    exact this.2
  · have h' := cut_append h hc
    have e0 := takeU_at h' (by omega)
    have hl := drop_len h'
    simp at hl
    have hp : p + (uintB n.length).length ≤ t.length := by
      have := uintB_pos n.length
      omega
    simp only [takeB, e0]
    rw [if_neg (by simp), if_neg (by omega), if_pos (by omega)]
    simp
theorem takeN_cut {t : List UInt8} : ∀ (l : List Int) (p m : Nat) (acc : List Int), (∀ i ∈ l, -9223372036854775808 ≤ i ∧ i < 9223372036854775808) → t.drop p = (l.flatMap intB).take m → m < (l.flatMap intB).length →
    (takeN t l.length p acc).2.2 ≠ 0 := by
  intro l
  induction l with
  | nil => intro p m acc _ _ hm; simp at hm
  | cons x l ih =>
    intro p m acc hb h hm
    simp only [List.flatMap_cons, List.length_append] at h hm
    have hx := hb x (by simp)
    simp only [List.length_cons, takeN]
    rcases Nat.lt_or_ge m (intB x).length with hc | hc
    · have := takeU_cut (n := zig x) (cut_left (a := intB x) h (Nat.le_of_lt hc)) (zig_lt hx.1 hx.2) hc
      have e1 : (takeI t p 0).2.2 = (takeU t p 0).2.2 := rfl
      rw [e1, if_pos this.2]
      exact this.2
    · have h' := cut_append h hc
      have e0 := takeI_at h' hx.1 hx.2
      rw [e0, if_neg (by simp)]
      exact ih _ _ _ (fun i hi => hb i (by simp [hi])) (drop_add h') (by omega)
theorem takeL_cut {t : List UInt8} {n : List Int} {p m : Nat} (h : t.drop p = (intsB n).take m) (hn : n.length ≤ 4096) (hb : ∀ i ∈ n, -9223372036854775808 ≤ i ∧ i < 9223372036854775808) (hm : m < (intsB n).length) : (takeL t p 0).2.2 ≠ 0 := by
  simp only [intsB, List.length_append] at h hm
  rcases Nat.lt_or_ge m (uintB n.length).length with hc | hc
  · have := takeU_cut (cut_left h (by omega)) (by omega) hc
    simp only [takeL]
    rw [if_pos this.2]
    exact this.2
  · have h' := cut_append h hc
    have e0 := takeU_at h' (by omega)
    simp only [takeL, e0]
    rw [if_neg (by simp), if_neg (by omega)]
    exact takeN_cut n _ _ _ hb (drop_add h') (by omega)
theorem takeF_err {t : List UInt8} {p : Nat} {e : Int} (h : e ≠ 0) : takeF t p e = (false, p, e) := by simp [takeF, takeU_err h]
theorem takeX_err {t : List UInt8} {p : Nat} {e : Int} (h : e ≠ 0) : takeX t p e = (0, p, e) := by simp [takeX, h]
theorem takeB_err {t : List UInt8} {p : Nat} {e : Int} (h : e ≠ 0) : takeB t p e = ([], p, e) := by simp [takeB, takeU_err h, h]
theorem takeL_err {t : List UInt8} {p : Nat} {e : Int} (h : e ≠ 0) : takeL t p e = ([], p, e) := by simp [takeL, takeU_err h, h]
theorem takeI_err {t : List UInt8} {p : Nat} {e : Int} (h : e ≠ 0) : takeI t p e = (0, p, e) := by simp [takeI, takeU_err h, zag]
end Go.Pk

/- Forms in plain Lean: a taker and its writer, one behind the other. -/
namespace Go.Pk
open Go
theorem rdU_cut6 (m : Nat) : ∀ (n : Nat), n ≤ m → ∀ (k acc j : Nat), n * 128 ^ k < 2 ^ 64 → (k = 0 ∨ 0 < n) → k ≤ 9 → j < (uintB n).length → rdU ((uintB n).take j) k acc = .inl 6 := by
  induction m with
  | zero =>
    intro n hn k acc j _ h0 _ hj
    have : n = 0 := by omega
    subst this
    rw [uintB_small (by decide)] at hj ⊢
    simp at hj
    subst hj
    simp [rdU]
  | succ m ih =>
    intro n hn k acc j hlt h0 hk hj
    by_cases hs : n ≤ 127
    · rw [uintB_small hs] at hj ⊢
      simp at hj
      subst hj
      simp [rdU]
    · rw [uintB_big hs] at hj ⊢
      cases j with
      | zero => simp [rdU]
      | succ j =>
        have hb : (UInt8.ofNat (n % 128 + 128)).toNat = n % 128 + 128 := by simp; omega
        have hk9 : k < 9 := by
          rcases Nat.lt_or_ge k 9 with h | h
          · exact h
          · have : k = 9 := by omega
            subst this; omega
        simp only [List.length_cons] at hj
        simp only [List.take_succ_cons, rdU, hb]
        rw [if_neg (by omega), if_neg (by omega)]
        have e1 : n / 128 * 128 ^ (k + 1) = n / 128 * 128 * 128 ^ k := by rw [Nat.pow_succ, Nat.mul_assoc, Nat.mul_comm (128 ^ k) 128]
        have e2 : n / 128 * 128 * 128 ^ k ≤ n * 128 ^ k := Nat.mul_le_mul_right _ (by omega)
        exact ih (n / 128) (by omega) (k + 1) _ j (by omega) (by omega) (by omega) (by omega)
/-- what was taken stands there -/
theorem rdU_back : ∀ (l : List UInt8) (k acc v c : Nat), rdU l k acc = .inr (v, c) → ∃ n, v = acc + n * 128 ^ k ∧ k < c ∧ c - k ≤ l.length ∧ l.take (c - k) = uintB n ∧ (0 < k → 0 < n) := by
  intro l
  induction l with
  | nil => intro k acc v c h; simp [rdU] at h
  | cons b l ih =>
    intro k acc v c h
    simp only [rdU] at h
    split at h
    · cases h
    · rename_i h1
      split at h
      · rename_i h2
        simp only [Sum.inr.injEq, Prod.mk.injEq] at h
        obtain ⟨rfl, rfl⟩ := h
        have hb : UInt8.ofNat b.toNat = b := by simp
        refine ⟨b.toNat, rfl, by omega, by simp, ?_, fun hk => ?_⟩
        · rw [uintB_small (by omega), hb, Nat.add_sub_cancel_left]; rfl
        · rcases Nat.eq_zero_or_pos b.toNat with h3 | h3
          · exact absurd (.inr ⟨h3, hk⟩) h1
          · exact h3
      · rename_i h2
        obtain ⟨n, hv, hc, hl, ht, hn⟩ := ih _ _ _ _ h
        have hn' := hn (by omega)
        have hlt : b.toNat < 256 := b.toNat_lt
        refine ⟨(b.toNat - 128) + n * 128, ?_, by omega, by simp only [List.length_cons]; omega, ?_, fun _ => by omega⟩
        · rw [hv, Nat.add_mul, Nat.mul_assoc, Nat.pow_succ, Nat.mul_comm (128 ^ k) 128, Nat.add_assoc]
        · rw [uintB_big (by omega)]
          have e1 : (b.toNat - 128 + n * 128) / 128 = n := by omega
          have e2 : (b.toNat - 128 + n * 128) % 128 + 128 = b.toNat := by omega
          have e3 : c - k = (c - (k + 1)) + 1 := by omega
          rw [e1, e2, e3, List.take_succ_cons, ht]
          simp
abbrev Tk (α : Type) := List UInt8 → Nat → Int → α × Nat × Int
structure Fm {α : Type} (take : Tk α) (enc : α → List UInt8) (ok : α → Prop) : Prop where
  hits : ∀ {t r : List UInt8} {p : Nat} {a : α}, ok a → t.drop p = enc a ++ r → take t p 0 = (a, p + (enc a).length, 0)
  cut : ∀ {t : List UInt8} {p m : Nat} {a : α}, ok a → t.drop p = (enc a).take m → m < (enc a).length → (take t p 0).2.2 = 6
  back : ∀ {t : List UInt8} {p : Nat}, p ≤ t.length → (take t p 0).2.2 = 0 → ok (take t p 0).1 ∧ t.drop p = enc (take t p 0).1 ++ t.drop (take t p 0).2.1 ∧ (take t p 0).2.1 ≤ t.length
def Er {α : Type} (take : Tk α) : Prop := ∀ (t : List UInt8) (p : Nat) (e : Int), e ≠ 0 → (take t p e).2 = (p, e)
theorem erU : Er takeU := fun _ _ _ h => by rw [takeU_err h]
theorem erI : Er takeI := fun _ _ _ h => by rw [takeI_err h]
theorem erF : Er takeF := fun _ _ _ h => by rw [takeF_err h]
theorem erB : Er takeB := fun _ _ _ h => by rw [takeB_err h]
theorem erL : Er takeL := fun _ _ _ h => by rw [takeL_err h]
theorem takeU_cut6 {t : List UInt8} {p n m : Nat} (h : t.drop p = (uintB n).take m) (hn : n < 2 ^ 64) (hm : m < (uintB n).length) : takeU t p 0 = (0, p, 6) := by
  simp only [takeU, ne_eq, not_true_eq_false, if_false, h]
  rw [rdU_cut6 n n (Nat.le_refl _) 0 0 m (by simpa using hn) (.inl rfl) (by omega) hm]
theorem takeU_back {t : List UInt8} {p : Nat} (hp : p ≤ t.length) (h : (takeU t p 0).2.2 = 0) : (takeU t p 0).1 < 2 ^ 64 ∧ t.drop p = uintB (takeU t p 0).1 ++ t.drop (takeU t p 0).2.1 ∧ (takeU t p 0).2.1 ≤ t.length := by
  have hb := takeU_bound (e := 0) hp
  refine ⟨hb.1, ?_, hb.2.2.1⟩
  have hbd := rdU_bound (t.drop p) 0 0 (by omega) (by simp)
  simp only [takeU, ne_eq, not_true_eq_false, if_false] at h ⊢
  cases hr : rdU (t.drop p) 0 0 with
  | inl e' =>
    rw [hr] at h hbd
    simp only [rdOk] at hbd
    simp only at h
    omega
  | inr x =>
    obtain ⟨v, c⟩ := x
    obtain ⟨n, hv, hc, hl, ht, _⟩ := rdU_back _ _ _ _ _ hr
    simp only [Nat.sub_zero, Nat.pow_zero, Nat.mul_one, Nat.zero_add] at hv ht hl
    subst hv
    simp only
    rw [← ht, ← List.drop_drop, List.take_append_drop]
theorem fmU : Fm takeU uintB (· < 2 ^ 64) where
  hits hn h := takeU_at h hn
  cut hn h hm := by rw [takeU_cut6 h hn hm]
  back := takeU_back
theorem fmI : Fm takeI intB (fun n => -9223372036854775808 ≤ n ∧ n < 9223372036854775808) where
  hits hn h := takeI_at h hn.1 hn.2
  cut hn h hm := by show (takeU _ _ _).2.2 = 6; rw [takeU_cut6 h (zig_lt hn.1 hn.2) hm]
  back {t p} hp h := by
    obtain ⟨h1, h2, h3⟩ := takeU_back hp h
    refine ⟨?_, ?_, h3⟩
    · show -9223372036854775808 ≤ zag (takeU t p 0).1 ∧ zag (takeU t p 0).1 < 9223372036854775808
      unfold zag
      split <;> omega
    · show t.drop p = uintB (zig (zag (takeU t p 0).1)) ++ _
      rw [zig_zag]; exact h2
theorem fmF : Fm takeF flagB (fun _ => True) where
  hits {t r p a} _ h := by rw [takeF_at h]; rfl
  cut {t p m a} _ h hm := by
    rw [flagB_eq] at h hm
    have := takeU_cut6 h (by cases a <;> decide) hm
    simp [takeF, this]
  back {t p} hp h := by
    simp only [takeF] at h ⊢
    by_cases h1 : (takeU t p 0).1 > 1
    · rw [if_pos h1] at h
      simp only at h
      split at h
      · cases h
      · rename_i h2; exact absurd h h2
    · rw [if_neg h1] at h ⊢
      obtain ⟨_, h2, h3⟩ := takeU_back hp h
      refine ⟨trivial, ?_, h3⟩
      show t.drop p = flagB ((takeU t p 0).1 == 1) ++ t.drop (takeU t p 0).2.1
      rw [flagB_eq]
      have hx : (takeU t p 0).1 = 0 ∨ (takeU t p 0).1 = 1 := by omega
      rcases hx with hx | hx <;> rw [hx] at h2 ⊢ <;> exact h2
theorem fmB : Fm takeB bytesB (fun b => b.length ≤ 4096) where
  hits hn h := takeB_at h hn
  cut {t p m n} hn h hm := by
    simp only [bytesB, List.length_append] at h hm
    rcases Nat.lt_or_ge m (uintB n.length).length with hc | hc
    · have := takeU_cut6 (cut_left h (by omega)) (by omega) hc
      simp [takeB, this]
    · have h' := cut_append h hc
      have e0 := takeU_at h' (by omega)
      have hl := drop_len h'
      simp at hl
      have hp : p + (uintB n.length).length ≤ t.length := by
        have := uintB_pos n.length
        omega
      simp only [takeB, e0]
      rw [if_neg (by simp), if_neg (by omega), if_pos (by omega)]
  back {t p} hp h := by
    simp only [takeB] at h ⊢
    by_cases h1 : (takeU t p 0).2.2 ≠ 0
    · rw [if_pos h1] at h; exact absurd h h1
    · rw [if_neg h1] at h ⊢
      obtain ⟨h2, h3, h4⟩ := takeU_back hp (by simpa using h1)
      by_cases h5 : (takeU t p 0).1 > 4096
      · rw [if_pos h5] at h; cases h
      · rw [if_neg h5] at h ⊢
        by_cases h6 : (takeU t p 0).1 > t.length - (takeU t p 0).2.1
        · rw [if_pos h6] at h; cases h
        · rw [if_neg h6]
          refine ⟨by simp; omega, ?_, by simp only; omega⟩
          have hl : ((t.drop (takeU t p 0).2.1).take (takeU t p 0).1).length = (takeU t p 0).1 := by simp; omega
          simp only [bytesB, hl]
          rw [List.append_assoc, ← List.drop_drop, List.take_append_drop]
          exact h3
/-- one behind the other; the second may go by what the first has taken -/
def Tk.dep {α β : Type} (f : Tk α) (g : α → Tk β) : Tk (α × β) := fun t p e => (((f t p e).1, (g (f t p e).1 t (f t p e).2.1 (f t p e).2.2).1), (g (f t p e).1 t (f t p e).2.1 (f t p e).2.2).2)
theorem Er.dep {α β : Type} {f : Tk α} {g : α → Tk β} (hf : Er f) (hg : ∀ a, Er (g a)) : Er (f.dep g) := fun t p e he => by
  have h1 := hf t p e he
  simp only [Tk.dep, h1]
  exact hg _ _ _ _ he
theorem Fm.dep {α β : Type} {f : Tk α} {g : α → Tk β} {enc : α → List UInt8} {enc' : β → List UInt8} {ok : α → Prop} {ok' : α → β → Prop}
    (hf : Fm f enc ok) (he : ∀ a, Er (g a)) (hg : ∀ a, ok a → Fm (g a) enc' (ok' a)) : Fm (f.dep g) (fun x => enc x.1 ++ enc' x.2) (fun x => ok x.1 ∧ ok' x.1 x.2) where
  hits {t r p x} ho h := by
    obtain ⟨a, b⟩ := x
    rw [List.append_assoc] at h
    have h1 := hf.hits ho.1 h
    have h2 := (hg a ho.1).hits ho.2 (drop_add h)
    simp only [Tk.dep, h1, h2, List.length_append]
    rw [Nat.add_assoc]
  cut {t p m x} ho h hm := by
    obtain ⟨a, b⟩ := x
    simp only [List.length_append] at h hm ho
    rcases Nat.lt_or_ge m (enc a).length with hc | hc
    · have h1 := hf.cut ho.1 (cut_left h (by omega)) hc
      have h2 := he (f t p 0).1 t (f t p 0).2.1 (f t p 0).2.2 (by rw [h1]; decide)
      simp only [Tk.dep]
      rw [h2]; exact h1
    · have h' := cut_append h hc
      have h1 := hf.hits ho.1 h'
      simp only [Tk.dep, h1]
      exact (hg a ho.1).cut ho.2 (drop_add h') (by omega)
  back {t p} hp h := by
    simp only [Tk.dep] at h ⊢
    by_cases h1 : (f t p 0).2.2 = 0
    · obtain ⟨a1, a2, a3⟩ := hf.back hp h1
      rw [h1] at h ⊢
      obtain ⟨b1, b2, b3⟩ := (hg _ a1).back a3 h
      refine ⟨⟨a1, b1⟩, ?_, b3⟩
      rw [List.append_assoc, ← b2]; exact a2
    · have h2 := he (f t p 0).1 t (f t p 0).2.1 _ h1
      rw [h2] at h
      exact absurd h h1
/-- so many, one by one -/
def Tk.rep {α : Type} (f : Tk α) : Nat → Tk (List α)
  | 0, _, p, e => ([], p, e)
  | n + 1, t, p, e => ((f t p e).1 :: (f.rep n t (f t p e).2.1 (f t p e).2.2).1, (f.rep n t (f t p e).2.1 (f t p e).2.2).2)
theorem Er.rep {α : Type} {f : Tk α} (hf : Er f) : ∀ n, Er (f.rep n)
  | 0 => fun _ _ _ _ => rfl
  | n + 1 => fun t p e he => by
    have h1 := hf t p e he
    simp only [Tk.rep, h1]
    exact Er.rep hf n _ _ _ he
theorem Fm.rep {α : Type} {f : Tk α} {enc : α → List UInt8} {ok : α → Prop} (hf : Fm f enc ok) (he : Er f) : ∀ n, Fm (f.rep n) (fun l => l.flatMap enc) (fun l => l.length = n ∧ ∀ a ∈ l, ok a)
  | 0 => {
    hits := fun {t r p a} ho _ => by
      have : a = [] := List.eq_nil_of_length_eq_zero ho.1
      subst this; rfl
    cut := fun {t p m a} ho _ hm => by
      have : a = [] := List.eq_nil_of_length_eq_zero ho.1
      subst this; simp at hm
    back := fun {t p} hp _ => ⟨⟨rfl, by simp [Tk.rep]⟩, by simp [Tk.rep], hp⟩ }
  | n + 1 => {
    hits := fun {t r p a} ho h => by
      match a, ho with
      | x :: a, ho =>
      simp only [List.flatMap_cons, List.append_assoc] at h
      have h1 := hf.hits (ho.2 x (by simp)) h
      have h2 := (Fm.rep hf he n).hits ⟨by simpa using ho.1, fun y hy => ho.2 y (by simp [hy])⟩ (drop_add h)
      simp only [Tk.rep, h1, h2, List.flatMap_cons, List.length_append]
      rw [Nat.add_assoc]
    cut := fun {t p m a} ho h hm => by
      match a, ho with
      | x :: a, ho =>
      simp only [List.flatMap_cons, List.length_append] at h hm
      rcases Nat.lt_or_ge m (enc x).length with hc | hc
      · have h1 := hf.cut (ho.2 x (by simp)) (cut_left h (by omega)) hc
        have h2 := Er.rep he n t (f t p 0).2.1 (f t p 0).2.2 (by rw [h1]; decide)
        simp only [Tk.rep]
        rw [h2]; exact h1
      · have h' := cut_append h hc
        have h1 := hf.hits (ho.2 x (by simp)) h'
        simp only [Tk.rep, h1]
        exact (Fm.rep hf he n).cut ⟨by simpa using ho.1, fun y hy => ho.2 y (by simp [hy])⟩ (drop_add h') (by omega)
    back := fun {t p} hp h => by
      simp only [Tk.rep] at h ⊢
      by_cases h1 : (f t p 0).2.2 = 0
      · obtain ⟨a1, a2, a3⟩ := hf.back hp h1
        rw [h1] at h ⊢
        obtain ⟨b1, b2, b3⟩ := (Fm.rep hf he n).back a3 h
        refine ⟨⟨by simp [b1.1], fun y hy => ?_⟩, ?_, b3⟩
        · rcases List.mem_cons.1 hy with rfl | hy
          · exact a1
          · exact b1.2 y hy
        · simp only [List.flatMap_cons, List.append_assoc]
          rw [← b2]; exact a2
      · have h2 := Er.rep he n t (f t p 0).2.1 _ h1
        rw [h2] at h
        exact absurd h h1 }
end Go.Pk

/- Forms in plain Lean: lists of numbers, counted things, choices. -/
namespace Go.Pk
open Go
theorem rep_succ {α : Type} (f : Tk α) (n : Nat) (t : List UInt8) (p : Nat) (e : Int) : f.rep (n + 1) t p e = ((f t p e).1 :: (f.rep n t (f t p e).2.1 (f t p e).2.2).1, (f.rep n t (f t p e).2.1 (f t p e).2.2).2) := rfl
theorem takeN_rep {t : List UInt8} : ∀ (n p : Nat) (acc : List Int), takeN t n p acc = if (Tk.rep takeI n t p 0).2.2 = 0 then (acc ++ (Tk.rep takeI n t p 0).1, (Tk.rep takeI n t p 0).2) else ([], (Tk.rep takeI n t p 0).2)
  | 0, p, acc => by simp [takeN, Tk.rep]
  | n + 1, p, acc => by
    rw [rep_succ]
    by_cases h : (takeI t p 0).2.2 = 0
    · rw [takeN, if_neg (by simpa using h), takeN_rep n, h]
      simp only [List.append_assoc, List.singleton_append]
    · rw [takeN, if_pos h]
      have e := Er.rep erI n t (takeI t p 0).2.1 _ h
      rw [e]
      exact (if_neg h).symm
theorem fmL : Fm takeL intsB (fun l => l.length ≤ 4096 ∧ ∀ i ∈ l, -9223372036854775808 ≤ i ∧ i < 9223372036854775808) where
  hits ho h := takeL_at h ho.1 ho.2
  cut {t p m a} ho h hm := by
    simp only [intsB, List.length_append] at h hm
    rcases Nat.lt_or_ge m (uintB a.length).length with hc | hc
    · have := takeU_cut6 (cut_left h (by omega)) (by omega) hc
      simp [takeL, this]
    · have h' := cut_append h hc
      have e0 := takeU_at h' (by omega)
      have := (Fm.rep fmI erI a.length).cut (t := t) (p := p + (uintB a.length).length) (m := m - (uintB a.length).length) (a := a) ⟨rfl, ho.2⟩ (drop_add h') (by omega)
      simp only [takeL, e0]
      rw [if_neg (by simp), if_neg (by omega), takeN_rep, if_neg (by rw [this]; decide)]
      exact this
  back {t p} hp h := by
    simp only [takeL] at h ⊢
    by_cases h1 : (takeU t p 0).2.2 ≠ 0
    · rw [if_pos h1] at h; exact absurd h h1
    · rw [if_neg h1] at h ⊢
      obtain ⟨h2, h3, h4⟩ := takeU_back hp (by simpa using h1)
      by_cases h5 : (takeU t p 0).1 > 4096
      · rw [if_pos h5] at h; cases h
      · rw [if_neg h5, takeN_rep] at h
        rw [if_neg h5, takeN_rep]
        by_cases h6 : (Tk.rep takeI (takeU t p 0).1 t (takeU t p 0).2.1 0).2.2 = 0
        · rw [if_pos h6]
          obtain ⟨b1, b2, b3⟩ := (Fm.rep fmI erI (takeU t p 0).1).back h4 h6
          simp only [List.nil_append]
          refine ⟨⟨by rw [b1.1]; omega, b1.2⟩, ?_, b3⟩
          rw [intsB, b1.1, List.append_assoc, ← b2]
          exact h3
        · rw [if_neg h6] at h
          exact absurd h h6
/-- seen as something else -/
def Tk.map {α β : Type} (f : Tk α) (g : α → β) : Tk β := fun t p e => (g (f t p e).1, (f t p e).2)
theorem Er.map {α β : Type} {f : Tk α} {g : α → β} (h : Er f) : Er (f.map g) := fun t p e he => h t p e he
theorem Fm.map {α β : Type} {f : Tk α} {enc : α → List UInt8} {ok : α → Prop} (h : Fm f enc ok) {g : α → β} {enc' : β → List UInt8} {ok' : β → Prop}
    (h1 : ∀ a, ok a → ok' (g a) ∧ enc' (g a) = enc a) (h2 : ∀ b, ok' b → ∃ a, g a = b ∧ ok a) : Fm (f.map g) enc' ok' where
  hits {t r p b} ho hd := by
    obtain ⟨a, rfl, ha⟩ := h2 b ho
    rw [(h1 a ha).2] at hd ⊢
    simp only [Tk.map, h.hits ha hd]
  cut {t p m b} ho hd hm := by
    obtain ⟨a, rfl, ha⟩ := h2 b ho
    rw [(h1 a ha).2] at hd hm
    exact h.cut ha hd hm
  back {t p} hp he := by
    obtain ⟨b1, b2, b3⟩ := h.back (t := t) hp he
    exact ⟨(h1 _ b1).1, by show _ = enc' (g _) ++ _; rw [(h1 _ b1).2]; exact b2, b3⟩
/-- what is taken is refused where a condition fails -/
def or0 (a b : Int) : Int := if a = 0 then b else a
theorem or0_zero {a b : Int} : or0 a b = 0 ↔ a = 0 ∧ b = 0 := by
  unfold or0
  split <;> simp_all
theorem or0_l {a : Int} (h : a ≠ 0) (b : Int) : or0 a b = a := by unfold or0; rw [if_neg h]
theorem or0_0 (b : Int) : or0 0 b = b := rfl
theorem or0_r (a : Int) : or0 a 0 = a := by unfold or0; split <;> simp_all
theorem or0_assoc (a b c : Int) : or0 (or0 a b) c = or0 a (or0 b c) := by unfold or0; split <;> simp_all
/-- refused with an error, that the taken thing tells -/
noncomputable def Tk.chk {α : Type} (f : Tk α) (er : α → Int) : Tk α := fun t p e => ((f t p e).1, (f t p e).2.1, or0 (f t p e).2.2 (er (f t p e).1))
theorem Er.chk {α : Type} {f : Tk α} {er : α → Int} (h : Er f) : Er (f.chk er) := fun t p e he => by
  have := h t p e he
  simp only [Tk.chk, this]
  rw [or0_l he]
theorem Fm.chk {α : Type} {f : Tk α} {enc : α → List UInt8} {ok : α → Prop} (h : Fm f enc ok) (er : α → Int) : Fm (f.chk er) enc (fun a => ok a ∧ er a = 0) where
  hits {t r p a} ho hd := by
    have := h.hits ho.1 hd
    simp only [Tk.chk, this, or0_0, ho.2]
  cut {t p m a} ho hd hm := by
    have := h.cut ho.1 hd hm
    simp only [Tk.chk, this]; rfl
  back {t p} hp he := by
    simp only [Tk.chk, or0_zero] at he ⊢
    obtain ⟨b1, b2, b3⟩ := h.back hp he.1
    exact ⟨⟨b1, he.2⟩, b2, b3⟩
/-- how many there are, and these -/
noncomputable def tkCnt : Tk Nat := Tk.chk takeU fun n => if n > 512 then 2 else 0
theorem erCnt : Er tkCnt := erU.chk
theorem fmCnt : Fm tkCnt uintB (· ≤ 512) := by
  have h := fmU.chk fun n => if n > 512 then 2 else 0
  have h2 := h.map (g := id) (enc' := uintB) (ok' := (· ≤ 512)) (fun a ha => ⟨by
    have := ha.2
    split at this
    · cases this
    · show a ≤ 512; omega, rfl⟩) (fun b hb => ⟨b, rfl, by show b < 2 ^ 64; have : b ≤ 512 := hb; omega, by have : b ≤ 512 := hb; rw [if_neg (by omega)]⟩)
  exact h2
noncomputable def tkMany {α : Type} (f : Tk α) : Tk (List α) := (Tk.dep tkCnt fun n => f.rep n).map (·.2)
theorem erMany {α : Type} {f : Tk α} (h : Er f) : Er (tkMany f) := (erCnt.dep fun n => h.rep n).map
theorem fmMany {α : Type} {f : Tk α} {enc : α → List UInt8} {ok : α → Prop} (h : Fm f enc ok) (he : Er f) : Fm (tkMany f) (fun l => uintB l.length ++ l.flatMap enc) (fun l => l.length ≤ 512 ∧ ∀ a ∈ l, ok a) :=
  (fmCnt.dep (fun n => he.rep n) (fun n _ => h.rep he n)).map
    (fun a ha => ⟨⟨by rw [ha.2.1]; exact ha.1, ha.2.2⟩, by show uintB a.2.length ++ _ = _; rw [ha.2.1]⟩) (fun b hb => ⟨(b.length, b), rfl, hb.1, rfl, hb.2⟩)
/-! ### what is laid: bytes, what was wrong first, the writer's own first error -/
structure Ly where
  o : List UInt8
  e : Int
  l : Int
def Ly.add (x y : Ly) : Ly := ⟨x.o ++ y.o, or0 x.e y.e, or0 x.l y.l⟩
def ly0 : Ly := ⟨[], 0, 0⟩
theorem Ly.add_assoc (x y z : Ly) : (x.add y).add z = x.add (y.add z) := by simp only [Ly.add, List.append_assoc, or0_assoc]
theorem Ly.add_0 (x : Ly) : x.add ly0 = x := by simp [Ly.add, ly0, or0_r]
theorem Ly.zero_add (x : Ly) : ly0.add x = x := by simp [Ly.add, ly0, or0_0]
def lyO (b : List UInt8) : Ly := ⟨b, 0, 0⟩
def lyB (b : List UInt8) : Ly := ⟨bytesB b, 0, if b.length > 4096 then 2 else 0⟩
def lyN (n : Nat) : Ly := ⟨uintB n, if n > 512 then 2 else 0, 0⟩
def lyE (e : Int) : Ly := ⟨[], e, 0⟩
def lyL {α : Type} (f : α → Ly) : List α → Ly
  | [] => ly0
  | x :: xs => (f x).add (lyL f xs)
theorem lyL_app {α : Type} (f : α → Ly) : ∀ (a b : List α), lyL f (a ++ b) = (lyL f a).add (lyL f b)
  | [], b => (Ly.zero_add _).symm
  | x :: a, b => by rw [List.cons_append, lyL, lyL, lyL_app f a b, Ly.add_assoc]
theorem lyL_snoc {α : Type} (f : α → Ly) {l : List α} {i : Nat} (hi : i < l.length) : lyL f (l.take (i + 1)) = (lyL f (l.take i)).add (f l[i]) := by
  rw [List.take_succ_eq_append_getElem hi, lyL_app, lyL, lyL, Ly.add_0]
def wsum {α : Type} (g : α → Nat) : List α → Nat
  | [] => 0
  | x :: xs => g x + wsum g xs
theorem lyL_len {α : Type} {f : α → Ly} {g : α → Nat} {c : Nat} : ∀ {l : List α}, (∀ x ∈ l, (f x).o.length ≤ c * g x) → (lyL f l).o.length ≤ c * wsum g l
  | [], _ => by simp [lyL, ly0, wsum]
  | x :: l, h => by
    have h1 := h x (by simp)
    have h2 := lyL_len (l := l) fun y hy => h y (by simp [hy])
    simp only [lyL, Ly.add, List.length_append, wsum, Nat.mul_add]
    omega
theorem wsum_take {α : Type} (g : α → Nat) : ∀ (l : List α) (i : Nat), wsum g (l.take i) ≤ wsum g l
  | [], i => by simp
  | x :: l, 0 => by simp [wsum]
  | x :: l, i + 1 => by have := wsum_take g l i; simp only [List.take_succ_cons, wsum]; omega
theorem wsum_mem {α : Type} (g : α → Nat) : ∀ {l : List α} {x : α}, x ∈ l → g x ≤ wsum g l
  | y :: l, x, h => by
    rcases List.mem_cons.1 h with rfl | h
    · simp only [wsum]; omega
    · have := wsum_mem g h; simp only [wsum]; omega
theorem wsum_len {α : Type} {g : α → Nat} (hg : ∀ x, 1 ≤ g x) : ∀ l : List α, l.length ≤ wsum g l
  | [] => by simp [wsum]
  | x :: l => by have := wsum_len hg l; have := hg x; simp only [wsum, List.length_cons]; omega
theorem lyL_o {α : Type} (f : α → Ly) : ∀ l : List α, (lyL f l).o = l.flatMap fun x => (f x).o
  | [] => rfl
  | x :: l => by simp only [lyL, Ly.add, List.flatMap_cons, lyL_o f l]
theorem lyL_e {α : Type} (f : α → Ly) : ∀ l : List α, (lyL f l).e = 0 ↔ ∀ x ∈ l, (f x).e = 0
  | [] => by simp [lyL, ly0]
  | x :: l => by simp only [lyL, Ly.add, or0_zero, lyL_e f l, List.mem_cons, forall_eq_or_imp]
theorem lyL_l {α : Type} (f : α → Ly) : ∀ l : List α, (lyL f l).l = 0 ↔ ∀ x ∈ l, (f x).l = 0
  | [] => by simp [lyL, ly0]
  | x :: l => by simp only [lyL, Ly.add, or0_zero, lyL_l f l, List.mem_cons, forall_eq_or_imp]
end Go.Pk
