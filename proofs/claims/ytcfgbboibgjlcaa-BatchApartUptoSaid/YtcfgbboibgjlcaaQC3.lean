/- Layer 3 in plain Lean: what was cut off is found out. -/
import Derived.Test.YtcfgbboibgjlcaaQC2
namespace Go.Pk
open Go
theorem rdU_mono (r : List UInt8) : ∀ (l : List UInt8) (k n : Nat) (x : Nat × Nat), rdU l k n = .inr x → rdU (l ++ r) k n = .inr x := by
  intro l
  induction l with
  | nil => intro k n x h; simp [rdU] at h
  | cons b l ih =>
    intro k n x h
    simp only [rdU, List.cons_append] at h ⊢
    split at h
    · cases h
    · rename_i h1
      rw [if_neg h1]
      split at h
      · rename_i h2; rw [if_pos h2]; exact h
      · rename_i h2; rw [if_neg h2]; exact ih _ _ _ h
theorem takeU_err {t : List UInt8} {p : Nat} {e : Int} (h : e ≠ 0) : takeU t p e = (0, p, e) := by simp [takeU, h]
theorem takeU_cut {t : List UInt8} {p n m : Nat} (h : t.drop p = (uintB n).take m) (hn : n < 2 ^ 64) (hm : m < (uintB n).length) : (takeU t p 0).1 = 0 ∧ (takeU t p 0).2.2 ≠ 0 := by
  simp only [takeU, ne_eq, not_true_eq_false, if_false]
  have hb := rdU_bound (t.drop p) 0 0 (by omega) (by simp)
  cases hr : rdU (t.drop p) 0 0 with
  | inl e' =>
    rw [hr] at hb
    simp only [rdOk] at hb
    refine ⟨rfl, ?_⟩
    show e' ≠ 0
    omega
  | inr x =>
    rw [hr] at hb
    simp only [rdOk] at hb
    have h1 := rdU_mono ((uintB n).drop m) _ _ _ _ hr
    rw [h, List.take_append_drop] at h1
    have h2 := rdU_uintB n n (Nat.le_refl _) 0 0 [] (by simpa using hn) (.inl rfl) (by omega)
    rw [List.append_nil, h1] at h2
    simp at h2
    have hl : (t.drop p).length = m := by rw [h]; simp; omega
    have : x.2 = (uintB n).length := by rw [h2]
    omega
theorem takeF_cut {t : List UInt8} {p m : Nat} {b : Bool} (h : t.drop p = (flagB b).take m) (hm : m < (flagB b).length) : (takeF t p 0).2.2 ≠ 0 := by
  rw [flagB_eq] at h hm
  have := takeU_cut h (by cases b <;> decide) hm
  simp only [takeF]
  rw [if_neg (by omega)]
  exact this.2
theorem takeX_cut {t : List UInt8} {p n m : Nat} (h : t.drop p = (fixedB n).take m) (hm : m < (fixedB n).length) : (takeX t p 0).2.2 ≠ 0 := by
  have hl := congrArg List.length h
  simp [fixedB] at hl hm
  simp only [takeX, ne_eq, not_true_eq_false, if_false]
  rw [if_pos (by omega)]
  simp
theorem drop_len {α : Type} {t u : List α} {p : Nat} (h : t.drop p = u) : t.length - p = u.length := by rw [← h]; simp
theorem cut_append {t a b : List UInt8} {p m : Nat} (h : t.drop p = (a ++ b).take m) (hm : a.length ≤ m) : t.drop p = a ++ b.take (m - a.length) := by
  rw [h, List.take_append, List.take_of_length_le hm]
theorem cut_left {t a b : List UInt8} {p m : Nat} (h : t.drop p = (a ++ b).take m) (hm : m ≤ a.length) : t.drop p = a.take m := by
  rw [h, List.take_append_of_le_length hm]
theorem takeB_cut {t n : List UInt8} {p m : Nat} (h : t.drop p = (bytesB n).take m) (hn : n.length ≤ 4096) (hm : m < (bytesB n).length) : (takeB t p 0).2.2 ≠ 0 := by
  simp only [bytesB, List.length_append] at h hm
  rcases Nat.lt_or_ge m (uintB n.length).length with hc | hc
  · have := takeU_cut (cut_left h (by omega)) (by omega) hc
    simp only [takeB]
    rw [if_pos this.2]
    exact this.2
  · have h' := cut_append h hc
    have e0 := takeU_at h' (by omega)
    have hl := drop_len h'
    simp at hl
    have hp : p + (uintB n.length).length ≤ t.length := by
      have := uintB_pos n.length
      omega
    simp only [takeB, e0]
    rw [if_neg (by simp), if_neg (by omega), if_pos (by omega)]
    simp
theorem takeN_cut {t : List UInt8} : ∀ (l : List Int) (p m : Nat) (acc : List Int), (∀ i ∈ l, -9223372036854775808 ≤ i ∧ i < 9223372036854775808) → t.drop p = (l.flatMap intB).take m → m < (l.flatMap intB).length →
    (takeN t l.length p acc).2.2 ≠ 0 := by
  intro l
  induction l with
  | nil => intro p m acc _ _ hm; simp at hm
  | cons x l ih =>
    intro p m acc hb h hm
    simp only [List.flatMap_cons, List.length_append] at h hm
    have hx := hb x (by simp)
    simp only [List.length_cons, takeN]
    rcases Nat.lt_or_ge m (intB x).length with hc | hc
    · have := takeU_cut (n := zig x) (cut_left (a := intB x) h (Nat.le_of_lt hc)) (zig_lt hx.1 hx.2) hc
      have e1 : (takeI t p 0).2.2 = (takeU t p 0).2.2 := rfl
      rw [e1, if_pos this.2]
      exact this.2
    · have h' := cut_append h hc
      have e0 := takeI_at h' hx.1 hx.2
      rw [e0, if_neg (by simp)]
      exact ih _ _ _ (fun i hi => hb i (by simp [hi])) (drop_add h') (by omega)
theorem takeL_cut {t : List UInt8} {n : List Int} {p m : Nat} (h : t.drop p = (intsB n).take m) (hn : n.length ≤ 4096) (hb : ∀ i ∈ n, -9223372036854775808 ≤ i ∧ i < 9223372036854775808) (hm : m < (intsB n).length) : (takeL t p 0).2.2 ≠ 0 := by
  simp only [intsB, List.length_append] at h hm
  rcases Nat.lt_or_ge m (uintB n.length).length with hc | hc
  · have := takeU_cut (cut_left h (by omega)) (by omega) hc
    simp only [takeL]
    rw [if_pos this.2]
    exact this.2
  · have h' := cut_append h hc
    have e0 := takeU_at h' (by omega)
    simp only [takeL, e0]
    rw [if_neg (by simp), if_neg (by omega)]
    exact takeN_cut n _ _ _ hb (drop_add h') (by omega)
theorem takeF_err {t : List UInt8} {p : Nat} {e : Int} (h : e ≠ 0) : takeF t p e = (false, p, e) := by simp [takeF, takeU_err h]
theorem takeX_err {t : List UInt8} {p : Nat} {e : Int} (h : e ≠ 0) : takeX t p e = (0, p, e) := by simp [takeX, h]
theorem takeB_err {t : List UInt8} {p : Nat} {e : Int} (h : e ≠ 0) : takeB t p e = ([], p, e) := by simp [takeB, takeU_err h, h]
theorem takeL_err {t : List UInt8} {p : Nat} {e : Int} (h : e ≠ 0) : takeL t p e = ([], p, e) := by simp [takeL, takeU_err h, h]
theorem takeI_err {t : List UInt8} {p : Nat} {e : Int} (h : e ≠ 0) : takeI t p e = (0, p, e) := by simp [takeI, takeU_err h, zag]
end Go.Pk
