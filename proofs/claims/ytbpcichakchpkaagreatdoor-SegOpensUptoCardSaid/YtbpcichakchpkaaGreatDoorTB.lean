/- Layer 8 in plain Lean: the names of a log's files tell their offsets, and stand in their order. -/
import Derived.Test.YtbpcichakchpkaaGreatDoorTA
namespace Go.Proofs.YtbpcichakchpkaaGreatDoor
open Go Go.Pk
def padd : Nat → Nat → List UInt8
  | 0, _ => []
  | k + 1, u => UInt8.ofNat (48 + u / 10 ^ k) :: padd k (u % 10 ^ k)
theorem padd_len : ∀ k u, (padd k u).length = k
  | 0, _ => rfl
  | k + 1, u => by simp [padd, padd_len k]
theorem padd_snoc : ∀ k u, padd (k + 1) u = padd k (u / 10) ++ [UInt8.ofNat (48 + u % 10 % 10)] ∨ u ≥ 10 ^ (k + 1)
  | 0, u => by
    by_cases h : u ≥ 10 ^ (0 + 1)
    · exact .inr h
    · refine .inl ?_
      simp [padd]
      have : u % 10 = u := by omega
      rw [this]
  | k + 1, u => by
    by_cases h : u ≥ 10 ^ (k + 1 + 1)
    · exact .inr h
    · refine .inl ?_
      have hp : 0 < 10 ^ (k + 1) := Nat.pow_pos (by omega)
      have hlt : u % 10 ^ (k + 1) < 10 ^ (k + 1) := Nat.mod_lt _ hp
      have ih := (padd_snoc k (u % 10 ^ (k + 1))).resolve_right (by omega)
      rw [padd, ih, padd]
      have e1 : u / 10 / 10 ^ k = u / 10 ^ (k + 1) := by rw [Nat.div_div_eq_div_mul, Nat.pow_succ, Nat.mul_comm]
      have e2 : u % 10 ^ (k + 1) / 10 = u / 10 % 10 ^ k := by
        rw [Nat.pow_succ, Nat.mul_comm, Nat.mod_mul_right_div_self]
      have e3 : u % 10 ^ (k + 1) % 10 = u % 10 := by
        rw [Nat.pow_succ, Nat.mul_comm, Nat.mod_mul_right_mod]
      rw [e1, e2, e3, List.cons_append]
theorem padd_small : ∀ k u, u < 10 → padd (k + 1) u = Lib.repeatL [48] k ++ [UInt8.ofNat (48 + u)]
  | 0, u, h => by simp [padd, Lib.repeatL]
  | k + 1, u, h => by
    have hp : 10 ≤ 10 ^ (k + 1) := by rw [Nat.pow_succ]; have : 0 < 10 ^ k := Nat.pow_pos (by omega); omega
    have e1 : u / 10 ^ (k + 1) = 0 := Nat.div_eq_of_lt (by omega)
    have e2 : u % 10 ^ (k + 1) = u := Nat.mod_eq_of_lt (by omega)
    rw [padd, e1, e2, padd_small k u h, Lib.repeatL]; rfl
theorem padd_eq : ∀ (k u : Nat), Lib.nDigits u ≤ k → Lib.repeatL [48] (k - Lib.nDigits u) ++ Lib.decDigits u = padd k u := by
  intro k u
  induction u using Nat.strongRecOn generalizing k with
  | ind u ih =>
    intro h
    by_cases hu : u < 10
    · have e := Lib.nDigits_small hu
      rw [e] at h ⊢
      obtain ⟨j, rfl⟩ : ∃ j, k = j + 1 := ⟨k - 1, by omega⟩
      rw [padd_small j u hu, Lib.decDigits_one hu]; rfl
    · have e := Lib.nDigits_big hu
      rw [e] at h ⊢
      obtain ⟨j, rfl⟩ : ∃ j, k = j + 1 := ⟨k - 1, by omega⟩
      have e2 : j + 1 - (Lib.nDigits (u / 10) + 1) = j - Lib.nDigits (u / 10) := by omega
      have ih' := ih (u / 10) (by omega) j (by omega)
      have e3 : Lib.decDigits u = Lib.decDigits (u / 10) ++ [UInt8.ofNat (48 + u % 10)] := by
        rw [Lib.decDigits, dif_neg hu]
      rw [e2, e3, ← List.append_assoc, ih']
      have hlt : u < 10 ^ (j + 1) := Nat.lt_of_lt_of_le (Lib.lt_pow_nDigits u) (Nat.pow_le_pow_right (by omega) (by rw [e]; omega))
      have := (padd_snoc j u).resolve_right (by omega)
      rw [this]
      have : u % 10 % 10 = u % 10 := by omega
      rw [this]
theorem digit_toNat {d : Nat} (h : d < 10) : (UInt8.ofNat (48 + d)).toNat = 48 + d := by
  rw [UInt8.toNat_ofNat']; omega
theorem parse_padd : ∀ (k u acc : Nat), u < 10 ^ k → acc * 10 ^ k + u < 1000000000000000000 → Lib.parseUint10 acc (padd k u) = .ok (acc * 10 ^ k + u)
  | 0, u, acc, h, _ => by simp at h; simp [padd, Lib.parseUint10, h]
  | k + 1, u, acc, h, hb => by
    have hp : 0 < 10 ^ k := Nat.pow_pos (by omega)
    have hd : u / 10 ^ k < 10 := by
      rw [Nat.div_lt_iff_lt_mul hp]; rw [Nat.pow_succ] at h; omega
    have hm := Nat.div_add_mod u (10 ^ k)
    have hlt := Nat.mod_lt u hp
    rw [padd, Lib.parseUint10, digit_toNat hd]
    have e2 : acc * 10 ^ (k + 1) = acc * 10 * 10 ^ k := by rw [Nat.pow_succ]; ac_rfl
    have hacc : acc * 10 ≤ acc * 10 * 10 ^ k := Nat.le_mul_of_pos_right _ hp
    have hs : (acc * 10 + u / 10 ^ k) * 10 ^ k + u % 10 ^ k = acc * 10 * 10 ^ k + u := by
      rw [Nat.add_mul, Nat.mul_comm (u / 10 ^ k)]; omega
    rw [e2] at hb ⊢
    have e1 : 48 + u / 10 ^ k - 48 = u / 10 ^ k := Nat.add_sub_cancel_left _ _
    rw [e1]
    have ih := parse_padd k (u % 10 ^ k) (acc * 10 + u / 10 ^ k) hlt (by rw [hs]; exact hb)
    rw [hs] at ih
    generalize u / 10 ^ k = q at *
    generalize acc * 10 * 10 ^ k = A at *
    rw [if_pos (by omega), if_neg (by omega), if_neg (by omega)]
    exact ih
theorem segF_eq (n : List UInt8) {v : Int} (h0 : 0 ≤ v) (h1 : v < 100000000) : segF n v = n ++ [46] ++ padd 8 v.toNat := by
  obtain ⟨u, rfl⟩ : ∃ u : Nat, v = u := ⟨v.toNat, by omega⟩
  have hn : Lib.nDigits u ≤ 8 := by
    rcases Nat.lt_or_ge 8 (Lib.nDigits u) with hh | hh
    · exfalso
      have h8 : ∀ k u, k < Lib.nDigits u → 10 ^ k ≤ u ∨ k = 0 := by
        intro k
        induction k with
        | zero => intro _ _; exact .inr rfl
        | succ k ih =>
          intro u hk
          by_cases hu : u < 10
          · rw [Lib.nDigits_small hu] at hk; omega
          · rw [Lib.nDigits_big hu] at hk
            rcases ih (u / 10) (by omega) with h | h
            · left; rw [Nat.pow_succ]; omega
            · subst h; left; omega
      rcases h8 8 u hh with h | h
      · have : (10 : Nat) ^ 8 = 100000000 := by decide
        omega
      · omega
    · exact hh
  have e := padd_eq 8 u hn
  have e2 : ((u : Int)).toNat = u := by omega
  unfold segF Lg.file
  rw [Lib.itoa_nonneg, Lib.decDigits_length, e2, List.append_assoc, e]
theorem padd_ne (k u : Nat) : padd (k + 1) u ≠ [] := by simp [padd]
theorem fileBase_segF (n : List UInt8) {v : Int} (h0 : 0 ≤ v) (h1 : v < 100000000) : fileBase ⟨n, [], 0⟩ (segF n v) = some v := by
  have e := segF_eq n h0 h1
  have hp : Lib.hasPrefix (segF n v) (n ++ [46]) = true := by
    rw [e]
    unfold Lib.hasPrefix
    exact List.isPrefixOf_iff_prefix.2 (List.prefix_append _ _)
  have ht : Lib.trimPrefix (segF n v) (n ++ [46]) = padd 8 v.toNat := by
    unfold Lib.trimPrefix
    rw [hp, if_pos rfl, e, List.drop_left]
  have hu : v.toNat < 10 ^ 8 := by have : (10 : Nat) ^ 8 = 100000000 := by decide
                                   omega
  have hpar : Lib.atoiAll (padd 8 v.toNat) = .ok v := by
    have hm : Lib.parseMag (padd 8 v.toNat) = .ok v.toNat := by
      unfold Lib.parseMag
      rw [if_neg (padd_ne 7 _), parse_padd 8 _ 0 hu (by omega)]
      simp
    have hd : v.toNat / 10 ^ 7 < 10 := by
      rw [Nat.div_lt_iff_lt_mul (by decide)]; omega
    have e8 : padd 8 v.toNat = UInt8.ofNat (48 + v.toNat / 10 ^ 7) :: padd 7 (v.toNat % 10 ^ 7) := rfl
    have hc := digit_toNat hd
    rw [e8] at hm ⊢
    rw [Lib.atoiAll_plain _ _ (by omega) (by omega), hm]
    unfold Lib.signless
    simp only
    rw [if_neg (by omega)]
    congr 1
    omega
  unfold fileBase
  rw [if_pos hp, ht, hpar]
  simp only
  rw [if_pos (show segF n v = (⟨n, [], 0⟩ : Lg).file v from rfl)]
theorem padd_lt : ∀ (k u v : Nat), u < v → v < 10 ^ k → padd k u < padd k v
  | 0, u, v, h1, h2 => by simp at h2; omega
  | k + 1, u, v, h1, h2 => by
    have hp : 0 < 10 ^ k := Nat.pow_pos (by omega)
    have hm := Nat.div_add_mod u (10 ^ k)
    have hm2 := Nat.div_add_mod v (10 ^ k)
    have hlt := Nat.mod_lt v hp
    have hd2 : v / 10 ^ k < 10 := by
      rw [Nat.div_lt_iff_lt_mul hp]; rw [Nat.pow_succ] at h2; omega
    have hle : u / 10 ^ k ≤ v / 10 ^ k := Nat.div_le_div_right (by omega)
    rw [padd, padd]
    rcases Nat.lt_or_eq_of_le hle with h | h
    · refine List.cons_lt_cons_iff.2 (.inl ?_)
      rw [UInt8.lt_iff_toNat_lt, digit_toNat (by omega), digit_toNat hd2]; omega
    · rw [h]
      refine List.cons_lt_cons_iff.2 (.inr ⟨rfl, padd_lt k _ _ ?_ hlt⟩)
      rw [h] at hm; omega
theorem app_lt (n : List UInt8) {a b : List UInt8} (h : a < b) : n ++ a < n ++ b := by
  induction n with
  | nil => exact h
  | cons x n ih => exact List.cons_lt_cons_iff.2 (.inr ⟨rfl, ih⟩)
theorem segF_lt (n : List UInt8) {v x : Int} (h0 : 0 ≤ v) (h : v < x) (h1 : x < 100000000) : segF n v < segF n x := by
  rw [segF_eq n h0 (by omega), segF_eq n (by omega) h1]
  refine app_lt _ (padd_lt 8 _ _ (by omega) ?_)
  have : (10 : Nat) ^ 8 = 100000000 := by decide
  omega
theorem segF_inj (n : List UInt8) {v x : Int} (h0 : 0 ≤ v) (h1 : v < 100000000) (h2 : 0 ≤ x) (h3 : x < 100000000) (h : segF n v = segF n x) : v = x := by
  have e1 := fileBase_segF n h0 h1
  rw [h, fileBase_segF n h2 h3] at e1
  exact (Option.some.inj e1).symm
end Go.Proofs.YtbpcichakchpkaaGreatDoor
