/- Forms in plain Lean: a taker and its writer, one behind the other. -/
import Derived.Test.YtcfgbboibgjlcaaQC3
namespace Go.Pk
open Go
theorem rdU_cut6 (m : Nat) : ∀ (n : Nat), n ≤ m → ∀ (k acc j : Nat), n * 128 ^ k < 2 ^ 64 → (k = 0 ∨ 0 < n) → k ≤ 9 → j < (uintB n).length → rdU ((uintB n).take j) k acc = .inl 6 := by
  induction m with
  | zero =>
    intro n hn k acc j _ h0 _ hj
    have : n = 0 := by omega
    subst this
    rw [uintB_small (by decide)] at hj ⊢
    simp at hj
    subst hj
    simp [rdU]
  | succ m ih =>
    intro n hn k acc j hlt h0 hk hj
    by_cases hs : n ≤ 127
    · rw [uintB_small hs] at hj ⊢
      simp at hj
      subst hj
      simp [rdU]
    · rw [uintB_big hs] at hj ⊢
      cases j with
      | zero => simp [rdU]
      | succ j =>
        have hb : (UInt8.ofNat (n % 128 + 128)).toNat = n % 128 + 128 := by simp; omega
        have hk9 : k < 9 := by
          rcases Nat.lt_or_ge k 9 with h | h
          · exact h
          · have : k = 9 := by omega
            subst this; omega
        simp only [List.length_cons] at hj
        simp only [List.take_succ_cons, rdU, hb]
        rw [if_neg (by omega), if_neg (by omega)]
        have e1 : n / 128 * 128 ^ (k + 1) = n / 128 * 128 * 128 ^ k := by rw [Nat.pow_succ, Nat.mul_assoc, Nat.mul_comm (128 ^ k) 128]
        have e2 : n / 128 * 128 * 128 ^ k ≤ n * 128 ^ k := Nat.mul_le_mul_right _ (by omega)
        exact ih (n / 128) (by omega) (k + 1) _ j (by omega) (by omega) (by omega) (by omega)
/-- what was taken stands there -/
theorem rdU_back : ∀ (l : List UInt8) (k acc v c : Nat), rdU l k acc = .inr (v, c) → ∃ n, v = acc + n * 128 ^ k ∧ k < c ∧ c - k ≤ l.length ∧ l.take (c - k) = uintB n ∧ (0 < k → 0 < n) := by
  intro l
  induction l with
  | nil => intro k acc v c h; simp [rdU] at h
  | cons b l ih =>
    intro k acc v c h
    simp only [rdU] at h
    split at h
    · cases h
    · rename_i h1
      split at h
      · rename_i h2
        simp only [Sum.inr.injEq, Prod.mk.injEq] at h
        obtain ⟨rfl, rfl⟩ := h
        have hb : UInt8.ofNat b.toNat = b := by simp
        refine ⟨b.toNat, rfl, by omega, by simp, ?_, fun hk => ?_⟩
        · rw [uintB_small (by omega), hb, Nat.add_sub_cancel_left]; rfl
        · rcases Nat.eq_zero_or_pos b.toNat with h3 | h3
          · exact absurd (.inr ⟨h3, hk⟩) h1
          · exact h3
      · rename_i h2
        obtain ⟨n, hv, hc, hl, ht, hn⟩ := ih _ _ _ _ h
        have hn' := hn (by omega)
        have hlt : b.toNat < 256 := b.toNat_lt
        refine ⟨(b.toNat - 128) + n * 128, ?_, by omega, by simp only [List.length_cons]; omega, ?_, fun _ => by omega⟩
        · rw [hv, Nat.add_mul, Nat.mul_assoc, Nat.pow_succ, Nat.mul_comm (128 ^ k) 128, Nat.add_assoc]
        · rw [uintB_big (by omega)]
          have e1 : (b.toNat - 128 + n * 128) / 128 = n := by omega
          have e2 : (b.toNat - 128 + n * 128) % 128 + 128 = b.toNat := by omega
          have e3 : c - k = (c - (k + 1)) + 1 := by omega
          rw [e1, e2, e3, List.take_succ_cons, ht]
          simp
abbrev Tk (α : Type) := List UInt8 → Nat → Int → α × Nat × Int
structure Fm {α : Type} (take : Tk α) (enc : α → List UInt8) (ok : α → Prop) : Prop where
  hits : ∀ {t r : List UInt8} {p : Nat} {a : α}, ok a → t.drop p = enc a ++ r → take t p 0 = (a, p + (enc a).length, 0)
  cut : ∀ {t : List UInt8} {p m : Nat} {a : α}, ok a → t.drop p = (enc a).take m → m < (enc a).length → (take t p 0).2.2 = 6
  back : ∀ {t : List UInt8} {p : Nat}, p ≤ t.length → (take t p 0).2.2 = 0 → ok (take t p 0).1 ∧ t.drop p = enc (take t p 0).1 ++ t.drop (take t p 0).2.1 ∧ (take t p 0).2.1 ≤ t.length
def Er {α : Type} (take : Tk α) : Prop := ∀ (t : List UInt8) (p : Nat) (e : Int), e ≠ 0 → (take t p e).2 = (p, e)
theorem erU : Er takeU := fun _ _ _ h => by rw [takeU_err h]
theorem erI : Er takeI := fun _ _ _ h => by rw [takeI_err h]
theorem erF : Er takeF := fun _ _ _ h => by rw [takeF_err h]
theorem erB : Er takeB := fun _ _ _ h => by rw [takeB_err h]
theorem erL : Er takeL := fun _ _ _ h => by rw [takeL_err h]
theorem takeU_cut6 {t : List UInt8} {p n m : Nat} (h : t.drop p = (uintB n).take m) (hn : n < 2 ^ 64) (hm : m < (uintB n).length) : takeU t p 0 = (0, p, 6) := by
  simp only [takeU, ne_eq, not_true_eq_false, if_false, h]
  rw [rdU_cut6 n n (Nat.le_refl _) 0 0 m (by simpa using hn) (.inl rfl) (by omega) hm]
theorem takeU_back {t : List UInt8} {p : Nat} (hp : p ≤ t.length) (h : (takeU t p 0).2.2 = 0) : (takeU t p 0).1 < 2 ^ 64 ∧ t.drop p = uintB (takeU t p 0).1 ++ t.drop (takeU t p 0).2.1 ∧ (takeU t p 0).2.1 ≤ t.length := by
  have hb := takeU_bound (e := 0) hp
  refine ⟨hb.1, ?_, hb.2.2.1⟩
  have hbd := rdU_bound (t.drop p) 0 0 (by omega) (by simp)
  simp only [takeU, ne_eq, not_true_eq_false, if_false] at h ⊢
  cases hr : rdU (t.drop p) 0 0 with
  | inl e' =>
    rw [hr] at h hbd
    simp only [rdOk] at hbd
    simp only at h
    omega
  | inr x =>
    obtain ⟨v, c⟩ := x
    obtain ⟨n, hv, hc, hl, ht, _⟩ := rdU_back _ _ _ _ _ hr
    simp only [Nat.sub_zero, Nat.pow_zero, Nat.mul_one, Nat.zero_add] at hv ht hl
    subst hv
    simp only
    rw [← ht, ← List.drop_drop, List.take_append_drop]
theorem fmU : Fm takeU uintB (· < 2 ^ 64) where
  hits hn h := takeU_at h hn
  cut hn h hm := by rw [takeU_cut6 h hn hm]
  back := takeU_back
theorem fmI : Fm takeI intB (fun n => -9223372036854775808 ≤ n ∧ n < 9223372036854775808) where
  hits hn h := takeI_at h hn.1 hn.2
  cut hn h hm := by show (takeU _ _ _).2.2 = 6; rw [takeU_cut6 h (zig_lt hn.1 hn.2) hm]
  back {t p} hp h := by
    obtain ⟨h1, h2, h3⟩ := takeU_back hp h
    refine ⟨?_, ?_, h3⟩
    · show -9223372036854775808 ≤ zag (takeU t p 0).1 ∧ zag (takeU t p 0).1 < 9223372036854775808
      unfold zag
      split <;> omega
    · show t.drop p = uintB (zig (zag (takeU t p 0).1)) ++ _
      rw [zig_zag]; exact h2
theorem fmF : Fm takeF flagB (fun _ => True) where
  hits {t r p a} _ h := by rw [takeF_at h]; rfl
  cut {t p m a} _ h hm := by
    rw [flagB_eq] at h hm
    have := takeU_cut6 h (by cases a <;> decide) hm
    simp [takeF, this]
  back {t p} hp h := by
    simp only [takeF] at h ⊢
    by_cases h1 : (takeU t p 0).1 > 1
    · rw [if_pos h1] at h
      simp only at h
      split at h
      · cases h
      · rename_i h2; exact absurd h h2
    · rw [if_neg h1] at h ⊢
      obtain ⟨_, h2, h3⟩ := takeU_back hp h
      refine ⟨trivial, ?_, h3⟩
      show t.drop p = flagB ((takeU t p 0).1 == 1) ++ t.drop (takeU t p 0).2.1
      rw [flagB_eq]
      have hx : (takeU t p 0).1 = 0 ∨ (takeU t p 0).1 = 1 := by omega
      rcases hx with hx | hx <;> rw [hx] at h2 ⊢ <;> exact h2
theorem fmB : Fm takeB bytesB (fun b => b.length ≤ 4096) where
  hits hn h := takeB_at h hn
  cut {t p m n} hn h hm := by
    simp only [bytesB, List.length_append] at h hm
    rcases Nat.lt_or_ge m (uintB n.length).length with hc | hc
    · have := takeU_cut6 (cut_left h (by omega)) (by omega) hc
      simp [takeB, this]
    · have h' := cut_append h hc
      have e0 := takeU_at h' (by omega)
      have hl := drop_len h'
      simp at hl
      have hp : p + (uintB n.length).length ≤ t.length := by
        have := uintB_pos n.length
        omega
      simp only [takeB, e0]
      rw [if_neg (by simp), if_neg (by omega), if_pos (by omega)]
  back {t p} hp h := by
    simp only [takeB] at h ⊢
    by_cases h1 : (takeU t p 0).2.2 ≠ 0
    · rw [if_pos h1] at h; exact absurd h h1
    · rw [if_neg h1] at h ⊢
      obtain ⟨h2, h3, h4⟩ := takeU_back hp (by simpa using h1)
      by_cases h5 : (takeU t p 0).1 > 4096
      · rw [if_pos h5] at h; cases h
      · rw [if_neg h5] at h ⊢
        by_cases h6 : (takeU t p 0).1 > t.length - (takeU t p 0).2.1
        · rw [if_pos h6] at h; cases h
        · rw [if_neg h6]
          refine ⟨by simp; omega, ?_, by simp only; omega⟩
          have hl : ((t.drop (takeU t p 0).2.1).take (takeU t p 0).1).length = (takeU t p 0).1 := by simp; omega
          simp only [bytesB, hl]
          rw [List.append_assoc, ← List.drop_drop, List.take_append_drop]
          exact h3
/-- one behind the other; the second may go by what the first has taken -/
def Tk.dep {α β : Type} (f : Tk α) (g : α → Tk β) : Tk (α × β) := fun t p e => (((f t p e).1, (g (f t p e).1 t (f t p e).2.1 (f t p e).2.2).1), (g (f t p e).1 t (f t p e).2.1 (f t p e).2.2).2)
theorem Er.dep {α β : Type} {f : Tk α} {g : α → Tk β} (hf : Er f) (hg : ∀ a, Er (g a)) : Er (f.dep g) := fun t p e he => by
  have h1 := hf t p e he
  simp only [Tk.dep, h1]
  exact hg _ _ _ _ he
theorem Fm.dep {α β : Type} {f : Tk α} {g : α → Tk β} {enc : α → List UInt8} {enc' : β → List UInt8} {ok : α → Prop} {ok' : α → β → Prop}
    (hf : Fm f enc ok) (he : ∀ a, Er (g a)) (hg : ∀ a, ok a → Fm (g a) enc' (ok' a)) : Fm (f.dep g) (fun x => enc x.1 ++ enc' x.2) (fun x => ok x.1 ∧ ok' x.1 x.2) where
  hits {t r p x} ho h := by
    obtain ⟨a, b⟩ := x
    rw [List.append_assoc] at h
    have h1 := hf.hits ho.1 h
    have h2 := (hg a ho.1).hits ho.2 (drop_add h)
    simp only [Tk.dep, h1, h2, List.length_append]
    rw [Nat.add_assoc]
  cut {t p m x} ho h hm := by
    obtain ⟨a, b⟩ := x
    simp only [List.length_append] at h hm ho
    rcases Nat.lt_or_ge m (enc a).length with hc | hc
    · have h1 := hf.cut ho.1 (cut_left h (by omega)) hc
      have h2 := he (f t p 0).1 t (f t p 0).2.1 (f t p 0).2.2 (by rw [h1]; decide)
      simp only [Tk.dep]
      rw [h2]; exact h1
    · have h' := cut_append h hc
      have h1 := hf.hits ho.1 h'
      simp only [Tk.dep, h1]
      exact (hg a ho.1).cut ho.2 (drop_add h') (by omega)
  back {t p} hp h := by
    simp only [Tk.dep] at h ⊢
    by_cases h1 : (f t p 0).2.2 = 0
    · obtain ⟨a1, a2, a3⟩ := hf.back hp h1
      rw [h1] at h ⊢
      obtain ⟨b1, b2, b3⟩ := (hg _ a1).back a3 h
      refine ⟨⟨a1, b1⟩, ?_, b3⟩
      rw [List.append_assoc, ← b2]; exact a2
    · have h2 := he (f t p 0).1 t (f t p 0).2.1 _ h1
      rw [h2] at h
      exact absurd h h1
/-- so many, one by one -/
def Tk.rep {α : Type} (f : Tk α) : Nat → Tk (List α)
  | 0, _, p, e => ([], p, e)
  | n + 1, t, p, e => ((f t p e).1 :: (f.rep n t (f t p e).2.1 (f t p e).2.2).1, (f.rep n t (f t p e).2.1 (f t p e).2.2).2)
theorem Er.rep {α : Type} {f : Tk α} (hf : Er f) : ∀ n, Er (f.rep n)
  | 0 => fun _ _ _ _ => rfl
  | n + 1 => fun t p e he => by
    have h1 := hf t p e he
    simp only [Tk.rep, h1]
    exact Er.rep hf n _ _ _ he
theorem Fm.rep {α : Type} {f : Tk α} {enc : α → List UInt8} {ok : α → Prop} (hf : Fm f enc ok) (he : Er f) : ∀ n, Fm (f.rep n) (fun l => l.flatMap enc) (fun l => l.length = n ∧ ∀ a ∈ l, ok a)
  | 0 => {
    hits := fun {t r p a} ho _ => by
      have : a = [] := List.eq_nil_of_length_eq_zero ho.1
      subst this; rfl
    cut := fun {t p m a} ho _ hm => by
      have : a = [] := List.eq_nil_of_length_eq_zero ho.1
      subst this; simp at hm
    back := fun {t p} hp _ => ⟨⟨rfl, by simp [Tk.rep]⟩, by simp [Tk.rep], hp⟩ }
  | n + 1 => {
    hits := fun {t r p a} ho h => by
      match a, ho with
      | x :: a, ho =>
      simp only [List.flatMap_cons, List.append_assoc] at h
      have h1 := hf.hits (ho.2 x (by simp)) h
      have h2 := (Fm.rep hf he n).hits ⟨by simpa using ho.1, fun y hy => ho.2 y (by simp [hy])⟩ (drop_add h)
      simp only [Tk.rep, h1, h2, List.flatMap_cons, List.length_append]
      rw [Nat.add_assoc]
    cut := fun {t p m a} ho h hm => by
      match a, ho with
      | x :: a, ho =>
      simp only [List.flatMap_cons, List.length_append] at h hm
      rcases Nat.lt_or_ge m (enc x).length with hc | hc
      · have h1 := hf.cut (ho.2 x (by simp)) (cut_left h (by omega)) hc
        have h2 := Er.rep he n t (f t p 0).2.1 (f t p 0).2.2 (by rw [h1]; decide)
        simp only [Tk.rep]
        rw [h2]; exact h1
      · have h' := cut_append h hc
        have h1 := hf.hits (ho.2 x (by simp)) h'
        simp only [Tk.rep, h1]
        exact (Fm.rep hf he n).cut ⟨by simpa using ho.1, fun y hy => ho.2 y (by simp [hy])⟩ (drop_add h') (by omega)
    back := fun {t p} hp h => by
      simp only [Tk.rep] at h ⊢
      by_cases h1 : (f t p 0).2.2 = 0
      · obtain ⟨a1, a2, a3⟩ := hf.back hp h1
        rw [h1] at h ⊢
        obtain ⟨b1, b2, b3⟩ := (Fm.rep hf he n).back a3 h
        refine ⟨⟨by simp [b1.1], fun y hy => ?_⟩, ?_, b3⟩
        · rcases List.mem_cons.1 hy with rfl | hy
          · exact a1
          · exact b1.2 y hy
        · simp only [List.flatMap_cons, List.append_assoc]
          rw [← b2]; exact a2
      · have h2 := Er.rep he n t (f t p 0).2.1 _ h1
        rw [h2] at h
        exact absurd h h1 }
end Go.Pk
