/- Layer 7 in plain Lean: what a batch's bytes are, and what they are taken as. -/
import Derived.Test.YtcfgbboibgjlcaaBG
import Derived.Test.YtcfgbboibgjlcaaQE
namespace Go.Proofs.Ytcfgbboibgjlcaa
open Go Go.Pk
abbrev HT := Int × Int × Nat × Int × Int × Bool × Bool × Bool × Nat
def takeHd : Tk HT := Tk.dep takeI fun _ => Tk.dep takeI fun _ => Tk.dep takeU fun _ => Tk.dep takeI fun _ => Tk.dep takeI fun _ => Tk.dep takeF fun _ => Tk.dep takeF fun _ => Tk.dep takeF fun _ => takeU
def encHd (x : HT) : List UInt8 := intB x.1 ++ (intB x.2.1 ++ (uintB x.2.2.1 ++ (intB x.2.2.2.1 ++ (intB x.2.2.2.2.1 ++ (flagB x.2.2.2.2.2.1 ++ (flagB x.2.2.2.2.2.2.1 ++ (flagB x.2.2.2.2.2.2.2.1 ++ uintB x.2.2.2.2.2.2.2.2)))))))
abbrev okI (n : Int) : Prop := -9223372036854775808 ≤ n ∧ n < 9223372036854775808
abbrev okU (n : Nat) : Prop := n < 2 ^ 64
def okHd (x : HT) : Prop := okI x.1 ∧ okI x.2.1 ∧ okU x.2.2.1 ∧ okI x.2.2.2.1 ∧ okI x.2.2.2.2.1 ∧ True ∧ True ∧ True ∧ okU x.2.2.2.2.2.2.2.2
theorem erHd : Er takeHd := erI.dep fun _ => erI.dep fun _ => erU.dep fun _ => erI.dep fun _ => erI.dep fun _ => erF.dep fun _ => erF.dep fun _ => erF.dep fun _ => erU
theorem fmHd : Fm takeHd encHd okHd :=
  fmI.dep (fun _ => erI.dep fun _ => erU.dep fun _ => erI.dep fun _ => erI.dep fun _ => erF.dep fun _ => erF.dep fun _ => erF.dep fun _ => erU) fun _ _ =>
  fmI.dep (fun _ => erU.dep fun _ => erI.dep fun _ => erI.dep fun _ => erF.dep fun _ => erF.dep fun _ => erF.dep fun _ => erU) fun _ _ =>
  fmU.dep (fun _ => erI.dep fun _ => erI.dep fun _ => erF.dep fun _ => erF.dep fun _ => erF.dep fun _ => erU) fun _ _ =>
  fmI.dep (fun _ => erI.dep fun _ => erF.dep fun _ => erF.dep fun _ => erF.dep fun _ => erU) fun _ _ =>
  fmI.dep (fun _ => erF.dep fun _ => erF.dep fun _ => erF.dep fun _ => erU) fun _ _ =>
  fmF.dep (fun _ => erF.dep fun _ => erF.dep fun _ => erU) fun _ _ =>
  fmF.dep (fun _ => erF.dep fun _ => erU) fun _ _ =>
  fmF.dep (fun _ => erU) fun _ _ => fmU
def nHd (x : HT) : Nat := x.2.2.2.2.2.2.2.2
def takeDc : Tk (HT × List (List UInt8)) := Tk.dep takeHd fun x => Tk.rep takeB (nHd x)
def encDc (x : HT × List (List UInt8)) : List UInt8 := encHd x.1 ++ x.2.flatMap bytesB
def okDc (x : HT × List (List UInt8)) : Prop := okHd x.1 ∧ x.2.length = nHd x.1 ∧ ∀ b ∈ x.2, b.length ≤ 4096
theorem erDc : Er takeDc := erHd.dep fun x => Er.rep erB _
theorem fmDc : Fm takeDc encDc okDc := fmHd.dep (fun x => Er.rep erB _) fun x _ => Fm.rep fmB erB (nHd x)
theorem takeVs_rep (t : List UInt8) : ∀ (n p : Nat) (e : Int), takeVs t n p e = Tk.rep takeB n t p e
  | 0, _, _ => rfl
  | n + 1, p, e => by simp only [takeVs, Tk.rep, takeVs_rep t n]
theorem dep_eq {α β : Type} {f : Tk α} {g : α → Tk β} {t : List UInt8} {p : Nat} {e : Int} {a : α × Nat × Int} {y : β} {z : Nat × Int} (h1 : f t p e = a) (h2 : g a.1 t a.2.1 a.2.2 = (y, z)) : f.dep g t p e = ((a.1, y), z) := by
  subst h1
  simp only [Tk.dep, h2]
theorem takeHd_eq (t : List UInt8) : takeHd t 0 0 = (((st1 t).1, (st2 t).1, (st3 t).1, (st4 t).1, (st5 t).1, (st6 t).1, (st7 t).1, (st8 t).1, (st9 t).1), (st9 t).2) := by
  unfold takeHd
  exact dep_eq (a := st1 t) (by rw [st1]) (dep_eq (a := st2 t) (by rw [st2]) (dep_eq (a := st3 t) (by rw [st3]) (dep_eq (a := st4 t) (by rw [st4]) (dep_eq (a := st5 t) (by rw [st5])
    (dep_eq (a := st6 t) (by rw [st6]) (dep_eq (a := st7 t) (by rw [st7]) (dep_eq (a := st8 t) (by rw [st8]) (by rw [st9]))))))))
theorem takeDc_eq (t : List UInt8) : takeDc t 0 0 = ((((st1 t).1, (st2 t).1, (st3 t).1, (st4 t).1, (st5 t).1, (st6 t).1, (st7 t).1, (st8 t).1, (st9 t).1), (stV t).1), (stV t).2) := by
  have h : stV t = Tk.rep takeB (st9 t).1 t (st9 t).2.1 (st9 t).2.2 := takeVs_rep _ _ _ _
  unfold takeDc
  exact dep_eq (takeHd_eq t) (by rw [h]; rfl)
def Dc.hd (d : Dc) : HT := (d.ba, d.ep, d.pid.toNat, d.pe, d.sq, d.tx, d.ct, d.cm, d.bs.length)
theorem encB_eq (d : Dc) : encB d = encDc (d.hd, d.bs) := by
  simp only [encB, headB, encDc, encHd, Dc.hd, List.append_assoc]
theorem ok_dc {d : Dc} (hn : d.num) (h : chk d = 0) : okDc (d.hd, d.bs) := by
  obtain ⟨_, _, n2⟩ := chk0 h
  obtain ⟨h1, h2, h3, h4, h5⟩ := hn
  have hb16 : d.bs.length ≤ 16 := Nat.le_of_not_lt fun h => n2 (.inl h)
  refine ⟨⟨h1, h2, ?_, h4, h5, trivial, trivial, trivial, ?_⟩, rfl, fun b hb => ?_⟩
  · show d.pid.toNat < 2 ^ 64; omega
  · show d.bs.length < 2 ^ 64; omega
  · have : b.length ≤ 64 := Nat.le_of_not_lt fun h => n2 (.inr ⟨b, hb, h⟩)
    omega
theorem dat_of {d d' : Dc} (hn : d.num) (hn' : 0 ≤ d'.pid) (h : d'.hd = d.hd) (hb : d'.bs = d.bs) : d'.dat = d.dat := by
  obtain ⟨_, _, ⟨h3, _⟩, _⟩ := hn
  simp only [Dc.hd, Prod.mk.injEq] at h
  obtain ⟨g1, g2, g3, g4, g5, g6, g7, g8, _⟩ := h
  simp only [Dc.dat, Prod.mk.injEq]
  exact ⟨g1, g2, by omega, g4, g5, g6, g7, g8, hb⟩
theorem hd_dec (t : List UInt8) : (takeDc t 0 0).1 = ((decD t).hd, (decD t).bs) ∨ (stV t).1.length ≠ (st9 t).1 := by
  by_cases h : (stV t).1.length = (st9 t).1
  · left
    rw [takeDc_eq]
    simp only [Dc.hd, decD, h, Int.toNat_natCast]
  · exact .inr h
theorem hd_dec' (t : List UInt8) : (takeDc t 0 0).1 = ((decD t).hd, (decD t).bs) := (hd_dec t).resolve_right fun h => h (takeVs_len _ _ _)
theorem dec_pre {d : Dc} (hn : d.num) (h : chk d = 0) (r : List UInt8) : (decD (encB d ++ r)).dat = d.dat ∧ (st9 (encB d ++ r)).1 = d.bs.length ∧ (stV (encB d ++ r)).2 = ((encB d).length, 0) := by
  have hh := fmDc.hits (t := encB d ++ r) (p := 0) (r := r) (ok_dc hn h) (by rw [List.drop_zero, encB_eq])
  rw [← encB_eq, Nat.zero_add] at hh
  have h1 := hd_dec' (encB d ++ r)
  have h2 := takeDc_eq (encB d ++ r)
  rw [hh] at h1 h2
  simp only [Prod.mk.injEq] at h1 h2
  refine ⟨dat_of hn (by show (0 : Int) ≤ ((st3 _).1 : Int); omega) h1.1.symm h1.2.symm, ?_, h2.2.symm⟩
  have := congrArg nHd h2.1.1
  exact this.symm
theorem dec_more {d : Dc} (hn : d.num) (h : chk d = 0) (r : List UInt8) : decE (encB d ++ r) = if r = [] then 0 else 6 := by
  obtain ⟨h1, h2, h3⟩ := dec_pre hn h r
  obtain ⟨_, _, n2⟩ := chk0 h
  have hb16 : d.bs.length ≤ 16 := Nat.le_of_not_lt fun h => n2 (.inl h)
  unfold decE
  rw [if_neg (by rw [h2]; omega), h3]
  by_cases hr : r = []
  · subst hr
    have : endE (encB d ++ []) (encB d).length 0 = 0 := by unfold endE; rw [if_neg (by simp)]
    simp only [this]
    rw [if_neg (by simp), chk_dat h1, h]
    rfl
  · have : endE (encB d ++ r) (encB d).length 0 = 6 := by
      unfold endE; rw [if_pos]
      have : 0 < r.length := List.length_pos_iff.2 hr
      simp; omega
    simp only [this]
    rw [if_pos (by decide), if_neg hr]
theorem dec_enc {d : Dc} (hn : d.num) (h : chk d = 0) : decE (encB d) = 0 ∧ (decD (encB d)).dat = d.dat := by
  have h1 := dec_more hn h []
  have h2 := (dec_pre hn h []).1
  rw [List.append_nil] at h1 h2
  exact ⟨by simpa using h1, h2⟩
theorem dec_cut {d : Dc} (hn : d.num) (h : chk d = 0) {m : Nat} (hm : m < (encB d).length) : decE ((encB d).take m) = 6 := by
  have hc := fmDc.cut (t := (encB d).take m) (p := 0) (m := m) (ok_dc hn h) (by rw [List.drop_zero, encB_eq]) (by rw [← encB_eq]; exact hm)
  rw [takeDc_eq] at hc
  simp only at hc
  obtain ⟨_, _, n2⟩ := chk0 h
  have hb16 : d.bs.length ≤ 16 := Nat.le_of_not_lt fun h => n2 (.inl h)
  have h9 : ¬ ((st9 ((encB d).take m)).2.2 = 0 ∧ (st9 ((encB d).take m)).1 > 16) := by
    rcases Nat.lt_or_ge m (encHd d.hd).length with h1 | h1
    · have := fmHd.cut (t := (encB d).take m) (p := 0) (m := m) (ok_dc hn h).1 (by
        rw [List.drop_zero, encB_eq]
        exact List.take_append_of_le_length (by show m ≤ (encHd d.hd).length; omega)) h1
      rw [takeHd_eq] at this
      simp only at this
      rw [this]; omega
    · have := fmHd.hits (t := (encB d).take m) (p := 0) (r := (d.bs.flatMap bytesB).take (m - (encHd d.hd).length)) (ok_dc hn h).1 (by
        rw [List.drop_zero, encB_eq, encDc, List.take_append, List.take_of_length_le h1])
      rw [takeHd_eq] at this
      simp only [Prod.mk.injEq] at this
      have h2 := congrArg nHd this.1
      have h3 : (st9 ((encB d).take m)).1 = d.bs.length := h2
      rw [h3]; omega
  unfold decE
  rw [if_neg h9]
  have he : endE ((encB d).take m) (stV ((encB d).take m)).2.1 (stV ((encB d).take m)).2.2 = 6 := by
    unfold endE; rw [hc]; rfl
  rw [he, if_pos (by decide)]
theorem enc_dec {t : List UInt8} (h : decE t = 0) : encB (decD t) = t ∧ (decD t).num ∧ chk (decD t) = 0 := by
  unfold decE at h
  split at h
  · cases h
  · split at h
    · rename_i h1; exact absurd h h1
    · rename_i h0 h1
      have h1' : endE t (stV t).2.1 (stV t).2.2 = 0 := Decidable.byContradiction h1
      have he : (stV t).2.2 = 0 := by
        unfold endE at h1'
        split at h1'
        · cases h1'
        · exact h1'
      have hp : ¬ (stV t).2.1 < t.length := by
        intro hlt
        unfold endE at h1'
        rw [if_pos ⟨he, hlt⟩] at h1'
        cases h1'
      obtain ⟨b1, b2, b3⟩ := fmDc.back (t := t) (p := 0) (Nat.zero_le _) (by rw [takeDc_eq]; exact he)
      rw [hd_dec'] at b1 b2
      rw [takeDc_eq] at b2
      simp only [List.drop_zero] at b2
      rw [List.drop_of_length_le (by omega), List.append_nil] at b2
      refine ⟨by rw [encB_eq]; exact b2.symm, ?_, h⟩
      obtain ⟨⟨o1, o2, o3, o4, o5, _⟩, _⟩ := b1
      have o3' : (decD t).pid.toNat < 2 ^ 64 := o3
      refine ⟨o1, o2, ⟨by show (0 : Int) ≤ ((st3 t).1 : Int); omega, by omega⟩, o4, o5⟩
theorem enc_same {a b : Dc} (ha : a.num) (hb : b.num) (ka : chk a = 0) (kb : chk b = 0) : encB a = encB b ↔ a.dat = b.dat := by
  constructor
  · intro h
    rw [← (dec_enc ha ka).2, ← (dec_enc hb kb).2, h]
  · intro h
    obtain ⟨⟩ := a; obtain ⟨⟩ := b
    simp only [Dc.dat, Prod.mk.injEq] at h
    obtain ⟨rfl, rfl, rfl, rfl, rfl, rfl, rfl, rfl, rfl⟩ := h
    rfl
end Go.Proofs.Ytcfgbboibgjlcaa
