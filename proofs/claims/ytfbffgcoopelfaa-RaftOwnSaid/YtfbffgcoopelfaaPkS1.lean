/- Worlds by parts: resources, and what the operations do to them. -/
import Derived.Test.YtfbffgcoopelfaaPkE
import Derived.Laws.AppendOwn
import Derived.KernelRfl
namespace Go.Pk
open Go

abbrev Hp := Nat → Option Obj
abbrev Res := Hp → Prop
def Hp.le (h h' : Hp) : Prop := ∀ b o, h b = some o → h' b = some o
def Hp.disj (h h' : Hp) : Prop := ∀ b, h b = none ∨ h' b = none
def hpOf (w : World) : Hp := fun b => w.heap[b]?
def Star : List Res → Res
  | [] => fun _ => True
  | R :: l => fun h => ∃ h1 h2, Hp.disj h1 h2 ∧ Hp.le h1 h ∧ Hp.le h2 h ∧ R h1 ∧ Star l h2
structure Sat (W w : World) (l : List Res) : Prop where
  os : w.os = W.os
  tape : w.tape = W.tape
  output : w.output = W.output
  size : W.heap.size ≤ w.heap.size
  star : Star l (hpOf w)

theorem Hp.le_refl (h : Hp) : Hp.le h h := fun _ _ h => h
theorem Hp.le_trans {a b c : Hp} (h : Hp.le a b) (k : Hp.le b c) : Hp.le a c := fun x o hx => k x o (h x o hx)
theorem Hp.disj_comm {a b : Hp} (h : Hp.disj a b) : Hp.disj b a := fun x => (h x).symm
theorem Hp.disj_le {a b a' b' : Hp} (h : Hp.disj a b) (ha : Hp.le a' a) (hb : Hp.le b' b) : Hp.disj a' b' := by
  intro x
  cases hx : a' x with
  | none => exact .inl rfl
  | some o =>
    right
    cases hy : b' x with
    | none => rfl
    | some o' => rcases h x with h | h
                 · rw [ha x o hx] at h; cases h
                 · rw [hb x o' hy] at h; cases h
theorem Star.mono {l : List Res} : ∀ {h h' : Hp}, Star l h → Hp.le h h' → Star l h' := by
  cases l with
  | nil => intro h h' _ _; exact trivial
  | cons R l => rintro h h' ⟨h1, h2, d, l1, l2, r, s⟩ hl; exact ⟨h1, h2, d, Hp.le_trans l1 hl, Hp.le_trans l2 hl, r, s⟩
def Hp.or (a b : Hp) : Hp := fun x => match a x with | some o => some o | none => b x
theorem Hp.le_or_left (a b : Hp) : Hp.le a (Hp.or a b) := fun x o h => by simp [Hp.or, h]
theorem Hp.le_or_right {a b : Hp} (d : Hp.disj a b) : Hp.le b (Hp.or a b) := fun x o h => by
  rcases d x with h' | h'
  · simp [Hp.or, h', h]
  · rw [h] at h'; cases h'
theorem Hp.or_le {a b c : Hp} (ha : Hp.le a c) (hb : Hp.le b c) : Hp.le (Hp.or a b) c := fun x o h => by
  unfold Hp.or at h
  split at h
  · rename_i o' ho; cases h; exact ha x _ ho
  · exact hb x o h
theorem Hp.disj_or {a b c : Hp} (h1 : Hp.disj a b) (h2 : Hp.disj a c) : Hp.disj a (Hp.or b c) := fun x => by
  rcases h1 x with h | h
  · exact .inl h
  · rcases h2 x with h' | h'
    · exact .inl h'
    · right; simp [Hp.or, h, h']
theorem Star.perm {l l' : List Res} (p : l.Perm l') : ∀ {h : Hp}, Star l h → Star l' h := by
  induction p with
  | nil => intro h s; exact s
  | cons R _ ih => rintro h ⟨h1, h2, d, l1, l2, r, s⟩; exact ⟨h1, h2, d, l1, l2, r, ih s⟩
  | swap A B l =>
    rintro h ⟨h1, h2, d, l1, l2, r, h3, h4, d', l3, l4, r', s⟩
    exact ⟨h3, Hp.or h1 h4, Hp.disj_or (Hp.disj_comm (Hp.disj_le d (Hp.le_refl _) l3)) d', Hp.le_trans l3 l2, Hp.or_le l1 (Hp.le_trans l4 l2), r',
      h1, h4, Hp.disj_le d (Hp.le_refl _) l4, Hp.le_or_left _ _, Hp.le_or_right (Hp.disj_le d (Hp.le_refl _) l4), r, s⟩
  | trans _ _ ih1 ih2 => intro h s; exact ih2 (ih1 s)
theorem Star.tail {R : Res} {l : List Res} {h : Hp} (s : Star (R :: l) h) : Star l h := by
  obtain ⟨h1, h2, d, l1, l2, r, s⟩ := s
  exact s.mono l2
theorem Star.append {l l' : List Res} : ∀ {h : Hp}, Star (l ++ l') h ↔ ∃ h1 h2, Hp.disj h1 h2 ∧ Hp.le h1 h ∧ Hp.le h2 h ∧ Star l h1 ∧ Star l' h2 := by
  induction l with
  | nil =>
    intro h
    constructor
    · intro s; exact ⟨fun _ => none, h, fun _ => .inl rfl, (fun _ _ h => by cases h), Hp.le_refl _, trivial, s⟩
    · rintro ⟨h1, h2, d, l1, l2, _, s⟩; exact s.mono l2
  | cons R l ih =>
    intro h
    constructor
    · rintro ⟨h1, h2, d, l1, l2, r, s⟩
      obtain ⟨h3, h4, d', l3, l4, s3, s4⟩ := ih.1 s
      have d13 := Hp.disj_le d (Hp.le_refl _) l3
      exact ⟨Hp.or h1 h3, h4, Hp.disj_comm (Hp.disj_or (Hp.disj_comm (Hp.disj_le d (Hp.le_refl _) l4)) (Hp.disj_comm d')), Hp.or_le l1 (Hp.le_trans l3 l2), Hp.le_trans l4 l2,
        ⟨h1, h3, d13, Hp.le_or_left _ _, Hp.le_or_right d13, r, s3⟩, s4⟩
    · rintro ⟨h1, h2, d, l1, l2, ⟨h3, h4, d', l3, l4, r, s⟩, s'⟩
      have d42 := Hp.disj_le d l4 (Hp.le_refl _)
      exact ⟨h3, Hp.or h4 h2, Hp.disj_or d' (Hp.disj_le d l3 (Hp.le_refl _)), Hp.le_trans l3 l1, Hp.or_le (Hp.le_trans l4 l1) l2, r,
        ih.2 ⟨h4, h2, d42, Hp.le_or_left _ _, Hp.le_or_right d42, s, s'⟩⟩

section
variable {W w : World} {l : List Res}
theorem Sat.perm {l' : List Res} (h : Sat W w l) (p : l.Perm l') : Sat W w l' := ⟨h.os, h.tape, h.output, h.size, h.star.perm p⟩
theorem Sat.tail {R : Res} (h : Sat W w (R :: l)) : Sat W w l := ⟨h.os, h.tape, h.output, h.size, h.star.tail⟩
theorem Sat.swap {A B : Res} (h : Sat W w (A :: B :: l)) : Sat W w (B :: A :: l) := h.perm (.swap _ _ _)
/-- the third ahead -/
theorem Sat.rot3 {A B C : Res} (h : Sat W w (A :: B :: C :: l)) : Sat W w (C :: A :: B :: l) :=
  h.perm ((List.Perm.cons A (.swap C B l)).trans (.swap C A (B :: l)))
theorem Sat.rot4 {A B C D : Res} (h : Sat W w (A :: B :: C :: D :: l)) : Sat W w (D :: A :: B :: C :: l) :=
  h.perm (((List.Perm.cons A ((List.Perm.cons B (.swap D C l)).trans (.swap D B (C :: l))))).trans (.swap D A (B :: C :: l)))
theorem Sat.drop2 {A B : Res} (h : Sat W w (A :: B :: l)) : Sat W w (A :: l) := h.swap.tail
theorem Sat.refl (W : World) : Sat W W [] := ⟨rfl, rfl, rfl, Nat.le_refl _, trivial⟩
theorem Sat.drew (h : Sat W w l) : Sat W w.drew l := ⟨h.os, h.tape, h.output, h.size, h.star⟩

/-! ### shapes of resources -/
def Pure (φ : Prop) : Res := fun _ => φ
def Ex {α : Type} (R : α → Res) : Res := fun h => ∃ x, R x h
def All (l : List Res) : Res := Star l
theorem sat_pure {φ : Prop} : Sat W w (Pure φ :: l) ↔ φ ∧ Sat W w l := by
  constructor
  · intro h
    obtain ⟨h1, h2, d, l1, l2, r, s⟩ := h.star
    exact ⟨r, h.tail⟩
  · rintro ⟨hφ, h⟩
    exact ⟨h.os, h.tape, h.output, h.size, fun _ => none, _, fun _ => .inl rfl, (fun _ _ h => by cases h), Hp.le_refl _, hφ, h.star⟩
theorem sat_ex {α : Type} {R : α → Res} : Sat W w (Ex R :: l) ↔ ∃ x, Sat W w (R x :: l) := by
  constructor
  · intro h
    obtain ⟨h1, h2, d, l1, l2, ⟨x, r⟩, s⟩ := h.star
    exact ⟨x, h.os, h.tape, h.output, h.size, h1, h2, d, l1, l2, r, s⟩
  · rintro ⟨x, h⟩
    obtain ⟨h1, h2, d, l1, l2, r, s⟩ := h.star
    exact ⟨h.os, h.tape, h.output, h.size, h1, h2, d, l1, l2, ⟨x, r⟩, s⟩
theorem sat_all {l' : List Res} : Sat W w (All l' :: l) ↔ Sat W w (l' ++ l) := by
  constructor
  · intro h
    obtain ⟨h1, h2, d, l1, l2, r, s⟩ := h.star
    exact ⟨h.os, h.tape, h.output, h.size, Star.append.2 ⟨h1, h2, d, l1, l2, r, s⟩⟩
  · intro h
    obtain ⟨h1, h2, d, l1, l2, r, s⟩ := Star.append.1 h.star
    exact ⟨h.os, h.tape, h.output, h.size, h1, h2, d, l1, l2, r, s⟩

/-- one step that turns the first resource alone -/
theorem Sat.upd {R R' : Res} {w' : World} (h : Sat W w (R :: l)) (hos : w'.os = w.os) (ht : w'.tape = w.tape) (ho : w'.output = w.output) (hs : w.heap.size ≤ w'.heap.size)
    (step : ∀ h1, R h1 → Hp.le h1 (hpOf w) → ∃ h1', R' h1' ∧ Hp.le h1' (hpOf w') ∧ (∀ b, h1' b ≠ none → h1 b ≠ none ∨ w.heap.size ≤ b) ∧ ∀ b, b < w.heap.size → h1 b = none → w'.heap[b]? = w.heap[b]?) :
    Sat W w' (R' :: l) := by
  obtain ⟨h1, h2, d, l1, l2, r, s⟩ := h.star
  obtain ⟨h1', r', le', hd, hk⟩ := step h1 r l1
  have lt2 : ∀ b o, h2 b = some o → b < w.heap.size := fun b o hb => by
    have := l2 b o hb
    exact (Array.getElem?_eq_some_iff.1 this).1
  refine ⟨hos.trans h.os, ht.trans h.tape, ho.trans h.output, Nat.le_trans h.size hs, h1', h2, ?_, le', ?_, r', s⟩
  · intro b
    cases hb : h1' b with
    | none => exact .inl rfl
    | some o =>
      right
      rcases hd b (by rw [hb]; simp) with h' | h'
      · exact (d b).resolve_left h'
      · cases h2b : h2 b with
        | none => rfl
        | some o' => have := lt2 b o' h2b; omega
  · intro b o hb
    have hlt := lt2 b o hb
    have h1n : h1 b = none := (d b).resolve_right (by rw [hb]; simp)
    show w'.heap[b]? = some o
    rw [hk b hlt h1n]
    exact l2 b o hb
/-- a new block -/
def Pt (b : Nat) (o : Obj) : Res := fun h => h b = some o
theorem Sat.new (h : Sat W w l) (o : Obj) : Sat W (w.alloc o) (Pt w.heap.size o :: l) := by
  refine ⟨h.os, h.tape, h.output, by have := h.size; simp; omega, fun b => if b = w.heap.size then some o else none, hpOf w, ?_, ?_, ?_, by simp [Pt], h.star⟩
  · intro b
    by_cases hb : b = w.heap.size
    · right; subst hb; simp [hpOf]
    · left; simp [hb]
  · intro b o' hb
    simp only at hb
    split at hb
    · rename_i he; cases hb; subst he; show (w.heap.push _)[w.heap.size]? = _; simp
    · cases hb
  · intro b o' hb
    have hlt : b < w.heap.size := (Array.getElem?_eq_some_iff.1 hb).1
    simp only [hpOf, World.alloc] at hb ⊢
    rw [Array.getElem?_push, if_neg (by omega)]; exact hb
theorem Sat.pt {b : Nat} {o : Obj} (h : Sat W w (Pt b o :: l)) : w.heap[b]? = some o := by
  obtain ⟨h1, h2, d, l1, l2, r, s⟩ := h.star
  exact l1 b o r

/-! ### a block of cells -/
def Blk (b : Nat) (cs : List Value) (T : TypeId) : Res := fun h => ∃ fr : Nat × Nat, h b = some (.cells cs.toArray T fr) ∧ ∀ i, i < cs.length → ¬ (fr.1 ≤ i ∧ i < fr.2)
theorem Sat.blk {b : Nat} {cs : List Value} {T : TypeId} (h : Sat W w (Blk b cs T :: l)) : ∃ fr : Nat × Nat, w.heap[b]? = some (.cells cs.toArray T fr) ∧ ∀ i, i < cs.length → ¬ (fr.1 ≤ i ∧ i < fr.2) := by
  obtain ⟨h1, h2, d, l1, l2, ⟨fr, r, hf⟩, s⟩ := h.star
  exact ⟨fr, l1 b _ r, hf⟩
theorem Sat.newBlk (h : Sat W w l) (cs : List Value) (T : TypeId) : Sat W (w.alloc (.cells cs.toArray T)) (Blk w.heap.size cs T :: l) := by
  have h' := h.new (.cells cs.toArray T)
  obtain ⟨h1, h2, d, l1, l2, r, s⟩ := h'.star
  exact ⟨h'.os, h'.tape, h'.output, h'.size, h1, h2, d, l1, l2, ⟨(0, 0), r, by simp⟩, s⟩
theorem Sat.cell {b : Nat} {cs : List Value} {T : TypeId} (h : Sat W w (Blk b cs T :: l)) (i : Nat) : w.cell? ⟨b, i, none⟩ = cs[i]? := by
  obtain ⟨fr, hb, _⟩ := h.blk
  simp [World.cell?, hb]
theorem Sat.free {b : Nat} {cs : List Value} {T : TypeId} (h : Sat W w (Blk b cs T :: l)) (i : Nat) (hi : i < cs.length) : w.frozen? ⟨b, i, none⟩ = false := by
  obtain ⟨fr, hb, hf⟩ := h.blk
  have := hf i hi
  simp only [World.frozen?, hb]
  simpa using this
theorem Sat.setBlk {b : Nat} {cs : List Value} {T : TypeId} (h : Sat W w (Blk b cs T :: l)) (cs' : List Value) (hl : cs'.length = cs.length) {w' : World}
    (hw : w' = { w with heap := w.heap.modify b fun | .cells _ t f => .cells cs'.toArray t f | o => o }) : Sat W w' (Blk b cs' T :: l) := by
  subst hw
  refine h.upd rfl rfl rfl (by simp) ?_
  rintro h1 ⟨fr, hb, hf⟩ hle
  have hw := hle b _ hb
  have hlt : b < w.heap.size := (Array.getElem?_eq_some_iff.1 hw).1
  refine ⟨fun x => if x = b then some (.cells cs'.toArray T fr) else none, ⟨fr, by simp, by rw [hl]; exact hf⟩, ?_, ?_, ?_⟩
  · intro x o hx
    simp only at hx
    split at hx
    · rename_i he
      cases hx; subst he
      simp only [hpOf] at hw ⊢
      rw [Array.getElem?_modify, if_pos rfl, hw]; rfl
    · cases hx
  · intro x hx
    simp only at hx
    split at hx
    · rename_i he; subst he; left; rw [hb]; simp
    · exact absurd rfl hx
  · intro x hx hn
    rw [Array.getElem?_modify]
    split
    · rename_i he; subst he; rw [hb] at hn; cases hn
    · rfl
theorem Sat.setCell {b : Nat} {cs : List Value} {T : TypeId} (h : Sat W w (Blk b cs T :: l)) (i : Nat) (v : Value) : Sat W (w.setCell ⟨b, i, none⟩ v) (Blk b (cs.set i v) T :: l) := by
  refine h.setBlk (cs.set i v) (by simp) ?_
  obtain ⟨fr, hb, _⟩ := h.blk
  unfold World.setCell
  congr 1
  apply Array.ext
  · simp
  · intro k h1 h2
    simp only [Array.getElem_modify]
    split
    · rename_i hk
      subst hk
      have : w.heap[b]'(by simpa using h1) = .cells cs.toArray T fr := (Array.getElem?_eq_some_iff.1 hb).2
      rw [this]
      simp
    · rfl
end
end Go.Pk
