/- Texts of mine, put together: PkS1, PkS2, PkS3, PkS4, PkS5, PkS6, QC, PkS7, PkS8, PkS9, PkM, PkM2, PkMs. -/
import Derived.Test.YtnjadekngjgjcaaGreatDoorE1
import Derived.Laws.AppendOwn
import Derived.KernelRfl
import Derived.Laws.IdiomStrings
import Derived.Laws.Strings
import Derived.Laws.IdiomRangeMap
/- Worlds by parts: resources, and what the operations do to them. -/
namespace Go.Pk
open Go

abbrev Hp := Nat → Option Obj
abbrev Res := Hp → Prop
def Hp.le (h h' : Hp) : Prop := ∀ b o, h b = some o → h' b = some o
def Hp.disj (h h' : Hp) : Prop := ∀ b, h b = none ∨ h' b = none
def hpOf (w : World) : Hp := fun b => w.heap[b]?
def Star : List Res → Res
  | [] => fun _ => True
  | R :: l => fun h => ∃ h1 h2, Hp.disj h1 h2 ∧ Hp.le h1 h ∧ Hp.le h2 h ∧ R h1 ∧ Star l h2
structure Sat (W w : World) (l : List Res) : Prop where
  os : w.os = W.os
  tape : w.tape = W.tape
  output : w.output = W.output
  size : W.heap.size ≤ w.heap.size
  star : Star l (hpOf w)

theorem Hp.le_refl (h : Hp) : Hp.le h h := fun _ _ h => h
theorem Hp.le_trans {a b c : Hp} (h : Hp.le a b) (k : Hp.le b c) : Hp.le a c := fun x o hx => k x o (h x o hx)
theorem Hp.disj_comm {a b : Hp} (h : Hp.disj a b) : Hp.disj b a := fun x => (h x).symm
theorem Hp.disj_le {a b a' b' : Hp} (h : Hp.disj a b) (ha : Hp.le a' a) (hb : Hp.le b' b) : Hp.disj a' b' := by
  intro x
  cases hx : a' x with
  | none => exact .inl rfl
  | some o =>
    right
    cases hy : b' x with
    | none => rfl
    | some o' => rcases h x with h | h
                 · rw [ha x o hx] at h; cases h
                 · rw [hb x o' hy] at h; cases h
theorem Star.mono {l : List Res} : ∀ {h h' : Hp}, Star l h → Hp.le h h' → Star l h' := by
  cases l with
  | nil => intro h h' _ _; exact trivial
  | cons R l => rintro h h' ⟨h1, h2, d, l1, l2, r, s⟩ hl; exact ⟨h1, h2, d, Hp.le_trans l1 hl, Hp.le_trans l2 hl, r, s⟩
def Hp.or (a b : Hp) : Hp := fun x => match a x with | some o => some o | none => b x
theorem Hp.le_or_left (a b : Hp) : Hp.le a (Hp.or a b) := fun x o h => by simp [Hp.or, h]
theorem Hp.le_or_right {a b : Hp} (d : Hp.disj a b) : Hp.le b (Hp.or a b) := fun x o h => by
  rcases d x with h' | h'
  · simp [Hp.or, h', h]
  · rw [h] at h'; cases h'
theorem Hp.or_le {a b c : Hp} (ha : Hp.le a c) (hb : Hp.le b c) : Hp.le (Hp.or a b) c := fun x o h => by
  unfold Hp.or at h
  split at h
  · rename_i o' ho; cases h; exact ha x _ ho
  · exact hb x o h
theorem Hp.disj_or {a b c : Hp} (h1 : Hp.disj a b) (h2 : Hp.disj a c) : Hp.disj a (Hp.or b c) := fun x => by
  rcases h1 x with h | h
  · exact .inl h
  · rcases h2 x with h' | h'
    · exact .inl h'
    · right; simp [Hp.or, h, h']
theorem Star.perm {l l' : List Res} (p : l.Perm l') : ∀ {h : Hp}, Star l h → Star l' h := by
  induction p with
  | nil => intro h s; exact s
  | cons R _ ih => rintro h ⟨h1, h2, d, l1, l2, r, s⟩; exact ⟨h1, h2, d, l1, l2, r, ih s⟩
  | swap A B l =>
    rintro h ⟨h1, h2, d, l1, l2, r, h3, h4, d', l3, l4, r', s⟩
    exact ⟨h3, Hp.or h1 h4, Hp.disj_or (Hp.disj_comm (Hp.disj_le d (Hp.le_refl _) l3)) d', Hp.le_trans l3 l2, Hp.or_le l1 (Hp.le_trans l4 l2), r',
      h1, h4, Hp.disj_le d (Hp.le_refl _) l4, Hp.le_or_left _ _, Hp.le_or_right (Hp.disj_le d (Hp.le_refl _) l4), r, s⟩
  | trans _ _ ih1 ih2 => intro h s; exact ih2 (ih1 s)
theorem Star.tail {R : Res} {l : List Res} {h : Hp} (s : Star (R :: l) h) : Star l h := by
  obtain ⟨h1, h2, d, l1, l2, r, s⟩ := s
  exact s.mono l2
theorem Star.append {l l' : List Res} : ∀ {h : Hp}, Star (l ++ l') h ↔ ∃ h1 h2, Hp.disj h1 h2 ∧ Hp.le h1 h ∧ Hp.le h2 h ∧ Star l h1 ∧ Star l' h2 := by
  induction l with
  | nil =>
    intro h
    constructor
    · intro s; exact ⟨fun _ => none, h, fun _ => .inl rfl, (fun _ _ h => by cases h), Hp.le_refl _, trivial, s⟩
    · rintro ⟨h1, h2, d, l1, l2, _, s⟩; exact s.mono l2
  | cons R l ih =>
    intro h
    constructor
    · rintro ⟨h1, h2, d, l1, l2, r, s⟩
      obtain ⟨h3, h4, d', l3, l4, s3, s4⟩ := ih.1 s
      have d13 := Hp.disj_le d (Hp.le_refl _) l3
      exact ⟨Hp.or h1 h3, h4, Hp.disj_comm (Hp.disj_or (Hp.disj_comm (Hp.disj_le d (Hp.le_refl _) l4)) (Hp.disj_comm d')), Hp.or_le l1 (Hp.le_trans l3 l2), Hp.le_trans l4 l2,
        ⟨h1, h3, d13, Hp.le_or_left _ _, Hp.le_or_right d13, r, s3⟩, s4⟩
    · rintro ⟨h1, h2, d, l1, l2, ⟨h3, h4, d', l3, l4, r, s⟩, s'⟩
      have d42 := Hp.disj_le d l4 (Hp.le_refl _)
      exact ⟨h3, Hp.or h4 h2, Hp.disj_or d' (Hp.disj_le d l3 (Hp.le_refl _)), Hp.le_trans l3 l1, Hp.or_le (Hp.le_trans l4 l1) l2, r,
        ih.2 ⟨h4, h2, d42, Hp.le_or_left _ _, Hp.le_or_right d42, s, s'⟩⟩

section
variable {W w : World} {l : List Res}
theorem Sat.perm {l' : List Res} (h : Sat W w l) (p : l.Perm l') : Sat W w l' := ⟨h.os, h.tape, h.output, h.size, h.star.perm p⟩
theorem Sat.tail {R : Res} (h : Sat W w (R :: l)) : Sat W w l := ⟨h.os, h.tape, h.output, h.size, h.star.tail⟩
theorem Sat.swap {A B : Res} (h : Sat W w (A :: B :: l)) : Sat W w (B :: A :: l) := h.perm (.swap _ _ _)
/-- the third ahead -/
theorem Sat.rot3 {A B C : Res} (h : Sat W w (A :: B :: C :: l)) : Sat W w (C :: A :: B :: l) :=
  h.perm ((List.Perm.cons A (.swap C B l)).trans (.swap C A (B :: l)))
theorem Sat.drop2 {A B : Res} (h : Sat W w (A :: B :: l)) : Sat W w (A :: l) := h.swap.tail
theorem Sat.refl (W : World) : Sat W W [] := ⟨rfl, rfl, rfl, Nat.le_refl _, trivial⟩
theorem Sat.drew (h : Sat W w l) : Sat W w.drew l := ⟨h.os, h.tape, h.output, h.size, h.star⟩

/-! ### shapes of resources -/
def Pure (φ : Prop) : Res := fun _ => φ
def Ex {α : Type} (R : α → Res) : Res := fun h => ∃ x, R x h
def All (l : List Res) : Res := Star l
theorem sat_pure {φ : Prop} : Sat W w (Pure φ :: l) ↔ φ ∧ Sat W w l := by
  constructor
  · intro h
    obtain ⟨h1, h2, d, l1, l2, r, s⟩ := h.star
    exact ⟨r, h.tail⟩
  · rintro ⟨hφ, h⟩
    exact ⟨h.os, h.tape, h.output, h.size, fun _ => none, _, fun _ => .inl rfl, (fun _ _ h => by cases h), Hp.le_refl _, hφ, h.star⟩
theorem sat_ex {α : Type} {R : α → Res} : Sat W w (Ex R :: l) ↔ ∃ x, Sat W w (R x :: l) := by
  constructor
  · intro h
    obtain ⟨h1, h2, d, l1, l2, ⟨x, r⟩, s⟩ := h.star
    exact ⟨x, h.os, h.tape, h.output, h.size, h1, h2, d, l1, l2, r, s⟩
  · rintro ⟨x, h⟩
    obtain ⟨h1, h2, d, l1, l2, r, s⟩ := h.star
    exact ⟨h.os, h.tape, h.output, h.size, h1, h2, d, l1, l2, ⟨x, r⟩, s⟩
theorem sat_all {l' : List Res} : Sat W w (All l' :: l) ↔ Sat W w (l' ++ l) := by
  constructor
  · intro h
    obtain ⟨h1, h2, d, l1, l2, r, s⟩ := h.star
    exact ⟨h.os, h.tape, h.output, h.size, Star.append.2 ⟨h1, h2, d, l1, l2, r, s⟩⟩
  · intro h
    obtain ⟨h1, h2, d, l1, l2, r, s⟩ := Star.append.1 h.star
    exact ⟨h.os, h.tape, h.output, h.size, h1, h2, d, l1, l2, r, s⟩

/-- one step that turns the first resource alone -/
theorem Sat.upd {R R' : Res} {w' : World} (h : Sat W w (R :: l)) (hos : w'.os = w.os) (ht : w'.tape = w.tape) (ho : w'.output = w.output) (hs : w.heap.size ≤ w'.heap.size)
    (step : ∀ h1, R h1 → Hp.le h1 (hpOf w) → ∃ h1', R' h1' ∧ Hp.le h1' (hpOf w') ∧ (∀ b, h1' b ≠ none → h1 b ≠ none ∨ w.heap.size ≤ b) ∧ ∀ b, b < w.heap.size → h1 b = none → w'.heap[b]? = w.heap[b]?) :
    Sat W w' (R' :: l) := by
  obtain ⟨h1, h2, d, l1, l2, r, s⟩ := h.star
  obtain ⟨h1', r', le', hd, hk⟩ := step h1 r l1
  have lt2 : ∀ b o, h2 b = some o → b < w.heap.size := fun b o hb => by
    have := l2 b o hb
    exact (Array.getElem?_eq_some_iff.1 this).1
  refine ⟨hos.trans h.os, ht.trans h.tape, ho.trans h.output, Nat.le_trans h.size hs, h1', h2, ?_, le', ?_, r', s⟩
  · intro b
    cases hb : h1' b with
    | none => exact .inl rfl
    | some o =>
      right
      rcases hd b (by rw [hb]; simp) with h' | h'
      · exact (d b).resolve_left h'
      · cases h2b : h2 b with
        | none => rfl
        | some o' => have := lt2 b o' h2b; omega
  · intro b o hb
    have hlt := lt2 b o hb
    have h1n : h1 b = none := (d b).resolve_right (by rw [hb]; simp)
    show w'.heap[b]? = some o
    rw [hk b hlt h1n]
    exact l2 b o hb
/-- a new block -/
def Pt (b : Nat) (o : Obj) : Res := fun h => h b = some o
theorem Sat.new (h : Sat W w l) (o : Obj) : Sat W (w.alloc o) (Pt w.heap.size o :: l) := by
  refine ⟨h.os, h.tape, h.output, by have := h.size; simp; omega, fun b => if b = w.heap.size then some o else none, hpOf w, ?_, ?_, ?_, by simp [Pt], h.star⟩
  · intro b
    by_cases hb : b = w.heap.size
    · right; subst hb; simp [hpOf]
    · left; simp [hb]
  · intro b o' hb
    simp only at hb
    split at hb
    · rename_i he; cases hb; subst he; show (w.heap.push _)[w.heap.size]? = _; simp
    · cases hb
  · intro b o' hb
    have hlt : b < w.heap.size := (Array.getElem?_eq_some_iff.1 hb).1
    simp only [hpOf, World.alloc] at hb ⊢
    rw [Array.getElem?_push, if_neg (by omega)]; exact hb
theorem Sat.pt {b : Nat} {o : Obj} (h : Sat W w (Pt b o :: l)) : w.heap[b]? = some o := by
  obtain ⟨h1, h2, d, l1, l2, r, s⟩ := h.star
  exact l1 b o r

/-! ### a block of cells -/
def Blk (b : Nat) (cs : List Value) (T : TypeId) : Res := fun h => ∃ fr : Nat × Nat, h b = some (.cells cs.toArray T fr) ∧ ∀ i, i < cs.length → ¬ (fr.1 ≤ i ∧ i < fr.2)
theorem Sat.blk {b : Nat} {cs : List Value} {T : TypeId} (h : Sat W w (Blk b cs T :: l)) : ∃ fr : Nat × Nat, w.heap[b]? = some (.cells cs.toArray T fr) ∧ ∀ i, i < cs.length → ¬ (fr.1 ≤ i ∧ i < fr.2) := by
  obtain ⟨h1, h2, d, l1, l2, ⟨fr, r, hf⟩, s⟩ := h.star
  exact ⟨fr, l1 b _ r, hf⟩
theorem Sat.newBlk (h : Sat W w l) (cs : List Value) (T : TypeId) : Sat W (w.alloc (.cells cs.toArray T)) (Blk w.heap.size cs T :: l) := by
  have h' := h.new (.cells cs.toArray T)
  obtain ⟨h1, h2, d, l1, l2, r, s⟩ := h'.star
  exact ⟨h'.os, h'.tape, h'.output, h'.size, h1, h2, d, l1, l2, ⟨(0, 0), r, by simp⟩, s⟩
theorem Sat.cell {b : Nat} {cs : List Value} {T : TypeId} (h : Sat W w (Blk b cs T :: l)) (i : Nat) : w.cell? ⟨b, i, none⟩ = cs[i]? := by
  obtain ⟨fr, hb, _⟩ := h.blk
  simp [World.cell?, hb]
theorem Sat.free {b : Nat} {cs : List Value} {T : TypeId} (h : Sat W w (Blk b cs T :: l)) (i : Nat) (hi : i < cs.length) : w.frozen? ⟨b, i, none⟩ = false := by
  obtain ⟨fr, hb, hf⟩ := h.blk
  have := hf i hi
  simp only [World.frozen?, hb]
  simpa using this
theorem Sat.setBlk {b : Nat} {cs : List Value} {T : TypeId} (h : Sat W w (Blk b cs T :: l)) (cs' : List Value) (hl : cs'.length = cs.length) {w' : World}
    (hw : w' = { w with heap := w.heap.modify b fun | .cells _ t f => .cells cs'.toArray t f | o => o }) : Sat W w' (Blk b cs' T :: l) := by
  subst hw
  refine h.upd rfl rfl rfl (by simp) ?_
  rintro h1 ⟨fr, hb, hf⟩ hle
  have hw := hle b _ hb
  have hlt : b < w.heap.size := (Array.getElem?_eq_some_iff.1 hw).1
  refine ⟨fun x => if x = b then some (.cells cs'.toArray T fr) else none, ⟨fr, by simp, by rw [hl]; exact hf⟩, ?_, ?_, ?_⟩
  · intro x o hx
    simp only at hx
    split at hx
    · rename_i he
      cases hx; subst he
      simp only [hpOf] at hw ⊢
      rw [Array.getElem?_modify, if_pos rfl, hw]; rfl
    · cases hx
  · intro x hx
    simp only at hx
    split at hx
    · rename_i he; subst he; left; rw [hb]; simp
    · exact absurd rfl hx
  · intro x hx hn
    rw [Array.getElem?_modify]
    split
    · rename_i he; subst he; rw [hb] at hn; cases hn
    · rfl
theorem Sat.setCell {b : Nat} {cs : List Value} {T : TypeId} (h : Sat W w (Blk b cs T :: l)) (i : Nat) (v : Value) : Sat W (w.setCell ⟨b, i, none⟩ v) (Blk b (cs.set i v) T :: l) := by
  refine h.setBlk (cs.set i v) (by simp) ?_
  obtain ⟨fr, hb, _⟩ := h.blk
  unfold World.setCell
  congr 1
  apply Array.ext
  · simp
  · intro k h1 h2
    simp only [Array.getElem_modify]
    split
    · rename_i hk
      subst hk
      have : w.heap[b]'(by simpa using h1) = .cells cs.toArray T fr := (Array.getElem?_eq_some_iff.1 hb).2
      rw [this]
      simp
    · rfl
end
end Go.Pk

/- Worlds by parts: slices; the rules of loading, storing, making, appending. -/
namespace Go.Pk
open Go

/-- what a slice reads as in a world: its cells, 'sz' an element -/
def RdC (w : World) (s : Sl) (sz : Nat) (xs : List Value) : Prop :=
  xs.length = s.len * sz ∧ s.len ≤ s.cap ∧ (s.a = none → s.cap = 0) ∧ ∀ a, s.a = some a → ∀ j u, xs[j]? = some u → w.cell? (a.add j) = some u
/-- a slice of one's own: its block, from the offset on -/
def SlR (T : TypeId) (sz : Nat) (s : Sl) (xs : List Value) : Res := fun h =>
  (s.a = none ∧ s.len = 0 ∧ s.cap = 0 ∧ xs = []) ∨
  ∃ g o cur, s.a = some ⟨g, o, none⟩ ∧ Blk g cur T h ∧ s.len ≤ s.cap ∧ s.cap < 2 ^ 63 ∧ o + s.cap * sz ≤ cur.length ∧ xs = (cur.drop o).take (s.len * sz) ∧ ∀ u ∈ cur, u.oneCell' = true

theorem add_add (g o i : Nat) : (⟨g, o, none⟩ : Addr).add i = ⟨g, o + i, none⟩ := by
  unfold Addr.add
  split
  · rename_i h; subst h; rfl
  · rfl
section
variable {W w : World} {l : List Res} {P : Program}

theorem Sat.slr {T : TypeId} {sz : Nat} {s : Sl} {xs : List Value} (h : Sat W w (SlR T sz s xs :: l)) :
    (s.a = none ∧ s.len = 0 ∧ s.cap = 0 ∧ xs = []) ∨ ∃ g o cur, s.a = some ⟨g, o, none⟩ ∧ Sat W w (Blk g cur T :: l) ∧ s.len ≤ s.cap ∧ s.cap < 2 ^ 63 ∧ o + s.cap * sz ≤ cur.length ∧ xs = (cur.drop o).take (s.len * sz) ∧ ∀ u ∈ cur, u.oneCell' = true := by
  obtain ⟨h1, h2, d, l1, l2, r, s'⟩ := h.star
  rcases r with r | ⟨g, o, cur, ha, hb, r⟩
  · exact .inl r
  · exact .inr ⟨g, o, cur, ha, ⟨h.os, h.tape, h.output, h.size, h1, h2, d, l1, l2, hb, s'⟩, r⟩
theorem Sat.mkSlr {T : TypeId} {sz : Nat} {s : Sl} {xs : List Value} {g o : Nat} {cur : List Value} (h : Sat W w (Blk g cur T :: l)) (ha : s.a = some ⟨g, o, none⟩)
    (h1 : s.len ≤ s.cap) (h2 : s.cap < 2 ^ 63) (h3 : o + s.cap * sz ≤ cur.length) (h4 : xs = (cur.drop o).take (s.len * sz)) (h5 : ∀ u ∈ cur, u.oneCell' = true) : Sat W w (SlR T sz s xs :: l) := by
  obtain ⟨k1, k2, d, l1, l2, r, s'⟩ := h.star
  exact ⟨h.os, h.tape, h.output, h.size, k1, k2, d, l1, l2, .inr ⟨g, o, cur, ha, r, h1, h2, h3, h4, h5⟩, s'⟩
theorem Sat.nilSlr (h : Sat W w l) (T : TypeId) (sz : Nat) : Sat W w (SlR T sz ⟨none, 0, 0⟩ [] :: l) :=
  ⟨h.os, h.tape, h.output, h.size, fun _ => none, _, fun _ => .inl rfl, (fun _ _ h => by cases h), Hp.le_refl _, .inl ⟨rfl, rfl, rfl, rfl⟩, h.star⟩
theorem Sat.slLen {T : TypeId} {sz : Nat} {s : Sl} {xs : List Value} (h : Sat W w (SlR T sz s xs :: l)) : xs.length = s.len * sz ∧ s.len ≤ s.cap ∧ s.cap < 2 ^ 63 := by
  rcases h.slr with ⟨_, h1, h2, h3⟩ | ⟨g, o, cur, _, _, h1, h2, h3, h4, _⟩
  · simp [h1, h2, h3]
  · refine ⟨?_, h1, h2⟩
    subst h4
    have : s.len * sz ≤ s.cap * sz := Nat.mul_le_mul_right _ h1
    simp; omega
theorem Sat.rdc {T : TypeId} {sz : Nat} {s : Sl} {xs : List Value} (h : Sat W w (SlR T sz s xs :: l)) : RdC w s sz xs := by
  have hl := h.slLen
  refine ⟨hl.1, hl.2.1, ?_, ?_⟩
  · rcases h.slr with ⟨h0, h1, h2, h3⟩ | ⟨g, o, cur, h0, _⟩
    · intro _; exact h2
    · intro hn; rw [h0] at hn; cases hn
  · intro a ha j u hu
    rcases h.slr with ⟨h0, h1, h2, h3⟩ | ⟨g, o, cur, h0, hb, h1, h2, h3, h4, _⟩
    · rw [h0] at ha; cases ha
    · rw [h0] at ha
      cases ha
      rw [add_add, hb.cell]
      subst h4
      rw [List.getElem?_take] at hu
      split at hu
      · rw [List.getElem?_drop] at hu; exact hu
      · cases hu
theorem Sat.slOne {T : TypeId} {sz : Nat} {s : Sl} {xs : List Value} (h : Sat W w (SlR T sz s xs :: l)) : ∀ u ∈ xs, u.oneCell' = true := by
  rcases h.slr with ⟨_, _, _, h3⟩ | ⟨g, o, cur, h0, hb, h1, h2, h3, h4, h5⟩
  · subst h3; intro u hu; cases hu
  · subst h4; intro u hu; exact h5 u (List.mem_of_mem_drop (List.mem_of_mem_take hu))

/-! ### types -/
def oneT (P : Program) (t : TypeId) : Bool := match P.info? t, P.underlying t with
  | some i, some d => (i.size == 1) && (match d with | .struct _ | .array _ _ => false | _ => true)
  | _, _ => false
theorem oneT_agg {t : TypeId} (h : oneT P t = true) (w : World) : (isAgg t).run P w = .ok false w := by
  unfold oneT at h
  split at h
  · rename_i i d hi hd
    simp only [Bool.and_eq_true] at h
    have hr : (underlying t).run P w = .ok d w := by simp [underlying, program, Sem.run, hd]
    simp only [isAgg, Sem.run_bind, hr, Result.andThen_ok]
    cases d <;> first | rfl | (simp at h)
  · cases h
theorem oneT_size {t : TypeId} (h : oneT P t = true) (w : World) : (sizeOf t).run P w = .ok 1 w := by
  unfold oneT at h
  split at h
  · rename_i i d hi hd
    simp only [Bool.and_eq_true, beq_iff_eq] at h
    simp [sizeOf, typeInfo, program, Sem.run, Sem.run_bind, hi, h.1]
  · cases h
theorem run_load1 {t : TypeId} (ht : oneT P t = true) {a : Addr} {v : Value} (h : w.cell? a = some v) : (Instr.loadAt t (.pointer (some a))).run P w = .ok v w := by
  simp [Instr.loadAt, Instr.sureAddr, loadVar, Sem.run_bind, oneT_agg ht, h]
theorem oneCell_cells {v : Value} (h : v.oneCell' = true) : v.cells = #[v] := by cases v <;> simp [Value.oneCell', Value.cells] at h ⊢
theorem run_store1 {t : TypeId} (ht : oneT P t = true) {a : Addr} {u v : Value} (hv : v.oneCell' = true) (h : w.cell? a = some u) (hf : w.frozen? a = false) :
    (Instr.storeAt t (.pointer (some a)) v).run P w = .ok () (w.setCell a v) := by
  have hst : (store a v).run P w = .ok () (w.setCell a v) := by
    rw [run_store P w a v _ hv, h]; simp [hf]
  have ha : a.add 0 = a := rfl
  simp [Instr.storeAt, Instr.sureAddr, storeVar, Sem.run_bind, oneT_size ht, oneCell_cells hv, storeCells, ha, hst]

/-! ### rules: cells of a block -/
theorem ldB {b : Nat} {cs : List Value} {T : TypeId} (h : Sat W w (Blk b cs T :: l)) {k : Kd} {t : TypeId} {o i : Nat} {x : k.Ty} {K : k.Ty → Prop} (hK : K x) (hx : cs[o + i]? = some (k.v x) := by rfl) (ht : oneT P t = true := by kernel_rfl) :
    RunQ k P (Instr.loadAt t (.pointer (some ((⟨b, o, none⟩ : Addr).add i)))) w K :=
  ⟨x, run_load1 ht (by rw [add_add, h.cell, hx]), hK⟩
theorem stB {b : Nat} {cs : List Value} {T : TypeId} (h : Sat W w (Blk b cs T :: l)) {t : TypeId} {o i : Nat} {v : Value} {K : World → Prop}
    (hK : ∀ w', Sat W w' (Blk b (cs.set (o + i) v) T :: l) → K w') (hv : v.oneCell' = true := by rfl) (hi : o + i < cs.length := by simp) (ht : oneT P t = true := by kernel_rfl) : StoreP P t (.pointer (some ((⟨b, o, none⟩ : Addr).add i))) v w K := by
  rw [add_add]
  refine ⟨_, run_store1 ht hv (u := cs[o + i]) ?_ ?_, hK _ (h.setCell _ _)⟩
  · rw [h.cell]; simp [hi]
  · exact h.free _ hi
/-- a variable of one cell -/
theorem ldV {b : Nat} {cs : List Value} {T : TypeId} (h : Sat W w (Blk b cs T :: l)) {k : Kd} {t : TypeId} {i : Nat} {x : k.Ty} {K : k.Ty → Prop} (hK : K x) (hx : cs[i]? = some (k.v x) := by rfl) (ht : oneT P t = true := by kernel_rfl) :
    RunQ k P (Instr.loadAt t (.pointer (some ⟨b, i, none⟩))) w K :=
  ⟨x, run_load1 ht (by rw [h.cell, hx]), hK⟩
theorem stV {b : Nat} {cs : List Value} {T : TypeId} (h : Sat W w (Blk b cs T :: l)) {t : TypeId} {i : Nat} {v : Value} {K : World → Prop}
    (hK : ∀ w', Sat W w' (Blk b (cs.set i v) T :: l) → K w') (hv : v.oneCell' = true := by rfl) (hi : i < cs.length := by simp) (ht : oneT P t = true := by kernel_rfl) : StoreP P t (.pointer (some ⟨b, i, none⟩)) v w K := by
  refine ⟨_, run_store1 ht hv (u := cs[i]) ?_ ?_, hK _ (h.setCell _ _)⟩
  · rw [h.cell]; simp [hi]
  · exact h.free _ hi
/-- a new variable -/
theorem boxB (h : Sat W w l) {t : TypeId} {v : Value} {K : Addr → World → Prop} (hK : ∀ b w', Sat W w' (Blk b v.cells.toList t :: l) → K ⟨b, 0, none⟩ w') : RunK .addr P (Instr.box t v) w K := by
  refine ⟨⟨w.heap.size, 0, none⟩, w.alloc (.cells v.cells t), ?_, hK _ _ ?_⟩
  · simp [Instr.box, newVar, newRow, newObj, Sem.run]
  · have := h.newBlk v.cells.toList t
    simpa using this
theorem allocB (h : Sat W w l) {t : TypeId} {z : Value} (hz : (P.info? t).map (·.zero) = some (some z)) {K : Addr → World → Prop} (hK : ∀ b w', Sat W w' (Blk b z.cells.toList t :: l) → K ⟨b, 0, none⟩ w') :
    RunK .addr P (Instr.alloc t true (.tuple #[])) w K := by
  obtain ⟨i, hi, hz'⟩ := Option.map_eq_some_iff.1 hz
  refine ⟨⟨w.heap.size, 0, none⟩, w.alloc (.cells z.cells t), ?_, hK _ _ ?_⟩
  · simp [Instr.alloc, zeroValue, typeInfo, program, newVar, newRow, newObj, Sem.run_bind, Sem.run, hi, hz']
  · have := h.newBlk z.cells.toList t
    simpa using this
/-- a slice written out -/
theorem bsB (h : Sat W w l) {t n : Nat} {ps : Array (Nat × Value)} {e : TypeId} {cs : List Value}
    (hr : ∀ w, (Instr.buildSlice t n ps).run P w = .ok (.slice (some ⟨w.heap.size, 0, none⟩) n n) (w.alloc (.cells cs.toArray e))) {K : Sl → World → Prop}
    (hK : ∀ b w', Sat W w' (Blk b cs e :: l) → K ⟨some ⟨b, 0, none⟩, n, n⟩ w') : RunK .sl P (Instr.buildSlice t n ps) w K :=
  ⟨⟨some ⟨w.heap.size, 0, none⟩, n, n⟩, _, hr w, hK _ _ (h.newBlk cs e)⟩

/-! ### rules: append -/
/-- the facts on a slice's type -/
def ET (P : Program) (t e sz bytes : Nat) : Prop := P.underlying t = some (.slice e) ∧ ∃ i z, P.info? e = some i ∧ i.zero = some z ∧ i.size = sz ∧ z.cells.size = sz ∧ i.bytes = bytes ∧ ∀ u ∈ z.cells.toList, u.oneCell' = true
def ETb (P : Program) (t e sz bytes : Nat) : Bool := match P.underlying t, P.info? e with
  | some (.slice e'), some i => Nat.beq e' e && Nat.beq i.size sz && Nat.beq i.bytes bytes && (match i.zero with | some z => Nat.beq z.cells.size sz && z.cells.toList.all (·.oneCell') | none => false)
  | _, _ => false
theorem ET.of {t e sz bytes : Nat} (h : ETb P t e sz bytes = true) : ET P t e sz bytes := by
  unfold ETb at h
  split at h
  · rename_i e' i hu hi
    simp only [Bool.and_eq_true, beq_eq, decide_eq_true_eq] at h
    obtain ⟨⟨⟨h1, h2⟩, h3⟩, h4⟩ := h
    split at h4
    · rename_i z hz
      simp only [Bool.and_eq_true, decide_eq_true_eq, List.all_eq_true] at h4
      subst h1
      exact ⟨hu, i, z, hi, hz, h2, h4.1, h3, h4.2⟩
    · cases h4
  · cases h

theorem run_storeCells_own (g o : Nat) (t : TypeId) (fr : Nat × Nat) : ∀ (vs : List Value) (i : Nat) (cur : Array Value) (w : World), w.heap[g]? = some (.cells cur t fr) → (∀ i, i < cur.size → ¬ (fr.1 ≤ i ∧ i < fr.2)) → o + i + vs.length ≤ cur.size → (∀ v ∈ vs, v.oneCell' = true) →
    (storeCells ⟨g, o, none⟩ vs i).run P w = .ok () (w.setRow g (cur.toList.take (o + i) ++ vs ++ cur.toList.drop (o + i + vs.length)).toArray)
  | [], i, cur, w, hg, _, _, _ => by
    simp only [storeCells, List.append_nil, List.length_nil, Nat.add_zero, List.take_append_drop, Array.toArray_toList]
    rw [setRow_self w g cur t fr hg]
    rfl
  | v :: rest, i, cur, w, hg, hfr, hl, h1 => by
    have hi : o + i < cur.size := by simp at hl; omega
    have hcell : w.cell? ⟨g, o + i, none⟩ = some cur[o + i] := by simp [World.cell?, hg, hi]
    have hfro : w.frozen? ⟨g, o + i, none⟩ = false := by
      have := hfr (o + i) hi
      simp only [World.frozen?, hg]; simpa using this
    have hst : (store ((⟨g, o, none⟩ : Addr).add i) v).run P w = .ok () (w.setRow g (cur.setIfInBounds (o + i) v)) := by
      rw [add_add, run_store P w _ v _ (h1 v (by simp)), hcell]
      simp [hfro, setCell_eq_setRow w g (o + i) cur t fr v hg]
    have ih := run_storeCells_own g o t fr rest (i + 1) (cur.setIfInBounds (o + i) v) (w.setRow g (cur.setIfInBounds (o + i) v)) (setRow_heap w g cur _ t _ hg) (by simpa using hfr) (by simp at hl ⊢; omega) (fun x hx => h1 x (by simp [hx]))
    simp only [storeCells, Sem.run_bind, hst, Result.andThen_ok, ih, setRow_setRow]
    congr 3
    have e := list_seg_step cur.toList (o + i) v rest (by simp at hl ⊢; omega)
    simpa [Array.toList_setIfInBounds, Nat.add_assoc] using e
theorem Sat.setRow {b : Nat} {cs : List Value} {T : TypeId} (h : Sat W w (Blk b cs T :: l)) (cs' : List Value) (hl : cs'.length = cs.length) : Sat W (w.setRow b cs'.toArray) (Blk b cs' T :: l) :=
  h.setBlk cs' hl rfl

theorem appB {t e sz bytes : Nat} (et : ET P t e sz bytes) (h0 : 0 < sz) {s x : Sl} {xs news : List Value} {ty : TypeId} (h : Sat W w (SlR e sz s xs :: l)) (hx : RdC w x sz news) (h1 : ∀ u ∈ news, u.oneCell' = true)
    (hb : (s.len + x.len) * bytes ≤ 140737488355328) (hm : s.len + x.len < 2 ^ 63) {K : Sl → World → Prop}
    (hK : ∀ s' w', Sat W w' (SlR e sz s' (xs ++ news) :: l) → s'.len = s.len + x.len → K s' w') : RunK .sl P (Builtin.append_ #[t, t] ty #[s.v, x.v]) w K := by
  obtain ⟨ht, i, z, hi, hz, hsz, hzs, hby, hzo⟩ := et
  subst hsz
  subst hby
  obtain ⟨hxl, hxc, hxn, hxr⟩ := hx
  obtain ⟨sa, sl, sc⟩ := s
  obtain ⟨xa, xl, xc⟩ := x
  simp only at *
  cases xa with
  | none =>
    have hc0 := hxn rfl
    have hl0 : xl = 0 := by omega
    subst hl0; subst hc0
    have hn : news = [] := List.eq_nil_of_length_eq_zero (by simpa using hxl)
    subst hn
    have hle := h.slLen.2.1
    simp only at hle
    refine ⟨⟨sa, sl, sc⟩, w, ?_, hK _ _ (by simpa using h) rfl⟩
    cases sa with
    | none => simp [Builtin.append_, run_underlying ht, sizeOf, typeInfo, hi, Builtin.lenOf, Builtin.firstCells, hle]
    | some a => simp [Builtin.append_, run_underlying ht, sizeOf, typeInfo, hi, Builtin.lenOf, Builtin.firstCells, hle, storeCells]
  | some ax =>
    have hnews : ∀ j u, news[j]? = some u → w.cell? (ax.add j) = some u := hxr ax rfl
    have hgrow : ∀ (a : Option Addr) (olds : List Value), sl + xl ≤ grownCap w (sl + xl) sc e → olds.length = sl * i.size → (∀ u ∈ olds, u.oneCell' = true) →
        Sat W (w.drew.alloc (.cells (olds ++ news ++ (Builtin.zeroCells z.cells (grownCap w (sl + xl) sc e - (sl + xl))).toList).toArray e)) (SlR e i.size ⟨some ⟨w.heap.size, 0, none⟩, sl + xl, grownCap w (sl + xl) sc e⟩ (olds ++ news) :: l) := by
      intro _ olds hge hol ho1
      have hzl : (Builtin.zeroCells z.cells (grownCap w (sl + xl) sc e - (sl + xl))).toList.length = (grownCap w (sl + xl) sc e - (sl + xl)) * i.size := by simp [size_zeroCells, hzs]
      refine (h.tail.drew.newBlk _ e).mkSlr rfl hge ?_ ?_ ?_ ?_
      · have := grownCap_le_maxLen w (sl + xl) sc e (by unfold maxLen; omega)
        show grownCap w (sl + xl) sc e < 2 ^ 63
        unfold maxLen at this; omega
      · simp only [List.length_append, hzl, hol, hxl, ← Nat.add_mul, Nat.zero_add]
        have : sl + xl + (grownCap w (sl + xl) sc e - (sl + xl)) = grownCap w (sl + xl) sc e := by omega
        rw [this]; omega
      · rw [List.drop_zero]
        have : (sl + xl) * i.size = (olds ++ news).length := by rw [List.length_append, hol, hxl, Nat.add_mul]
        simp only
        rw [this, List.take_left]
      · intro u hu
        rw [List.mem_append, List.mem_append] at hu
        rcases hu with (hu | hu) | hu
        · exact ho1 u hu
        · exact h1 u hu
        · simp only [Builtin.zeroCells, Array.toList_map, List.mem_map, Array.toList_range, List.mem_range] at hu
          obtain ⟨k, hk, rfl⟩ := hu
          have hkz : k % z.cells.size < z.cells.size := Nat.mod_lt _ (by omega)
          rw [getElem!_pos z.cells _ hkz]
          exact hzo _ (by simp)
    have hge := grownCap_ge w (sl + xl) sc e
    by_cases hx0 : sa = none ∧ xl = 0
    · obtain ⟨rfl, rfl⟩ := hx0
      rcases h.slr with ⟨_, hsl, hsc, hxs⟩ | ⟨g, o, cur, hsa, _⟩
      case inr => cases hsa
      simp only at hsl hsc
      subst hsl; subst hsc; subst hxs
      have hn : news = [] := List.eq_nil_of_length_eq_zero (by simpa using hxl)
      subst hn
      refine ⟨⟨none, 0, 0⟩, w, ?_, hK _ _ (by simpa using h) rfl⟩
      simp [Builtin.append_, run_underlying ht, sizeOf, typeInfo, hi, Builtin.lenOf, Builtin.firstCells, loadCells, loadCellsFrom]
    rcases h.slr with ⟨hsa, hsl, hsc, hxs⟩ | ⟨g, o, cur, hsa, hblk, hlc, hc63, hcl, hxs, hcu⟩
    · simp only at hsa hsl hsc
      subst hsa; subst hsl; subst hsc; subst hxs
      have hpos : 0 < xl := by
        rcases Nat.eq_zero_or_pos xl with h | h
        · exact absurd ⟨rfl, h⟩ hx0
        · exact h
      have hr := run_append_nil (P := P) w t ty e i z ht hi hz ax xl xc news hxl hnews hpos (by omega) (by simp only [Nat.zero_add] at hb; omega)
      have hg := hgrow none [] hge (by simp) (by simp)
      simp only [Nat.zero_add, List.nil_append] at hg hr hge
      refine ⟨⟨some ⟨w.heap.size, 0, none⟩, xl, grownCap w xl 0 e⟩, _, hr, hK _ _ ?_ (by simp)⟩
      have he : (news.toArray ++ Builtin.zeroCells z.cells (grownCap w xl 0 e - xl)) = (news ++ (Builtin.zeroCells z.cells (grownCap w xl 0 e - xl)).toList).toArray := by apply Array.ext'; simp
      rw [he]
      simpa using hg
    · simp only at hsa hlc hc63 hcl hxs
      subst hsa
      obtain ⟨fr, hbb, hfr⟩ := hblk.blk
      have hcap : sl * i.size ≤ sc * i.size := Nat.mul_le_mul_right _ hlc
      have hxsl : xs.length = sl * i.size := by rw [hxs]; simp; omega
      by_cases hroom : sl + xl ≤ sc
      · have hsum : (sl + xl) * i.size ≤ sc * i.size := Nat.mul_le_mul_right _ hroom
        rw [Nat.add_mul] at hsum
        have hfit : o + sl * i.size + news.length ≤ cur.length := by rw [hxl]; omega
        have hf := run_firstCells_some (P := P) w i.size xl ax xl xc news hxl hnews
        have hst := run_storeCells_own (P := P) g (o + sl * i.size) e fr news 0 cur.toArray w hbb (by simpa using hfr) (by simpa using hfit) h1
        simp only [Nat.add_zero] at hst
        refine ⟨⟨some ⟨g, o, none⟩, sl + xl, sc⟩, w.setRow g (cur.take (o + sl * i.size) ++ news ++ cur.drop (o + sl * i.size + news.length)).toArray, ?_, hK _ _ ?_ rfl⟩
        · simp [Builtin.append_, run_underlying ht, sizeOf, typeInfo, hi, Builtin.lenOf, hroom, hf, add_add, hst]
        · have hlen : (cur.take (o + sl * i.size) ++ news ++ cur.drop (o + sl * i.size + news.length)).length = cur.length := by simp; omega
          refine (hblk.setRow _ hlen).mkSlr rfl (by simpa using hroom) hc63 (by rw [hlen]; exact hcl) ?_ ?_
          · simp only
            have hx1 : xs = (cur.take (o + sl * i.size)).drop o := by
              rw [hxs, List.drop_take]; congr 1; omega
            have hol : o ≤ (cur.take (o + sl * i.size)).length := by simp; omega
            rw [List.append_assoc, List.drop_append_of_le_length hol, ← hx1, ← List.append_assoc]
            have : (sl + xl) * i.size = (xs ++ news).length := by rw [List.length_append, hxsl, hxl, Nat.add_mul]
            rw [this, List.take_left]
          · intro u hu
            rw [List.mem_append, List.mem_append] at hu
            rcases hu with (hu | hu) | hu
            · exact hcu u (List.mem_of_mem_take hu)
            · exact h1 u hu
            · exact hcu u (List.mem_of_mem_drop hu)
      · have holds : ∀ j u, xs[j]? = some u → w.cell? ((⟨g, o, none⟩ : Addr).add j) = some u := h.rdc.2.2.2 _ rfl
        have hr := run_append_grow (P := P) w t ty e i z ht hi hz ⟨g, o, none⟩ sl sc xs hxsl holds ax xl xc news hxl hnews (by omega) (by omega) (growslice_fits (by omega) hb)
        have hg := hgrow none xs hge hxsl h.slOne
        refine ⟨⟨some ⟨w.heap.size, 0, none⟩, sl + xl, grownCap w (sl + xl) sc e⟩, _, hr, hK _ _ ?_ rfl⟩
        have he : (xs.toArray ++ news.toArray ++ Builtin.zeroCells z.cells (grownCap w (sl + xl) sc e - (sl + xl))) = (xs ++ news ++ (Builtin.zeroCells z.cells (grownCap w (sl + xl) sc e - (sl + xl))).toList).toArray := by apply Array.ext'; simp
        rw [he]
        exact hg
end
end Go.Pk

/- Worlds by parts: more rules. -/
namespace Go.Pk
open Go
theorem ifB_intro {t : Bool} {A B : Prop} (h1 : t = true → A) (h2 : t = false → B) : ifB t A B := by
  cases t
  · exact h2 rfl
  · exact h1 rfl
theorem ifB_false {A B : Prop} : ifB false A B = B := rfl
theorem ifB_true {A B : Prop} : ifB true A B = A := rfl
theorem ifB_dec {c : Prop} [Decidable c] {A B : Prop} (h1 : c → A) (h2 : ¬ c → B) : ifB (decide c) A B :=
  ifB_intro (fun h => h1 (of_decide_eq_true h)) (fun h => h2 (of_decide_eq_false h))
theorem ifB_beq {a b : Int} {A B : Prop} (h1 : a = b → A) (h2 : a ≠ b → B) : ifB (a == b) A B :=
  ifB_intro (fun h => h1 (by simpa using h)) (fun h => h2 (by simpa using h))
theorem ifB_bne {a b : Int} {A B : Prop} (h1 : a ≠ b → A) (h2 : a = b → B) : ifB (a != b) A B :=
  ifB_intro (fun h => h1 (by simpa using h)) (fun h => h2 (by simpa using h))
theorem ifB_not {t : Bool} {A B : Prop} (h : ifB t B A) : ifB (!t) A B := by cases t <;> exact h
section
variable {W w : World} {l : List Res} {P : Program}
theorem rdBlk {g : Nat} {cs : List Value} {T : TypeId} (h : Sat W w (Blk g cs T :: l)) {n sz : Nat} (hn : cs.length = n * sz) : RdC w ⟨some ⟨g, 0, none⟩, n, n⟩ sz cs := by
  refine ⟨hn, Nat.le_refl _, (fun h => (by cases h)), fun a ha j u hu => ?_⟩
  cases ha
  rw [add_add, Nat.zero_add, h.cell]; exact hu
theorem run_bs1 {t e by_ : Nat} (et : ET P t e 1 by_) {v : Value} (hv : v.oneCell' = true) (w : World) :
    (Instr.buildSlice t 1 #[(0, v)]).run P w = .ok (.slice (some ⟨w.heap.size, 0, none⟩) 1 1) (w.alloc (.cells #[v] e)) := by
  obtain ⟨ht, i, z, hi, hz, hsz, hzs, hby, hzo⟩ := et
  have hc := oneCell_cells hv
  simp [Instr.buildSlice, run_underlying ht, sizeOf, typeInfo, zeroValue, program, Sem.run, hi, hsz, hz, Instr.fill, hc, newRow, newObj]
  have h1 : Array.range 1 = #[0] := rfl
  rw [h1]
  congr 2
  apply Array.toList_inj.1
  simp
/-- one element of one cell is laid behind -/
theorem app1 {t e by_ : Nat} (et : ET P t e 1 by_) {s : Sl} {xs : List Value} {ty : TypeId} {v : Value} (h : Sat W w (SlR e 1 s xs :: l)) (hv : v.oneCell' = true)
    (hb : (s.len + 1) * by_ ≤ 140737488355328) (hm : s.len + 1 < 2 ^ 63) {K : Sl → World → Prop}
    (hK : ∀ s' w', Sat W w' (SlR e 1 s' (xs ++ [v]) :: l) → s'.len = s.len + 1 → K s' w') :
    RunK .sl P (Instr.buildSlice t 1 #[(0, v)]) w fun s5 w6 => RunK .sl P (Builtin.append_ #[t, t] ty #[s.v, s5.v]) w6 K := by
  refine bsB h (cs := [v]) (e := e) (fun w => run_bs1 et hv w) ?_
  intro g w1 h1
  refine appB et (by decide) (s := s) (x := ⟨some ⟨g, 0, none⟩, 1, 1⟩) h1.swap (rdBlk h1 rfl) (by simpa using hv) hb hm fun s' w' h2 hl => hK s' w' h2.drop2 hl
end
end Go.Pk

/- Worlds by parts: elements of slices, parts of slices, what was there before. -/
namespace Go.Pk
open Go
theorem Addr_add2 (a : Addr) (m n : Nat) : (a.add m).add n = a.add (m + n) := by
  unfold Addr.add
  split <;> split <;> split <;> simp_all <;> omega
/-- what is read of a slice, wherever the parts 'l' hold -/
def Rd (W : World) (l : List Res) (s : Sl) (sz : Nat) (xs : List Value) : Prop := ∀ w, Sat W w l → RdC w s sz xs
/-- all that was there when the call began -/
def Old (W : World) : Res := fun h => ∀ b, b < W.heap.size → h b = W.heap[b]?
section
variable {W w : World} {l : List Res} {P : Program}
theorem Sat.old (W : World) : Sat W W [Old W] := ⟨rfl, rfl, rfl, Nat.le_refl _, hpOf W, fun _ => none, fun _ => .inr rfl, Hp.le_refl _, (fun _ _ h => by cases h), fun _ _ => rfl, trivial⟩
theorem Sat.block_old (h : Sat W w (Old W :: l)) : ∀ b, b < W.heap.size → w.heap[b]? = W.heap[b]? := by
  obtain ⟨h1, h2, d, l1, l2, r, s⟩ := h.star
  intro b hb
  have := r b hb
  cases hw : W.heap[b]? with
  | none => simp at hw; omega
  | some o => rw [hw] at this; exact l1 b o this
theorem cell_old (h : Sat W w (Old W :: l)) {a : Addr} {v : Value} (hc : W.cell? a = some v) : w.cell? a = some v := by
  rw [← hc]
  exact World.cell?_of_block (h.block_old _ (World.block_lt_of_cell? _ _ hc))
theorem rdc_old (h : Sat W w (Old W :: l)) {s : Sl} {sz : Nat} {xs : List Value} (hr : RdC W s sz xs) : RdC w s sz xs :=
  ⟨hr.1, hr.2.1, hr.2.2.1, fun a ha j u hu => cell_old h (hr.2.2.2 a ha j u hu)⟩
theorem Rd.old {s : Sl} {sz : Nat} {xs : List Value} (hr : RdC W s sz xs) : Rd W (Old W :: l) s sz xs := fun _ h => rdc_old h hr
theorem Rd.own {T : TypeId} {sz : Nat} {s : Sl} {xs : List Value} : Rd W (SlR T sz s xs :: l) s sz xs := fun _ h => h.rdc
theorem Rd.cons {R : Res} {sz : Nat} {s : Sl} {xs : List Value} (h : Rd W l s sz xs) : Rd W (R :: l) s sz xs := fun _ hs => h _ hs.tail
theorem Rd.blk {g : Nat} {cs : List Value} {T : TypeId} {n sz : Nat} (hn : cs.length = n * sz) : Rd W (Blk g cs T :: l) ⟨some ⟨g, 0, none⟩, n, n⟩ sz cs := fun _ h => rdBlk h hn
theorem Rd.nil {sz : Nat} {c : Nat} (hc : c = 0) : Rd W l ⟨none, 0, c⟩ sz [] := fun _ _ => ⟨by simp, Nat.zero_le _, fun _ => hc, fun a ha => by cases ha⟩

/-! ### elements -/
theorem run_ix {t e sz by_ : Nat} (et : ET P t e sz by_) {s : Sl} {a : Addr} {k : IntKind} {i : Int} (ha : s.a = some a) (h0 : 0 ≤ i) (h1 : i.toNat < s.len) (w : World) :
    (Instr.indexAt t s.v (.int k i)).run P w = .ok (.pointer (some (a.add (i.toNat * sz)))) w := by
  obtain ⟨ht, inf, z, hi, hz, hsz, _⟩ := et
  obtain ⟨sa, sl, sc⟩ := s
  simp only at ha h1
  subst ha
  have hlt : i < (sl : Int) := by omega
  simp [Instr.indexAt, asIntOf, run_underlying ht, Sem.run_bind, sizeOf, typeInfo, program, Sem.run, hi, hsz, h0, hlt]
theorem some_of_lt {s : Sl} {sz : Nat} {xs : List Value} (h : RdC w s sz xs) {n : Nat} (hn : n < s.len) : ∃ a, s.a = some a := by
  cases ha : s.a with
  | none => have := h.2.2.1 ha; have := h.2.1; omega
  | some a => exact ⟨a, rfl⟩
/-- an element of one cell is read -/
theorem ixld {t e by_ : Nat} (et : ET P t e 1 by_) {s : Sl} {xs : List Value} (h : RdC w s 1 xs) {ik : IntKind} {i : Int} {k : Kd} {x : k.Ty} {t' : TypeId} (h0 : 0 ≤ i) (hx : xs[i.toNat]? = some (k.v x)) {K : k.Ty → Prop} (hK : K x)
    (ht : oneT P t' = true := by kernel_rfl) :
    RunQ .addr P (Instr.indexAt t s.v (.int ik i)) w fun a => RunQ k P (Instr.loadAt t' (.pointer (some a))) w K := by
  have hlt : i.toNat < xs.length := (List.getElem?_eq_some_iff.1 hx).1
  have hl := h.1
  obtain ⟨a, ha⟩ := some_of_lt h (n := i.toNat) (by omega)
  exact ⟨_, run_ix et ha h0 (by omega) w, x, run_load1 ht (h.2.2.2 a ha _ _ (by simpa using hx)), hK⟩
/-- the address of an element -/
theorem ixA {t e sz by_ : Nat} (et : ET P t e sz by_) {s : Sl} {xs : List Value} (h : RdC w s sz xs) {ik : IntKind} {i : Int} (h0 : 0 ≤ i) (h1 : i.toNat < s.len) {K : Addr → Prop}
    (hK : ∀ a, (∀ j u, j < sz → xs[i.toNat * sz + j]? = some u → w.cell? (a.add j) = some u) → K a) :
    RunQ .addr P (Instr.indexAt t s.v (.int ik i)) w K := by
  obtain ⟨a, ha⟩ := some_of_lt h h1
  exact ⟨_, run_ix et ha h0 h1 w, hK _ fun j u _ hu => by rw [Addr_add2]; exact h.2.2.2 a ha _ _ hu⟩
theorem ldC {k : Kd} {t : TypeId} {a : Addr} {x : k.Ty} (hc : w.cell? a = some (k.v x)) {K : k.Ty → Prop} (hK : K x) (ht : oneT P t = true := by kernel_rfl) :
    RunQ k P (Instr.loadAt t (.pointer (some a))) w K := ⟨x, run_load1 ht hc, hK⟩
/-- an element of one cell is written -/
theorem ixst {t e by_ T : Nat} (et : ET P t e 1 by_) {s : Sl} {xs : List Value} (h : Sat W w (SlR T 1 s xs :: l)) {ik : IntKind} {i : Int} {t' : TypeId} {v : Value} (h0 : 0 ≤ i) (h1 : i.toNat < s.len) {K : World → Prop}
    (hK : ∀ w', Sat W w' (SlR T 1 s (xs.set i.toNat v) :: l) → K w') (hv : v.oneCell' = true := by rfl) (ht : oneT P t' = true := by kernel_rfl) :
    RunQ .addr P (Instr.indexAt t s.v (.int ik i)) w fun a => StoreP P t' (.pointer (some a)) v w K := by
  rcases h.slr with ⟨_, h2, _⟩ | ⟨g, o, cur, ha, hb, h2, h3, h4, h5, h6⟩
  · omega
  · refine ⟨_, run_ix et ha h0 h1 w, ?_⟩
    rw [add_add]
    have hlt : o + i.toNat * 1 < cur.length := by omega
    refine stV hb (fun w' h' => hK w' (h'.mkSlr ha h2 h3 (by simpa using h4) ?_ ?_)) hv hlt ht
    · subst h5
      rw [List.drop_set, if_neg (by omega), List.take_set]
      congr 1; omega
    · intro u hu
      rcases List.mem_or_eq_of_mem_set hu with hu | rfl
      · exact h6 u hu
      · exact hv

/-! ### parts of a slice -/
theorem run_slice {t e sz by_ : Nat} (et : ET P t e sz by_) {s : Sl} {lo hi : Int} (h0 : 0 ≤ lo) (h1 : lo ≤ hi) (h2 : hi ≤ s.cap) (w : World) {j k : IntKind} :
    (Instr.sliceAt t s.v (some (.int j lo)) (some (.int k hi)) none).run P w = .ok (Sl.v ⟨if s.cap = lo.toNat then s.a else s.a.map (·.add (lo.toNat * sz)), hi.toNat - lo.toNat, s.cap - lo.toNat⟩) w := by
  obtain ⟨ht, inf, z, hi', hz, hsz, _⟩ := et
  have e1 : (0 ≤ hi ∧ hi ≤ (s.cap : Int)) := ⟨by omega, h2⟩
  have e2 : (0 ≤ lo ∧ lo ≤ (hi.toNat : Int)) := ⟨h0, by omega⟩
  have e3 : ¬ (max hi 0 < lo) := by omega
  simp [Instr.sliceAt, Instr.slice, run_underlying ht, Sem.run_bind, Instr.sliceBounds, Instr.sliceBound, asIntOf, sizeOf, typeInfo, program, Sem.run, hi', hsz, e1, e2]
  intro h; exact absurd h e3
theorem run_sliceLo {t e sz by_ : Nat} (et : ET P t e sz by_) {s : Sl} {lo : Int} (h0 : 0 ≤ lo) (h1 : lo ≤ s.len) (hc : s.len ≤ s.cap) (w : World) {j : IntKind} :
    (Instr.sliceAt t s.v (some (.int j lo)) none none).run P w = .ok (Sl.v ⟨if s.cap = lo.toNat then s.a else s.a.map (·.add (lo.toNat * sz)), s.len - lo.toNat, s.cap - lo.toNat⟩) w := by
  obtain ⟨ht, inf, z, hi', hz, hsz, _⟩ := et
  have e2 : (0 ≤ lo ∧ lo ≤ (s.len : Int)) := ⟨h0, h1⟩
  simp [Instr.sliceAt, Instr.slice, run_underlying ht, Sem.run_bind, Instr.sliceBounds, Instr.sliceBound, asIntOf, sizeOf, typeInfo, program, Sem.run, hi', hsz, e2]
theorem run_sliceHi {t e sz by_ : Nat} (et : ET P t e sz by_) {s : Sl} {hi : Int} (h0 : 0 ≤ hi) (h1 : hi ≤ s.cap) (w : World) {j : IntKind} :
    (Instr.sliceAt t s.v none (some (.int j hi)) none).run P w = .ok (Sl.v ⟨s.a, hi.toNat, s.cap⟩) w := by
  obtain ⟨ht, inf, z, hi', hz, hsz, _⟩ := et
  have e2 : (0 ≤ hi ∧ hi ≤ (s.cap : Int)) := ⟨h0, h1⟩
  have e3 : (s.a.map (·.add (0 * sz))) = s.a := by cases s.a <;> simp [Addr.add]
  simp [Instr.sliceAt, Instr.slice, run_underlying ht, Sem.run_bind, Instr.sliceBounds, Instr.sliceBound, asIntOf, sizeOf, typeInfo, program, Sem.run, hi', hsz, e2]
  intro _; cases s.a <;> simp [Addr.add]
/-- what a part of a slice reads as -/
def subSl (s : Sl) (sz lo hi : Nat) : Sl := ⟨if s.cap = lo then s.a else s.a.map (·.add (lo * sz)), hi - lo, s.cap - lo⟩
theorem RdC.sub {s : Sl} {sz : Nat} {xs : List Value} (h : RdC w s sz xs) {lo hi : Nat} (h1 : lo ≤ hi) (h2 : hi ≤ s.len) : RdC w (subSl s sz lo hi) sz ((xs.drop (lo * sz)).take ((hi - lo) * sz)) := by
  obtain ⟨a1, a2, a3, a4⟩ := h
  have hm : hi * sz ≤ s.len * sz := Nat.mul_le_mul_right _ h2
  have hm2 : lo * sz ≤ hi * sz := Nat.mul_le_mul_right _ h1
  refine ⟨?_, ?_, ?_, ?_⟩
  · simp only [subSl, List.length_take, List.length_drop, a1, Nat.sub_mul]; omega
  · simp only [subSl]; omega
  · intro hn
    simp only [subSl] at hn ⊢
    split at hn
    · have := a3 hn; omega
    · have := a3 (by simpa using hn); omega
  · intro a ha j u hu
    simp only [subSl] at ha
    rw [List.getElem?_take] at hu
    split at hu
    case isFalse => cases hu
    rename_i hj
    rw [List.getElem?_drop] at hu
    split at ha
    · rename_i hc
      have : hi - lo = 0 := by omega
      rw [this] at hj; simp at hj
    · obtain ⟨a', ha', rfl⟩ := Option.map_eq_some_iff.1 ha
      rw [Addr_add2]
      exact a4 a' ha' _ _ hu
theorem Rd.sub {s : Sl} {sz : Nat} {xs : List Value} (h : Rd W l s sz xs) {lo hi : Nat} (h1 : lo ≤ hi) (h2 : hi ≤ s.len) : Rd W l (subSl s sz lo hi) sz ((xs.drop (lo * sz)).take ((hi - lo) * sz)) := fun w hw => (h w hw).sub h1 h2

/-! ### under a condition (regions that draw their order) -/
theorem hld {S : World → Prop} {k : Kd} {t : TypeId} {a : Addr} {x : k.Ty} (hS : ∀ w, S w → w.cell? a = some (k.v x)) {K : k.Ty → Prop} (hK : K x) (ht : oneT P t = true := by kernel_rfl) :
    HRun S k P (Instr.loadAt t (.pointer (some a))) K := ⟨x, fun w hw => run_load1 ht (hS w hw), hK⟩
theorem hldB {S : World → Prop} {W : World} {b : Nat} {cs : List Value} {T : TypeId} (hS : ∀ w, S w → ∃ l, Sat W w (Blk b cs T :: l)) {k : Kd} {t : TypeId} {o i : Nat} {x : k.Ty} {K : k.Ty → Prop} (hK : K x)
    (hx : cs[o + i]? = some (k.v x) := by rfl) (ht : oneT P t = true := by kernel_rfl) : HRun S k P (Instr.loadAt t (.pointer (some ((⟨b, o, none⟩ : Addr).add i)))) K :=
  ⟨x, fun w hw => by obtain ⟨l, h⟩ := hS w hw; exact run_load1 ht (by rw [add_add, h.cell, hx]), hK⟩
end
end Go.Pk

/- Layer of separation: values of several cells. -/
namespace Go.Pk
open Go
section
variable {W w : World} {l : List Res} {P : Program}
def aggT (P : Program) (t : TypeId) (n : Nat) : Bool := match P.info? t, P.underlying t with
  | some i, some d => (i.size == n) && (match d with | .struct _ => true | .array _ _ => true | _ => false)
  | _, _ => false
theorem aggT_agg {t : TypeId} {n : Nat} (h : aggT P t n = true) (w : World) : (isAgg t).run P w = .ok true w := by
  unfold aggT at h
  split at h
  · rename_i i d hi hd
    simp only [Bool.and_eq_true] at h
    have hr : (underlying t).run P w = .ok d w := by simp [underlying, program, Sem.run, hd]
    simp only [isAgg, Sem.run_bind, hr, Result.andThen_ok]
    cases d <;> first | rfl | (simp at h)
  · cases h
theorem aggT_size {t : TypeId} {n : Nat} (h : aggT P t n = true) (w : World) : (sizeOf t).run P w = .ok n w := by
  unfold aggT at h
  split at h
  · rename_i i d hi hd
    simp only [Bool.and_eq_true, beq_iff_eq] at h
    simp [sizeOf, typeInfo, program, Sem.run, Sem.run_bind, hi, h.1]
  · cases h
theorem run_loadCellsFrom {a : Addr} : ∀ (cs : List Value) (i : Nat) (acc : Array Value), (∀ j u, cs[j]? = some u → w.cell? (a.add (i + j)) = some u) →
    (loadCellsFrom a i cs.length acc).run P w = .ok (acc ++ cs.toArray) w
  | [], i, acc, _ => by simp [loadCellsFrom]
  | v :: cs, i, acc, h => by
    have h0 := h 0 v rfl
    have ih := run_loadCellsFrom cs (i + 1) (acc.push v) fun j u hu => by
      have := h (j + 1) u (by simpa using hu)
      rwa [show i + 1 + j = i + (j + 1) by omega]
    simp only [Nat.add_zero] at h0
    simp only [List.length_cons, loadCellsFrom, Sem.run_bind]
    have hl : (load (a.add i)).run P w = .ok v w := by simp [h0]
    rw [hl]
    simp only [Result.andThen_ok]
    rw [ih]
    congr 1
    apply Array.toList_inj.1
    simp
/-- a value of several cells is read -/
theorem ldAgg {t : TypeId} {a : Addr} {cs : List Value} (hc : ∀ j u, cs[j]? = some u → w.cell? (a.add j) = some u) (ht : aggT P t cs.length = true) {K : Value → Prop} (hK : K (.agg cs.toArray)) :
    RunQ .val P (Instr.loadAt t (.pointer (some a))) w K := by
  refine ⟨_, ?_, hK⟩
  have := run_loadCellsFrom (P := P) (w := w) (a := a) cs 0 #[] (by simpa using hc)
  simp [Instr.loadAt, Instr.sureAddr, loadVar, Sem.run_bind, aggT_agg ht, aggT_size ht, loadCells, this]
theorem ldAggB {t T : TypeId} {b : Nat} {cs : List Value} (h : Sat W w (Blk b cs T :: l)) (ht : aggT P t cs.length = true) {K : Value → Prop} (hK : K (.agg cs.toArray)) :
    RunQ .val P (Instr.loadAt t (.pointer (some ⟨b, 0, none⟩))) w K :=
  ldAgg (cs := cs) (fun j u hu => by rw [add_add, Nat.zero_add, h.cell]; exact hu) ht hK
/-- a value of several cells is written over a block of one's own -/
theorem stAggB {t T : TypeId} {b : Nat} {cs cs' : List Value} (h : Sat W w (Blk b cs T :: l)) (hl : cs'.length = cs.length) (h1 : ∀ u ∈ cs', u.oneCell' = true) (ht : aggT P t cs'.length = true) {K : World → Prop}
    (hK : ∀ w', Sat W w' (Blk b cs' T :: l) → K w') : StoreP P t (.pointer (some ⟨b, 0, none⟩)) (.agg cs'.toArray) w K := by
  obtain ⟨fr, hb, hf⟩ := h.blk
  have hst := run_storeCells_own (P := P) b 0 T fr cs' 0 cs.toArray w hb (by simpa using hf) (by simp; omega) h1
  refine ⟨_, ?_, hK _ (h.setRow cs' hl)⟩
  have e : (List.take (0 + 0) cs.toArray.toList ++ cs' ++ List.drop (0 + 0 + cs'.length) cs.toArray.toList) = cs' := by simp; omega
  rw [e] at hst
  have hcells : (Value.agg cs'.toArray).cells = cs'.toArray := by simp [Value.cells]
  simp [Instr.storeAt, Instr.sureAddr, storeVar, Sem.run_bind, aggT_size ht, hcells, hst]
end
end Go.Pk

/- Layer of separation: parts are moved by their places. -/
namespace Go.Pk
open Go
section
variable {W w : World} {l : List Res} {P : Program}
/-- the part at a place -/
abbrev nthR : List Res → Nat → Res
  | [], _ => Pure True
  | A :: _, 0 => A
  | _ :: l, i + 1 => nthR l i
theorem perm_up : ∀ (l : List Res) (i : Nat), i < l.length → l.Perm (nthR l i :: l.eraseIdx i)
  | [], _, h => by simp at h
  | A :: l, 0, _ => .refl _
  | A :: l, i + 1, h => ((perm_up l i (by simpa using h)).cons A).trans (.swap _ _ _)
theorem nthR_out : ∀ (l : List Res) (i : Nat), l.length ≤ i → nthR l i = Pure True
  | [], _, _ => rfl
  | A :: l, 0, h => by simp at h
  | A :: l, i + 1, h => nthR_out l i (by simpa using h)
/-- the part at the place i comes to the front -/
theorem Sat.up {L : List Res} (h : Sat W w L) (i : Nat) : Sat W w (nthR L i :: L.eraseIdx i) := by
  rcases Nat.lt_or_ge i L.length with hl | hl
  · exact h.perm (perm_up L i hl)
  · rw [nthR_out L i hl, List.eraseIdx_of_length_le hl]
    exact sat_pure.2 ⟨trivial, h⟩
/-- the part at the place i is let go -/
theorem Sat.cut {L : List Res} (h : Sat W w L) (i : Nat) : Sat W w (L.eraseIdx i) := (h.up i).tail
theorem take_nth : ∀ (L : List Res) (n : Nat), n ≤ L.length → L.take n = (List.range n).map (nthR L)
  | L, 0, _ => by simp
  | [], n + 1, h => by simp at h
  | A :: L, n + 1, h => by
    have ih := take_nth L n (by simpa using h)
    rw [List.take_succ_cons, ih, List.range_succ_eq_map, List.map_cons, List.map_map]
    rfl
def notIn (i : Nat) : List Nat → Bool
  | [] => true
  | j :: l => !Nat.beq i j && notIn i l
def selOk (n : Nat) : List Nat → Bool
  | [] => true
  | i :: l => Nat.blt i n && (notIn i l && selOk n l)
theorem notIn_iff (i : Nat) : ∀ l, notIn i l = true ↔ i ∉ l
  | [] => by simp [notIn]
  | j :: l => by
    simp only [notIn, Bool.and_eq_true, Bool.not_eq_true', notIn_iff i l, beq_eq, decide_eq_false_iff_not, List.mem_cons, not_or]
theorem selOk_iff (n : Nat) : ∀ l, selOk n l = true → l.Nodup ∧ ∀ i ∈ l, i < n
  | [], _ => by simp
  | i :: l, h => by
    simp only [selOk, Bool.and_eq_true, notIn_iff, Nat.blt_eq] at h
    obtain ⟨h1, h2, h3⟩ := h
    obtain ⟨h4, h5⟩ := selOk_iff n l h3
    exact ⟨List.nodup_cons.2 ⟨h2, h4⟩, fun j hj => by rcases List.mem_cons.1 hj with rfl | hj; exact h1; exact h5 j hj⟩
/-- of the first n parts those at the places 'idx', in this order -/
theorem Sat.sel {L : List Res} (h : Sat W w L) (n : Nat) (idx : List Nat) (hn' : Nat.ble n L.length = true := by rfl) (hi : selOk n idx = true := by rfl) : Sat W w (idx.map (nthR L) ++ L.drop n) := by
  have hn : n ≤ L.length := Nat.le_of_ble_eq_true hn'
  obtain ⟨h1, h2⟩ := selOk_iff n idx hi
  have hp : (List.range n).Perm (idx ++ (List.range n).filter fun i => decide (i ∉ idx)) := by
    refine (List.perm_ext_iff_of_nodup List.nodup_range ?_).2 fun a => ?_
    · refine List.nodup_append.2 ⟨h1, List.nodup_range.filter _, fun a ha b hb he => ?_⟩
      subst he
      simp only [List.mem_filter, decide_eq_true_eq] at hb
      exact hb.2 ha
    · simp only [List.mem_range, List.mem_append, List.mem_filter, decide_eq_true_eq]
      constructor
      · intro ha
        by_cases hx : a ∈ idx
        · exact .inl hx
        · exact .inr ⟨ha, hx⟩
      · rintro (ha | ha)
        · exact h2 a ha
        · exact ha.1
  have h3 : Sat W w (idx.map (nthR L) ++ (((List.range n).filter fun i => decide (i ∉ idx)).map (nthR L) ++ L.drop n)) := by
    rw [← List.append_assoc, ← List.map_append]
    have h4 : Sat W w (L.take n ++ L.drop n) := by rw [List.take_append_drop]; exact h
    rw [take_nth L n hn] at h4
    exact h4.perm ((hp.map _).append_right _)
  have h5 := h3.perm (List.perm_append_comm_assoc _ _ _)
  exact ((sat_all (l' := ((List.range n).filter fun i => decide (i ∉ idx)).map (nthR L))).2 h5).tail
theorem sat_allc {A : Res} {m : List Res} : Sat W w (All (A :: m) :: l) ↔ Sat W w (A :: All m :: l) := by
  constructor
  · intro h
    have h1 := sat_all.1 h
    have h2 : Sat W w (m ++ (A :: l)) := h1.perm List.perm_middle.symm
    exact ((sat_all (l' := m)).2 h2).swap
  · intro h
    have h1 := sat_all.1 h.swap
    exact (sat_all (l' := A :: m)).2 (h1.perm List.perm_middle)
theorem sat_alln : Sat W w (All [] :: l) ↔ Sat W w l := sat_all (l' := [])
end
end Go.Pk

/- Layer 3 in plain Lean: the forms, and how they are taken. -/
namespace Go.Pk
open Go
def vB (b : UInt8) : Value := .int .u8 b.toNat
def vI (n : Int) : Value := .int .i64 n
def uintB (n : Nat) : List UInt8 := if n ≤ 127 then [UInt8.ofNat n] else UInt8.ofNat (n % 128 + 128) :: uintB (n / 128)
termination_by n
decreasing_by omega
def zig (n : Int) : Nat := if 0 ≤ n then (2 * n).toNat else (-2 * n - 1).toNat
def zag (n : Nat) : Int := if n % 2 = 0 then ((n / 2 : Nat) : Int) else -((n / 2 : Nat) : Int) - 1
def intB (n : Int) : List UInt8 := uintB (zig n)
def flagB (b : Bool) : List UInt8 := [if b then 1 else 0]
def fixedB (n : Nat) : List UInt8 := [UInt8.ofNat n, UInt8.ofNat (n / 256), UInt8.ofNat (n / 65536), UInt8.ofNat (n / 16777216)]
def bytesB (b : List UInt8) : List UInt8 := uintB b.length ++ b
def intsB (l : List Int) : List UInt8 := uintB l.length ++ l.flatMap intB

theorem uintB_len (k : Nat) : ∀ n, n < 128 ^ (k + 1) → (uintB n).length ≤ k + 1 := by
  induction k with
  | zero => intro n h; unfold uintB; rw [if_pos (by omega)]; simp
  | succ k ih =>
    intro n h
    unfold uintB
    split
    · simp
    · have := ih (n / 128) (by rw [Nat.pow_succ] at h; omega)
      simp; omega
theorem uintB_len10 (n : Nat) (h : n < 2 ^ 64) : (uintB n).length ≤ 10 := uintB_len 9 n (by omega)
theorem uintB_pos (n : Nat) : 0 < (uintB n).length := by unfold uintB; split <;> simp
theorem uintB_small {n : Nat} (h : n ≤ 127) : uintB n = [UInt8.ofNat n] := by unfold uintB; rw [if_pos h]
theorem uintB_big {n : Nat} (h : ¬ n ≤ 127) : uintB n = UInt8.ofNat (n % 128 + 128) :: uintB (n / 128) := by
  conv => lhs; unfold uintB
  rw [if_neg h]
theorem zig_lt {n : Int} (h0 : -9223372036854775808 ≤ n) (h1 : n < 9223372036854775808) : zig n < 2 ^ 64 := by
  unfold zig; split <;> omega
theorem zag_zig (n : Int) : zag (zig n) = n := by
  unfold zag zig
  split <;> split <;> omega
theorem zig_zag (n : Nat) : zig (zag n) = n := by
  unfold zag zig
  split <;> split <;> omega
theorem vB_all (l : List UInt8) : ∀ u ∈ l.map vB, u.oneCell' = true := by
  intro u hu
  obtain ⟨b, _, rfl⟩ := List.mem_map.1 hu
  rfl
theorem vI_all (l : List Int) : ∀ u ∈ l.map vI, u.oneCell' = true := by
  intro u hu
  obtain ⟨b, _, rfl⟩ := List.mem_map.1 hu
  rfl
/-! ### numbers of a kind -/
theorem w_i64 {n : Int} (h0 : -9223372036854775808 ≤ n) (h1 : n < 9223372036854775808) : IntKind.i64.wrap n = n := by
  simp only [IntKind.wrap, IntKind.signed, IntKind.bits, Bool.true_and]
  split <;> rename_i h <;> simp at h <;> omega
theorem w_i64_hi {n : Int} (h0 : 9223372036854775808 ≤ n) (h1 : n < 18446744073709551616) : IntKind.i64.wrap n = n - 18446744073709551616 := by
  simp only [IntKind.wrap, IntKind.signed, IntKind.bits, Bool.true_and]
  split <;> rename_i h <;> simp at h <;> omega
theorem w_u64 {n : Int} (h0 : 0 ≤ n) (h1 : n < 18446744073709551616) : IntKind.u64.wrap n = n := by
  simp [IntKind.wrap, IntKind.signed, IntKind.bits]; omega
theorem w_u64' (n : Int) : IntKind.u64.wrap n = n % 18446744073709551616 := by simp [IntKind.wrap, IntKind.signed, IntKind.bits]
theorem w_u32 {n : Int} (h0 : 0 ≤ n) (h1 : n < 4294967296) : IntKind.u32.wrap n = n := by
  simp [IntKind.wrap, IntKind.signed, IntKind.bits]; omega
theorem w_u8' (n : Int) : IntKind.u8.wrap n = n % 256 := by simp [IntKind.wrap, IntKind.signed, IntKind.bits]
theorem w_u8_of (n : Int) (h : 0 ≤ n) : IntKind.u8.wrap n = ((UInt8.ofNat n.toNat).toNat : Int) := by rw [w_u8']; simp; omega
theorem fdiv_pos (n : Int) {d : Int} (h : 0 ≤ d) : Int.fdiv n d = n / d := Int.fdiv_eq_ediv_of_nonneg _ h
theorem or128 (n : Int) (h : 0 ≤ n) : IntKind.u8.wrap ↑(BitVec.ofInt 8 (IntKind.u8.wrap n) ||| BitVec.ofInt 8 128).toNat = ((UInt8.ofNat (n.toNat % 128 + 128)).toNat : Int) := by
  rw [w_u8', w_u8']
  have hk : n % 256 = (((n.toNat % 256 : Nat)) : Int) := by omega
  rw [hk]
  have hx : (n.toNat % 128 + 128) = (n.toNat % 256) % 128 + 128 := by omega
  rw [hx]
  have hlt : n.toNat % 256 < 256 := Nat.mod_lt _ (by decide)
  generalize n.toNat % 256 = k at hlt
  have key : ∀ k : Fin 256, ((BitVec.ofInt 8 ((k.val : Nat) : Int) ||| BitVec.ofInt 8 128).toNat : Int) % 256 = ((UInt8.ofNat (k.val % 128 + 128)).toNat : Int) := by decide +kernel
  exact key ⟨k, hlt⟩
theorem and127 (b : UInt8) : IntKind.u8.wrap ↑(BitVec.ofInt 8 (b.toNat : Int) &&& BitVec.ofInt 8 127).toNat = ((b.toNat % 128 : Nat) : Int) := by
  have hlt : b.toNat < 256 := b.toNat_lt
  generalize b.toNat = k at hlt
  rw [w_u8']
  have key : ∀ k : Fin 256, ((BitVec.ofInt 8 ((k.val : Nat) : Int) &&& BitVec.ofInt 8 127).toNat : Int) % 256 = ((k.val % 128 : Nat) : Int) := by decide +kernel
  exact key ⟨k, hlt⟩
theorem zig_code {x : Int} (h0 : -9223372036854775808 ≤ x) (h1 : x < 9223372036854775808) :
    IntKind.u64.wrap (↑(BitVec.ofInt 64 (IntKind.u64.wrap (IntKind.u64.wrap x * 2 ^ 1)) ^^^ BitVec.ofInt 64 (IntKind.u64.wrap (Int.fdiv x (2 ^ 63)))).toNat : Int) = (zig x : Int) := by
  have hxor : ∀ v : BitVec 64, IntKind.u64.wrap (v.toNat : Int) = (v.toNat : Int) := fun v => w_u64 (by omega) (by have := v.isLt; omega)
  rw [hxor, fdiv_pos _ (by decide)]
  simp only [w_u64']
  by_cases hx : 0 ≤ x
  · have h2 : x / 2 ^ 63 % 18446744073709551616 = 0 := by omega
    have h3 : x % 18446744073709551616 * 2 ^ 1 % 18446744073709551616 = 2 * x := by omega
    rw [h2, h3]
    simp [zig, hx, BitVec.toNat_ofInt]
    omega
  · have h2 : x / 2 ^ 63 % 18446744073709551616 = 18446744073709551615 := by omega
    have h3 : x % 18446744073709551616 * 2 ^ 1 % 18446744073709551616 = 18446744073709551616 + 2 * x := by omega
    rw [h2, h3]
    have h4 : BitVec.ofInt 64 18446744073709551615 = BitVec.allOnes 64 := by decide
    rw [h4, BitVec.xor_allOnes]
    simp [zig, hx, BitVec.toNat_not, BitVec.toNat_ofInt]
    omega
theorem zag_code {n : Nat} (h : n < 2 ^ 64) :
    IntKind.i64.wrap (↑(BitVec.ofInt 64 (IntKind.i64.wrap (Int.fdiv (n : Int) (2 ^ 1))) ^^^ BitVec.ofInt 64 (IntKind.i64.wrap (0 - IntKind.i64.wrap (IntKind.u64.wrap (↑(BitVec.ofInt 64 (n : Int) &&& BitVec.ofInt 64 1).toNat : Int))))).toNat : Int) = zag n := by
  rw [fdiv_pos _ (by decide)]
  have h1 : (BitVec.ofInt 64 (n : Int) &&& BitVec.ofInt 64 1).toNat = n % 2 := by
    have : (BitVec.ofInt 64 (n : Int)).toNat = n := by simp [BitVec.toNat_ofInt]; omega
    rw [BitVec.toNat_and, this]
    show n &&& 1 = n % 2
    exact Nat.and_one_is_mod n
  rw [h1]
  have hd : IntKind.i64.wrap ((n : Int) / 2 ^ 1) = (n : Int) / 2 := by rw [w_i64 (by omega) (by omega)]; rfl
  rw [hd]
  rcases Nat.mod_two_eq_zero_or_one n with h2 | h2
  · rw [h2]
    have : IntKind.i64.wrap (0 - IntKind.i64.wrap (IntKind.u64.wrap ((0 : Nat) : Int))) = 0 := by decide
    rw [this]
    have h3 : (BitVec.ofInt 64 ((n : Int) / 2) ^^^ BitVec.ofInt 64 0).toNat = n / 2 := by
      simp [BitVec.toNat_ofInt]; omega
    rw [h3, w_i64 (by omega) (by omega)]
    simp [zag, h2]
  · rw [h2]
    have : IntKind.i64.wrap (0 - IntKind.i64.wrap (IntKind.u64.wrap ((1 : Nat) : Int))) = -1 := by decide
    rw [this]
    have h4 : BitVec.ofInt 64 (-1) = BitVec.allOnes 64 := by decide
    have h3 : (BitVec.ofInt 64 ((n : Int) / 2) ^^^ BitVec.ofInt 64 (-1)).toNat = 18446744073709551615 - n / 2 := by
      rw [h4, BitVec.xor_allOnes, BitVec.toNat_not]
      simp [BitVec.toNat_ofInt]; omega
    rw [h3]
    have hv : ((18446744073709551615 - n / 2 : Nat) : Int) = 18446744073709551615 - (n : Int) / 2 := by omega
    rw [hv]
    have hz : zag n = -((n / 2 : Nat) : Int) - 1 := by unfold zag; rw [if_neg (by omega)]
    rw [hz, w_i64_hi (by omega) (by omega)]
    omega

/-! ### taking -/
def rdU : List UInt8 → Nat → Nat → Int ⊕ (Nat × Nat)
  | [], _, _ => .inl 6
  | b :: l, k, n => if (k = 9 ∧ b.toNat > 1) ∨ (b.toNat = 0 ∧ k > 0) then .inl 7 else
    if b.toNat < 128 then .inr (n + b.toNat * 128 ^ k, k + 1) else rdU l (k + 1) (n + (b.toNat - 128) * 128 ^ k)
def takeU (t : List UInt8) (p : Nat) (e : Int) : Nat × Nat × Int :=
  if e ≠ 0 then (0, p, e) else match rdU (t.drop p) 0 0 with
    | .inl e' => (0, p, e')
    | .inr (n, c) => (n, p + c, 0)
def takeI (t : List UInt8) (p : Nat) (e : Int) : Int × Nat × Int := (zag (takeU t p e).1, (takeU t p e).2)
def takeF (t : List UInt8) (p : Nat) (e : Int) : Bool × Nat × Int :=
  let x := takeU t p e
  if x.1 > 1 then (false, x.2.1, if x.2.2 = 0 then 7 else x.2.2) else (x.1 == 1, x.2.1, x.2.2)
def fixedN : List UInt8 → Nat
  | a :: b :: c :: d :: _ => a.toNat + b.toNat * 256 + c.toNat * 65536 + d.toNat * 16777216
  | _ => 0
def takeX (t : List UInt8) (p : Nat) (e : Int) : Nat × Nat × Int :=
  if e ≠ 0 then (0, p, e) else if t.length - p < 4 then (0, p, 6) else (fixedN (t.drop p), p + 4, 0)
def takeB (t : List UInt8) (p : Nat) (e : Int) : List UInt8 × Nat × Int :=
  let x := takeU t p e
  if x.2.2 ≠ 0 then ([], x.2.1, x.2.2) else if x.1 > 4096 then ([], x.2.1, 2) else if x.1 > t.length - x.2.1 then ([], x.2.1, 6) else ((t.drop x.2.1).take x.1, x.2.1 + x.1, 0)
def endE (t : List UInt8) (p : Nat) (e : Int) : Int := if e = 0 ∧ p < t.length then 6 else e

def rdOk (k m : Nat) : Int ⊕ (Nat × Nat) → Prop
  | .inl e => e = 6 ∨ e = 7
  | .inr x => x.1 < 2 ^ 64 ∧ x.2 ≤ k + m ∧ k < x.2 ∧ x.2 ≤ 10
theorem rdU_bound : ∀ (l : List UInt8) (k n : Nat), k ≤ 9 → n < 128 ^ k → rdOk k l.length (rdU l k n) := by
  intro l
  induction l with
  | nil => intro k n _ _; simp [rdU, rdOk]
  | cons b l ih =>
    intro k n hk hn
    simp only [rdU]
    by_cases h1 : (k = 9 ∧ b.toNat > 1) ∨ (b.toNat = 0 ∧ k > 0)
    · rw [if_pos h1]; simp [rdOk]
    · rw [if_neg h1]
      by_cases h2 : b.toNat < 128
      · rw [if_pos h2]
        refine ⟨?_, (by show k + 1 ≤ k + (l.length + 1); omega), (by show k < k + 1; omega), (by show k + 1 ≤ 10; omega)⟩
        simp only
        rcases Nat.lt_or_ge k 9 with h9 | h9
        · have : 128 ^ (k + 1) ≤ 128 ^ 9 := Nat.pow_le_pow_right (by decide) (by omega)
          have h3 : b.toNat * 128 ^ k ≤ 127 * 128 ^ k := Nat.mul_le_mul_right _ (by omega)
          rw [Nat.pow_succ] at this
          omega
        · have : k = 9 := by omega
          subst this
          have : b.toNat ≤ 1 := by omega
          have h3 : b.toNat * 128 ^ 9 ≤ 1 * 128 ^ 9 := Nat.mul_le_mul_right _ this
          omega
      · rw [if_neg h2]
        have hk9 : k < 9 := by
          rcases Nat.lt_or_ge k 9 with h | h
          · exact h
          · exact absurd (Or.inl ⟨by omega, by omega⟩) h1
        have hb : b.toNat < 256 := b.toNat_lt
        have h3 : (b.toNat - 128) * 128 ^ k ≤ 127 * 128 ^ k := Nat.mul_le_mul_right _ (by omega)
        have := ih (k + 1) (n + (b.toNat - 128) * 128 ^ k) (by omega) (by rw [Nat.pow_succ]; omega)
        revert this
        cases rdU l (k + 1) (n + (b.toNat - 128) * 128 ^ k) with
        | inl e => exact id
        | inr x => simp only [List.length_cons, rdOk]; intro h; omega
theorem takeU_bound {t : List UInt8} {p : Nat} {e : Int} (hp : p ≤ t.length) : (takeU t p e).1 < 2 ^ 64 ∧ p ≤ (takeU t p e).2.1 ∧ (takeU t p e).2.1 ≤ t.length ∧ ((takeU t p e).2.2 ≠ 0 → (takeU t p e).1 = 0) ∧ (e ≠ 0 → takeU t p e = (0, p, e)) := by
  unfold takeU
  split
  · simp; omega
  · rename_i he
    have := rdU_bound (t.drop p) 0 0 (by omega) (by simp)
    revert this
    cases rdU (t.drop p) 0 0 with
    | inl e' => simp [rdOk, hp]; intro _ h; exact absurd h he
    | inr x => obtain ⟨m, c⟩ := x; simp [rdOk]; omega
end Go.Pk

/- Layer of separation: bytes and strings. -/
namespace Go.Pk
open Go
section
variable {W w : World} {l : List Res} {P : Program}
theorem run_mark {t e : TypeId} (ht : P.underlying t = some (.slice e)) (he : P.underlying e = some (.int .u8)) (w : World) (C : Array Value) (n : Nat) :
    (convert t t (.slice (some ⟨w.heap.size, 0, none⟩) n n)).run P (w.alloc (.cells C e)) = .ok (.slice (some ⟨w.heap.size, 0, none⟩) n n) (w.alloc (.cells C e (C.size, C.size + 1))) := by
  have hsh : (w.alloc (.cells C e)).shape? w.heap.size = some (e, C.size) := by
    have : (w.alloc (.cells C e)).heap[w.heap.size]? = some (.cells C e) := by
      show (w.heap.push (.cells C e))[w.heap.size]? = _
      simp
    unfold World.shape?
    rw [this]
  have hm : ∀ (a : Array Obj) (x : Obj) (f : Obj → Obj), (a.push x).modify a.size f = a.push (f x) := by
    intro a x f
    apply Array.ext
    · simp
    · intro i h1 h2
      simp only [Array.getElem_modify, Array.getElem_push]
      by_cases h : a.size = i
      · subst h
        simp
      · have hi : i < a.size := by simp at h1; omega
        simp [h, hi]
  have hfr : (w.alloc (.cells C e)).freeze ⟨w.heap.size, C.size, none⟩ 1 = w.alloc (.cells C e (C.size, C.size + 1)) := by
    unfold World.freeze
    rw [if_neg (by decide)]
    show ({ w.alloc (.cells C e) with heap := (w.heap.push (.cells C e)).modify w.heap.size _ } : World) = _
    rw [hm]
    rfl
  simp [convert, run_underlying ht, run_underlying he, markStringish, hsh, hfr]
/-- '[]byte("..")', written out -/
theorem bsMark {t e n : TypeId} {ps : Array (Nat × Value)} {cs : List Value} (ht : P.underlying t = some (.slice e)) (he : P.underlying e = some (.int .u8)) (h : Sat W w l)
    (hr : ∀ w, (Instr.buildSlice t n ps).run P w = .ok (.slice (some ⟨w.heap.size, 0, none⟩) n n) (w.alloc (.cells cs.toArray e))) {K : Sl → World → Prop}
    (hK : ∀ b w', Sat W w' (Blk b cs e :: l) → K ⟨some ⟨b, 0, none⟩, n, n⟩ w') :
    RunK .sl P (Instr.buildSlice t n ps) w fun s w1 => RunK .sl P (convert t t s.v) w1 K := by
  refine ⟨⟨some ⟨w.heap.size, 0, none⟩, n, n⟩, _, hr w, ⟨some ⟨w.heap.size, 0, none⟩, n, n⟩, _, run_mark ht he w cs.toArray n, hK _ _ ?_⟩
  have h' := h.new (.cells cs.toArray e (cs.toArray.size, cs.toArray.size + 1))
  obtain ⟨h1, h2, d, l1, l2, r, s⟩ := h'.star
  exact ⟨h'.os, h'.tape, h'.output, h'.size, h1, h2, d, l1, l2, ⟨_, r, by intro i hi; simp; omega⟩, s⟩
theorem str_eq (a b : List UInt8) : (ByteArray.toList ⟨a.toArray⟩ == ByteArray.toList ⟨b.toArray⟩) = decide (a = b) := by
  rw [ByteArray.toList_mk, ByteArray.toList_mk]
  by_cases h : a = b
  · subst h; simp
  · simp [h]
end
end Go.Pk

/- Layer of separation: a slice of one's own whose elements own something. -/
namespace Go.Pk
open Go
structure El (α : Type) where
  T : TypeId
  sz : Nat
  cells : α → List Value
  own : α → Res
  len : ∀ x, (cells x).length = sz
  one : ∀ x, ∀ u ∈ cells x, u.oneCell' = true
def El.flat {α : Type} (E : El α) (xs : List α) : List Value := xs.flatMap E.cells
/-- a slice and what its elements own -/
def OwnS {α : Type} (E : El α) (s : Sl) (xs : List α) : Res := All [SlR E.T E.sz s (E.flat xs), All (xs.map E.own)]
section
variable {W w : World} {l : List Res} {P : Program} {α : Type} {E : El α} {s : Sl} {xs : List α}
theorem sat_own : Sat W w (OwnS E s xs :: l) ↔ Sat W w (SlR E.T E.sz s (E.flat xs) :: All (xs.map E.own) :: l) := sat_all
theorem flat_length {E : El α} : ∀ xs : List α, (E.flat xs).length = xs.length * E.sz
  | [] => by simp [El.flat]
  | x :: xs => by
    have ih := flat_length (E := E) xs
    simp only [El.flat, List.flatMap_cons, List.length_append, List.length_cons, E.len, Nat.add_mul] at ih ⊢
    omega
theorem flat_app {E : El α} (xs ys : List α) : E.flat (xs ++ ys) = E.flat xs ++ E.flat ys := by simp [El.flat]
theorem flat_one {E : El α} (x : α) : E.flat [x] = E.cells x := by simp [El.flat]
theorem flat_take {E : El α} : ∀ (xs : List α) (k : Nat), (E.flat xs).take (k * E.sz) = E.flat (xs.take k)
  | [], k => by simp [El.flat]
  | x :: xs, 0 => by simp [El.flat]
  | x :: xs, k + 1 => by
    have ih := flat_take (E := E) xs k
    simp only [El.flat, List.flatMap_cons, List.take_succ_cons] at ih ⊢
    rw [List.take_append, E.len, List.take_of_length_le (by rw [E.len, Nat.add_mul]; omega)]
    have e : (k + 1) * E.sz - E.sz = k * E.sz := by rw [Nat.add_mul]; omega
    rw [e, ih]
theorem flat_drop {E : El α} : ∀ (xs : List α) (k : Nat), (E.flat xs).drop (k * E.sz) = E.flat (xs.drop k)
  | [], k => by simp [El.flat]
  | x :: xs, 0 => by simp [El.flat]
  | x :: xs, k + 1 => by
    have ih := flat_drop (E := E) xs k
    simp only [El.flat, List.flatMap_cons, List.drop_succ_cons] at ih ⊢
    rw [List.drop_append, E.len, List.drop_of_length_le (by rw [E.len, Nat.add_mul]; omega)]
    have e : (k + 1) * E.sz - E.sz = k * E.sz := by rw [Nat.add_mul]; omega
    rw [e, ih, List.nil_append]
theorem flat_at {E : El α} {xs : List α} {i j : Nat} {x : α} {u : Value} (hx : xs[i]? = some x) (hu : (E.cells x)[j]? = some u) : (E.flat xs)[i * E.sz + j]? = some u := by
  have hj : j < E.sz := by rw [← E.len x]; exact (List.getElem?_eq_some_iff.1 hu).1
  have h1 : (E.flat xs).drop (i * E.sz) = E.cells x ++ E.flat (xs.drop (i + 1)) := by
    rw [flat_drop]
    obtain ⟨hi, rfl⟩ := List.getElem?_eq_some_iff.1 hx
    rw [List.drop_eq_getElem_cons hi]
    simp only [El.flat, List.flatMap_cons]
  have h2 : (E.flat xs)[i * E.sz + j]? = ((E.flat xs).drop (i * E.sz))[j]? := by rw [List.getElem?_drop]
  rw [h2, h1, List.getElem?_append_left (by rw [E.len]; exact hj)]
  exact hu
theorem own_nil (h : Sat W w l) : Sat W w (OwnS E ⟨none, 0, 0⟩ [] :: l) :=
  sat_own.2 (Sat.nilSlr (sat_alln.2 h) E.T E.sz)
theorem own_len (h : Sat W w (OwnS E s xs :: l)) (h0 : 0 < E.sz) : s.len = xs.length ∧ s.len ≤ s.cap ∧ s.cap < 2 ^ 63 := by
  have := (sat_own.1 h).slLen
  rw [flat_length] at this
  exact ⟨(Nat.eq_of_mul_eq_mul_right h0 this.1).symm, this.2⟩
/-- what an element owns, apart -/
theorem own_split {m : List Res} {i : Nat} {R : Res} (hi : m[i]? = some R) (h : Sat W w (All m :: l)) : Sat W w (R :: All (m.eraseIdx i) :: l) := by
  have hl : i < m.length := (List.getElem?_eq_some_iff.1 hi).1
  have h1 := sat_all.1 h
  have h2 : m.Perm (R :: m.eraseIdx i) := by
    have := perm_up m i hl
    have e : nthR m i = R := by
      clear h h1 this
      induction m generalizing i with
      | nil => simp at hi
      | cons A m ih =>
        cases i with
        | zero => simpa [nthR] using hi
        | succ i => exact ih (by simpa using hi) (by simpa using hl)
    rwa [e] at this
  have h3 : Sat W w (R :: (m.eraseIdx i ++ l)) := h1.perm (h2.append_right l)
  exact ((sat_all (l' := m.eraseIdx i)).2 (h3.perm (List.perm_middle.symm))).swap
/-- one element more -/
theorem own_push {t e : TypeId} {sz by_ : Nat} {x : α} {g : Nat} {ty : TypeId} (et : ET P t e sz by_) (hT : E.T = e) (hsz : E.sz = sz) (h0 : 0 < sz) (h : Sat W w (Blk g (E.cells x) e :: E.own x :: OwnS E s xs :: l)) (hb : (xs.length + 1) * by_ ≤ 140737488355328) (hm : xs.length + 1 < 2 ^ 63)
    {K : Sl → World → Prop} (hK : ∀ s' w', Sat W w' (OwnS E s' (xs ++ [x]) :: l) → K s' w') : RunK .sl P (Builtin.append_ #[t, t] ty #[s.v, Sl.v ⟨some ⟨g, 0, none⟩, 1, 1⟩]) w K := by
  subst hT; subst hsz
  have h1 := sat_own.1 (h.up 2)
  have hl := own_len (h.up 2) h0
  refine appB et h0 (s := s) (x := ⟨some ⟨g, 0, none⟩, 1, 1⟩) (news := E.cells x) h1 (rdBlk (h1.up 2) (by rw [E.len]; omega)) (E.one x) (by rw [hl.1]; exact hb) (by rw [hl.1]; exact hm) fun s' w' h2 _ => ?_
  refine hK s' w' (sat_own.2 ?_)
  rw [flat_app, flat_one, List.map_append]
  have h3 : Sat W w' (E.own x :: All (xs.map E.own) :: SlR E.T E.sz s' (E.flat xs ++ E.cells x) :: l) := ((h2.cut 2).up 1).up 2
  have h4 : Sat W w' (All (E.own x :: xs.map E.own) :: SlR E.T E.sz s' (E.flat xs ++ E.cells x) :: l) := sat_allc.2 h3
  have h5 : Sat W w' (All (xs.map E.own ++ [E.own x]) :: SlR E.T E.sz s' (E.flat xs ++ E.cells x) :: l) := by
    have := sat_all.1 h4
    refine (sat_all (l' := xs.map E.own ++ [E.own x])).2 (this.perm ?_)
    exact List.Perm.append_right _ (List.perm_append_comm (l₁ := [E.own x]) (l₂ := xs.map E.own))
  exact h5.swap
/-- the first ones alone -/
theorem slr_take {T : TypeId} {sz : Nat} {us : List Value} (h : Sat W w (SlR T sz s us :: l)) {k : Nat} (hk : k ≤ s.len) : Sat W w (SlR T sz ⟨s.a, k, s.cap⟩ (us.take (k * sz)) :: l) := by
  rcases h.slr with ⟨h0, h1, h2, h3⟩ | ⟨g, o, cur, ha, hb, h1, h2, h3, h4, h5⟩
  · have hk0 : k = 0 := by omega
    obtain ⟨sa, sl, sc⟩ := s
    simp only at h0 h1 h2
    subst h0; subst h2; subst h3; subst hk0
    simpa using Sat.nilSlr h.tail T sz
  · refine hb.mkSlr ha (by show k ≤ s.cap; omega) h2 h3 ?_ h5
    rw [h4, List.take_take]
    congr 1
    have : k * sz ≤ s.len * sz := Nat.mul_le_mul_right _ hk
    show min (k * sz) (s.len * sz) = k * sz
    omega
/-- the last ones alone -/
theorem slr_drop {T : TypeId} {sz : Nat} {us : List Value} (h : Sat W w (SlR T sz s us :: l)) {k : Nat} (hk : k ≤ s.len) : Sat W w (SlR T sz (subSl s sz k s.len) (us.drop (k * sz)) :: l) := by
  rcases h.slr with ⟨h0, h1, h2, h3⟩ | ⟨g, o, cur, ha, hb, h1, h2, h3, h4, h5⟩
  · have hk0 : k = 0 := by omega
    obtain ⟨sa, sl, sc⟩ := s
    simp only at h0 h1 h2
    subst h0; subst h1; subst h2; subst h3; subst hk0
    simpa [subSl] using Sat.nilSlr h.tail T sz
  · have hm : k * sz ≤ s.len * sz := Nat.mul_le_mul_right _ hk
    have hm2 : s.len * sz ≤ s.cap * sz := Nat.mul_le_mul_right _ h1
    by_cases hc : s.cap = k
    · have hl : s.len = k := by omega
      refine hb.mkSlr (s := subSl s sz k s.len) (o := o) (by simp only [subSl, if_pos hc]; exact ha) (by simp only [subSl]; omega) (by simp only [subSl]; omega) ?_ ?_ h5
      · simp only [subSl, hc, Nat.sub_self, Nat.zero_mul, Nat.add_zero]; omega
      · simp only [subSl, hl, Nat.sub_self, Nat.zero_mul, List.take_zero]
        rw [h4, hl, List.drop_of_length_le]
        simp; omega
    · refine hb.mkSlr (s := subSl s sz k s.len) (o := o + k * sz) (by simp only [subSl, if_neg hc, ha, Option.map_some, add_add]) (by simp only [subSl]; omega) (by simp only [subSl]; omega) ?_ ?_ h5
      · simp only [subSl, Nat.sub_mul]; omega
      · rw [h4]
        simp only [subSl, Nat.sub_mul, List.drop_take, List.drop_drop]
end
end Go.Pk

/- Layer of separation: parts of a block; elements of several cells. -/
namespace Go.Pk
open Go
section
variable {W w : World} {l : List Res} {P : Program} {α : Type} {E : El α} {s : Sl} {xs : List α}
/-- one cell is read, wherever the address comes from -/
theorem ldX {b : Nat} {cs : List Value} {T : TypeId} (h : Sat W w (Blk b cs T :: l)) {k : Kd} {t : TypeId} {A : Addr} (i : Nat) {x : k.Ty} {K : k.Ty → Prop} (hK : K x) (hx : cs[i]? = some (k.v x) := by rfl) (hA : A = ⟨b, i, none⟩ := by rfl) (ht : oneT P t = true := by kernel_rfl) :
    RunQ k P (Instr.loadAt t (.pointer (some A))) w K := by
  subst hA
  exact ldV h hK hx ht
theorem stX {b : Nat} {cs : List Value} {T : TypeId} (h : Sat W w (Blk b cs T :: l)) {t : TypeId} {A : Addr} (i : Nat) {v : Value} {K : World → Prop}
    (hK : ∀ w', Sat W w' (Blk b (cs.set i v) T :: l) → K w') (hv : v.oneCell' = true := by rfl) (hA : A = ⟨b, i, none⟩ := by rfl) (hi : i < cs.length := by simp) (ht : oneT P t = true := by kernel_rfl) : StoreP P t (.pointer (some A)) v w K := by
  subst hA
  exact stV h hK hv hi ht
theorem hldX {S : World → Prop} {b : Nat} {cs : List Value} {T : TypeId} (hS : ∀ w, S w → ∃ l, Sat W w (Blk b cs T :: l)) {k : Kd} {t : TypeId} {A : Addr} (i : Nat) {x : k.Ty} {K : k.Ty → Prop} (hK : K x) (hx : cs[i]? = some (k.v x) := by rfl) (hA : A = ⟨b, i, none⟩ := by rfl) (ht : oneT P t = true := by kernel_rfl) :
    HRun S k P (Instr.loadAt t (.pointer (some A))) K := by
  subst hA
  refine ⟨x, fun w hw => ?_, hK⟩
  obtain ⟨l, h⟩ := hS w hw
  exact run_load1 ht (by rw [h.cell, hx])
/-- several cells are read out of a block -/
theorem ldAggX {t T : TypeId} {b : Nat} {cs : List Value} {A : Addr} (i n : Nat) (h : Sat W w (Blk b cs T :: l)) {K : Value → Prop} (hK : K (.agg ((cs.drop i).take n).toArray)) (hl : i + n ≤ cs.length := by simp) (hA : A = ⟨b, i, none⟩ := by rfl) (ht : aggT P t n = true := by kernel_rfl) :
    RunQ .val P (Instr.loadAt t (.pointer (some A))) w K := by
  subst hA
  refine ldAgg (cs := (cs.drop i).take n) (fun j u hu => ?_) (by rw [List.length_take, List.length_drop, Nat.min_eq_left (by omega)]; exact ht) hK
  rw [add_add, h.cell]
  rw [List.getElem?_take] at hu
  split at hu
  · rw [List.getElem?_drop] at hu; exact hu
  · cases hu
theorem hldAggX {S : World → Prop} {t T : TypeId} {b : Nat} {cs : List Value} {A : Addr} (i n : Nat) (hS : ∀ w, S w → ∃ l, Sat W w (Blk b cs T :: l)) {K : Value → Prop} (hK : K (.agg ((cs.drop i).take n).toArray)) (hl : i + n ≤ cs.length := by simp) (hA : A = ⟨b, i, none⟩ := by rfl) (ht : aggT P t n = true := by kernel_rfl) :
    HRun S .val P (Instr.loadAt t (.pointer (some A))) K :=
  ⟨_, fun w hw => by
    obtain ⟨l, h⟩ := hS w hw
    obtain ⟨x, hx, hk⟩ := ldAggX (K := fun v => v = .agg ((cs.drop i).take n).toArray) i n h rfl hl hA ht
    rw [hx]; exact congrArg (fun v => Result.ok v w) hk, hK⟩
/-- a variable for a value of several cells -/
theorem newAgg {t : TypeId} {z cs : List Value} (h : Sat W w l) (h1 : ∀ u ∈ cs, u.oneCell' = true) {K : Addr → World → Prop} (hK : ∀ b w', Sat W w' (Blk b cs t :: l) → K ⟨b, 0, none⟩ w')
    (hz : (P.info? t).map (·.zero) = some (some (.agg z.toArray)) := by kernel_rfl) (hl : cs.length = z.length := by rfl) (ht : aggT P t cs.length = true := by kernel_rfl) :
    RunK .addr P (Instr.alloc t true (.tuple #[])) w fun a w1 => StoreP P t (.pointer (some a)) (.agg cs.toArray) w1 fun w2 => K a w2 :=
  allocB h hz fun b w1 hb => by
    have hb' : Sat W w1 (Blk b z t :: l) := by simpa [Value.cells] using hb
    exact stAggB hb' hl h1 ht fun w2 h2 => hK b w2 h2
/-- an element of several cells -/
theorem ixEl {t e sz by_ : Nat} (et : ET P t e sz by_) (hsz : E.sz = sz) (h : RdC w s sz (E.flat xs)) {ik : IntKind} {i : Int} {x : α} (h0 : 0 ≤ i) (hx : xs[i.toNat]? = some x) (h1 : i.toNat < s.len) {K : Addr → Prop}
    (hK : ∀ a, (∀ j u, (E.cells x)[j]? = some u → w.cell? (a.add j) = some u) → K a) : RunQ .addr P (Instr.indexAt t s.v (.int ik i)) w K := by
  subst hsz
  refine ixA et h h0 h1 fun a ha => hK a fun j u hu => ?_
  have hj : j < E.sz := by rw [← E.len x]; exact (List.getElem?_eq_some_iff.1 hu).1
  exact ha j u hj (flat_at hx hu)
theorem hixEl {S : World → Prop} {t e sz by_ : Nat} (et : ET P t e sz by_) (hsz : E.sz = sz) (hS : ∀ w, S w → RdC w s sz (E.flat xs)) (hw : S w) {ik : IntKind} {i : Int} {x : α} (h0 : 0 ≤ i) (hx : xs[i.toNat]? = some x) (h1 : i.toNat < s.len) {K : Addr → Prop}
    (hK : ∀ a, (∀ w, S w → ∀ j u, (E.cells x)[j]? = some u → w.cell? (a.add j) = some u) → K a) : HRun S .addr P (Instr.indexAt t s.v (.int ik i)) K := by
  subst hsz
  obtain ⟨a, ha⟩ := some_of_lt (hS w hw) h1
  refine ⟨_, fun w' _ => run_ix et ha h0 h1 w', hK _ fun w' hw' j u hu => ?_⟩
  rw [Addr_add2]
  exact (hS w' hw').2.2.2 a ha _ _ (flat_at hx hu)
theorem ldAggC {t : TypeId} {a : Addr} {cs : List Value} (hc : ∀ j u, cs[j]? = some u → w.cell? (a.add j) = some u) {K : Value → Prop} (hK : K (.agg cs.toArray)) (ht : aggT P t cs.length = true := by kernel_rfl) :
    RunQ .val P (Instr.loadAt t (.pointer (some a))) w K := ldAgg hc ht hK
theorem hldAggC {S : World → Prop} {t : TypeId} {a : Addr} {cs : List Value} (hc : ∀ w, S w → ∀ j u, cs[j]? = some u → w.cell? (a.add j) = some u) {K : Value → Prop} (hK : K (.agg cs.toArray)) (ht : aggT P t cs.length = true := by kernel_rfl) :
    HRun S .val P (Instr.loadAt t (.pointer (some a))) K :=
  ⟨_, fun w hw => by
    obtain ⟨x, hx, hk⟩ := ldAgg (K := fun v => v = .agg cs.toArray) (hc w hw) ht rfl
    rw [hx]; exact congrArg (fun v => Result.ok v w) hk, hK⟩
theorem RdC.hi {w : World} {s : Sl} {sz n : Nat} {xs : List Value} (h : RdC w s sz xs) (hn : n ≤ s.len) : RdC w ⟨s.a, n, s.cap⟩ sz (xs.take (n * sz)) := by
  obtain ⟨h1, h2, h3, h4⟩ := h
  refine ⟨?_, by simp only; omega, h3, fun a ha j u hu => h4 a ha j u ?_⟩
  · rw [List.length_take, h1]
    have := Nat.mul_le_mul_right sz hn
    simp only
    omega
  · rw [List.getElem?_take] at hu
    split at hu
    · exact hu
    · cases hu
theorem Rd.hi {s : Sl} {sz n : Nat} {xs : List Value} (h : Rd W l s sz xs) (hn : n ≤ s.len) : Rd W l ⟨s.a, n, s.cap⟩ sz (xs.take (n * sz)) := fun w hw => (h w hw).hi hn
theorem tyI {k : Kd} {x : k.Ty} {K : k.Ty → Prop} (h : K x) : TyP k (k.v x) K := ⟨x, rfl, h⟩
theorem tupU {v : Value} {K : Unit → Prop} (hv : v = .tuple #[]) (h : K ()) : TupP [] v K := ⟨(), hv, h⟩
end
end Go.Pk

/- Layer of separation: maps whose keys are whole numbers. -/
namespace Go.Pk
open Go
section
variable {W w : World} {l : List Res} {P : Program}
theorem Sat.setPt {b : Nat} {o o' : Obj} (h : Sat W w (Pt b o :: l)) : Sat W { w with heap := w.heap.setIfInBounds b o' } (Pt b o' :: l) := by
  refine h.upd rfl rfl rfl (by simp) ?_
  intro h1 hb hle
  have hw := hle b _ hb
  have hlt : b < w.heap.size := (Array.getElem?_eq_some_iff.1 hw).1
  refine ⟨fun x => if x = b then some o' else none, by simp [Pt], ?_, ?_, ?_⟩
  · intro x o hx
    simp only at hx
    split at hx
    · rename_i he
      cases hx; subst he
      simp only [hpOf]
      rw [Array.getElem?_setIfInBounds_self]; simp [hlt]
    · cases hx
  · intro x hx
    simp only at hx
    split at hx
    · rename_i he; subst he; left; rw [hb]; simp
    · exact absurd rfl hx
  · intro x hx hn
    have hne : b ≠ x := fun he => by subst he; rw [hb] at hn; cases hn
    rw [Array.getElem?_setIfInBounds_ne hne]
/-- the entries by key and value -/
def kvs (q : IntKind) (m : List (Int × Value)) : List (Value × Value) := m.map fun p => (.int q p.1, p.2)
def EntsOf (q : IntKind) (m : List (Int × Value)) (es : List MapEntry) (clock : Nat) : Prop :=
  es.map (fun e => (e.key, e.val)) = kvs q m ∧ (es.map (·.born)).Pairwise (· < ·) ∧ ∀ e ∈ es, e.born < clock
def MpR (q : IntKind) (r : Nat) (m : List (Int × Value)) : Res := fun h => ∃ (es : List MapEntry) (clock : Nat), h r = some (.map es.toArray clock) ∧ EntsOf q m es clock
theorem sat_mp {q : IntKind} {r : Nat} {m : List (Int × Value)} : Sat W w (MpR q r m :: l) ↔ ∃ es clock, EntsOf q m es clock ∧ Sat W w (Pt r (.map es.toArray clock) :: l) := by
  constructor
  · intro h
    obtain ⟨h1, h2, d, l1, l2, ⟨es, clock, r1, he⟩, s⟩ := h.star
    exact ⟨es, clock, he, h.os, h.tape, h.output, h.size, h1, h2, d, l1, l2, r1, s⟩
  · rintro ⟨es, clock, he, h⟩
    obtain ⟨h1, h2, d, l1, l2, r1, s⟩ := h.star
    exact ⟨h.os, h.tape, h.output, h.size, h1, h2, d, l1, l2, ⟨es, clock, r1, he⟩, s⟩
/-- what a key is put to -/
def mput : List (Int × Value) → Int → Value → List (Int × Value)
  | [], a, v => [(a, v)]
  | p :: m, a, v => if p.1 = a then (a, v) :: m else p :: mput m a v
def mget : List (Int × Value) → Int → Option Value
  | [], _ => none
  | p :: m, a => if p.1 = a then some p.2 else mget m a
theorem findNow_int {q : IntKind} {a : Int} : ∀ (es : List MapEntry) (m : List (Int × Value)) (i : Nat), es.map (fun e => (e.key, e.val)) = kvs q m →
    (Instr.findNow (.int q) (.int q a) es i = some none ∧ mget m a = none ∧ ∀ v, mput m a v = m ++ [(a, v)]) ∨
    ∃ j e, es[j]? = some e ∧ e.key = .int q a ∧ Instr.findNow (.int q) (.int q a) es i = some (some (i + j, e.val)) ∧ mget m a = some e.val ∧ ∀ v, (es.modify j fun e => { e with val := v }).map (fun e => (e.key, e.val)) = kvs q (mput m a v)
  | [], m, i, h => by
    cases m with
    | nil => exact .inl ⟨rfl, rfl, fun _ => rfl⟩
    | cons p m => simp [kvs] at h
  | e :: es, m, i, h => by
    cases m with
    | nil => simp [kvs] at h
    | cons p m =>
      simp only [kvs, List.map_cons, List.cons.injEq, Prod.mk.injEq] at h
      obtain ⟨⟨hk, hv⟩, ht⟩ := h
      by_cases hp : p.1 = a
      · right
        refine ⟨0, e, rfl, by rw [hk, hp], ?_, ?_, fun v => ?_⟩
        · simp [Instr.findNow, Instr.sameNow, hk, hp]
        · simp [mget, hp, hv]
        · simp only [List.modify_cons, mput, if_pos hp, kvs, List.map_cons, if_true]
          rw [hk, hp]
          simp only [List.cons.injEq, true_and]
          exact ht
      · have hne : (a == p.1) = false := by simp; exact fun h => hp h.symm
        have hf : Instr.findNow (.int q) (.int q a) (e :: es) i = Instr.findNow (.int q) (.int q a) es (i + 1) := by
          simp [Instr.findNow, Instr.sameNow, hk, hne]
        rcases findNow_int es m (i + 1) ht with ⟨h1, h2, h3⟩ | ⟨j, e', h1, h2, h3, h4, h5⟩
        · left
          refine ⟨by rw [hf]; exact h1, by simp [mget, hp, h2], fun v => by simp [mput, hp, h3]⟩
        · right
          refine ⟨j + 1, e', by simpa using h1, h2, by rw [hf, h3]; congr 3; omega, by simp [mget, hp, h4], fun v => ?_⟩
          simp only [List.modify_succ_cons, List.map_cons, mput, if_neg hp, kvs]
          rw [hk, hv]
          simp only [List.cons.injEq, true_and]
          exact h5 v
theorem run_getPt {b : Nat} {es : List MapEntry} {c : Nat} (h : Sat W w (Pt b (.map es.toArray c) :: l)) : (getObj b).run P w = .ok (.map es.toArray c) w := by
  have := h.pt
  simp [getObj, Sem.run, this]
theorem mkMap {t k e : TypeId} (_ht : P.underlying t = some (.map k e)) (h : Sat W w l) (q : IntKind) {K : Option Nat → World → Prop} (hK : ∀ r w', Sat W w' (MpR q r [] :: l) → K (some r) w') (hr : ∀ w, (Instr.makeMap t none).run P w = .ok (.map (some w.heap.size)) (w.alloc (.map #[] 0))) :
    RunK .map P (Instr.makeMap t none) w K :=
  ⟨some w.heap.size, _, hr w, hK _ _ (sat_mp.2 ⟨[], 0, ⟨rfl, by simp, by simp⟩, h.new _⟩)⟩
theorem mapUpd {t k e : TypeId} {q : IntKind} {r : Nat} {m : List (Int × Value)} {a : Int} {v : Value} (ht : P.underlying t = some (.map k e)) (hk : P.underlying k = some (.int q)) (h : Sat W w (MpR q r m :: l)) {K : World → Prop}
    (hK : ∀ w', Sat W w' (MpR q r (mput m a v) :: l) → K w') : RunU P (Instr.mapUpdate t (.map (some r)) (.int q a) v) w K := by
  obtain ⟨es, clock, ⟨he1, he2, he3⟩, hp⟩ := sat_mp.1 h
  have hpt := hp.pt
  have hck : ∀ n, (Instr.checkKey false (n + 1) k (.int q a)).run P w = .ok () w := fun n => by
    simp [Instr.checkKey, run_underlying hk]
  have hset : ∀ o', (setObj r o').run P w = .ok () { w with heap := w.heap.setIfInBounds r o' } := fun o' => by
    simp [setObj, Sem.run, hpt]
  rcases findNow_int es m 0 he1 (q := q) (a := a) with ⟨h1, h2, h3⟩ | ⟨j, e', h1, h2, h3, h4, h5⟩
  · refine ⟨{ w with heap := w.heap.setIfInBounds r (.map (es.toArray.push { key := .int q a, val := v, born := clock }) (clock + 1)) }, ?_, hK _ ?_⟩
    · simp only [Instr.mapUpdate, Sem.run_bind, run_underlying ht, Result.andThen, run_getPt hp, hck 9999]
      simp only [Instr.findKey, Sem.run_bind, run_underlying hk, Result.andThen, List.toList_toArray, h1, Sem.run_pure]
      exact hset _
    · rw [h3]
      refine sat_mp.2 ⟨es ++ [{ key := .int q a, val := v, born := clock }], clock + 1, ⟨?_, ?_, ?_⟩, ?_⟩
      · simp [kvs, he1]
      · rw [List.map_append, List.pairwise_append]
        refine ⟨he2, by simp, fun x hx y hy => ?_⟩
        obtain ⟨e0, h0, rfl⟩ := List.mem_map.1 hx
        simp at hy; subst hy
        exact he3 e0 h0
      · intro e0 h0
        rcases List.mem_append.1 h0 with h0 | h0
        · have := he3 e0 h0; omega
        · simp at h0; subst h0; simp
      · have e1 : es.toArray.push { key := .int q a, val := v, born := clock } = (es ++ [{ key := .int q a, val := v, born := clock }] : List MapEntry).toArray := by simp
        rw [e1]
        exact hp.setPt
  · have hj : es.toArray[j]? = some e' := by simpa using h1
    refine ⟨{ w with heap := w.heap.setIfInBounds r (.map (es.toArray.modify j fun e => { e with key := .int q a, val := v }) clock) }, ?_, hK _ ?_⟩
    · simp only [Instr.mapUpdate, Sem.run_bind, run_underlying ht, Result.andThen, run_getPt hp, hck 9999]
      simp only [Instr.findKey, Sem.run_bind, run_underlying hk, Result.andThen, List.toList_toArray, h3, Sem.run_pure, Nat.zero_add, hj]
      have hks : (Instr.keyThatStays ((Option.map (fun x => x.key) (some e')).getD (.int q a)) (.int q a)).run P w = .ok (.int q a) w := by
        simp [Instr.keyThatStays, Instr.sameBits, h2]
      rw [hks]
      exact hset _
    · have e1 : es.toArray.modify j (fun e => { e with key := .int q a, val := v }) = (es.modify j fun e => { e with val := v }).toArray := by
        apply Array.toList_inj.1
        rw [Array.toList_modify]
        apply List.ext_getElem?
        intro i
        simp only [List.getElem?_modify]
        by_cases hij : j = i
        · subst hij
          simp [h1, h2]
        · simp [hij]
      rw [e1]
      refine sat_mp.2 ⟨_, clock, ⟨h5 v, ?_, ?_⟩, hp.setPt⟩
      · have hb : (es.modify j fun e => { e with val := v }).map (·.born) = es.map (·.born) := by
          apply List.ext_getElem?
          intro i
          simp only [List.getElem?_map, List.getElem?_modify]
          by_cases hij : j = i
          · subst hij; simp [h1]
          · simp [hij]
        rw [hb]; exact he2
      · intro e0 h0
        obtain ⟨i, hi⟩ := List.getElem?_of_mem h0
        rw [List.getElem?_modify] at hi
        cases hx : es[i]? with
        | none => rw [hx] at hi; simp at hi
        | some e1 =>
          rw [hx] at hi
          simp only [Option.map_eq_map, Option.map_some, Option.some.injEq] at hi
          have := he3 e1 (List.mem_of_getElem? hx)
          subst hi
          split <;> exact this
end
end Go.Pk

/- Layer of separation: a map is gone through; a key is looked up. -/
namespace Go.Pk
open Go
section
variable {W w : World} {l : List Res} {P : Program}
theorem run_next_at (w : World) (ty : TypeId) (b bm since c0 : Nat) (seen : Array Nat) (es : Array MapEntry) (clock : Nat) (hit : w.heap[b]? = some (.mapIter (some bm) since seen c0)) (hb : w.heap[bm]? = some (.map es clock))
    (hold : ∀ x ∈ es.toList, x.born < since) (hsc : since ≤ c0) :
    ((leftOf es seen).size = 0 ∧ (Instr.next (.pointer (some ⟨b, 0, none⟩)) false ty).run P w = .ok (.tuple #[.bool false]) w) ∨
    ∃ e ∈ (leftOf es seen).toList, ∃ w1 : World, (w1 = w ∨ w1 = w.drew) ∧ (Instr.next (.pointer (some ⟨b, 0, none⟩)) false ty).run P w = .ok (.tuple #[.bool true, e.key, e.val]) { w1 with heap := w1.heap.setIfInBounds b (.mapIter (some bm) since (seen.push e.born) clock) } := by
  simp only [Instr.next, getObj, Sem.run_bind, Sem.run, hit, hb, Result.andThen, next_test_false seen es since c0 hold hsc, Bool.false_eq_true, if_false]
  unfold leftOf
  have hmem : ∀ x ∈ (Array.filter (fun e => !seen.contains e.born) es).toList, x.born < since := fun x hx => hold x (by simp at hx ⊢; exact hx.1)
  generalize Array.filter (fun e => !seen.contains e.born) es = L at hmem ⊢
  have e1 : L.filter (fun x => decide (x.born < since)) = L := Array.filter_eq_self.2 (fun x hx => by simpa using hmem x (by simpa using hx))
  have e2 : L.filter (fun x => decide (x.born ≥ since)) = #[] := by
    rw [Array.filter_eq_empty_iff]
    intro x hx
    have := hmem x (by simpa using hx)
    simp
    omega
  simp only [e1, e2, Array.append_empty]
  by_cases h0 : L.size = 0
  · left
    have : L = #[] := Array.eq_empty_of_size_eq_zero h0
    subst this
    refine ⟨rfl, ?_⟩
    simp [choose, Sem.run, Question.forced]
  · right
    have hne : L.isEmpty = false := by simp [Array.isEmpty, h0]
    simp only [hne, Bool.false_eq_true, if_false, Array.empty_append, Array.size_map]
    have hch : ∃ (j : Nat) (w1 : World), j < L.size ∧ (w1 = w ∨ w1 = w.drew) ∧ (choose (Question.mapNext L.size)).run P w = .ok j w1 := by
      by_cases hf : L.size ≤ 1
      · exact ⟨0, w, by omega, .inl rfl, by simp [choose, Sem.run, Question.forced, hf]⟩
      · exact ⟨_, w.drew, Nat.mod_lt _ (by omega), .inr rfl, by
          simp only [choose, Sem.run, Question.forced, decide_eq_true_eq, hf, if_false, Question.cut]
          rfl⟩
    obtain ⟨j, w1, hj, hal, hrun⟩ := hch
    refine ⟨L[j], by simp, w1, hal, ?_⟩
    have hit' : w1.heap[b]? = some (.mapIter (some bm) since seen c0) := by rcases hal with rfl | rfl <;> exact hit
    have hset : ∀ (o' : Obj), (setObj b o').run P w1 = .ok () { w1 with heap := w1.heap.setIfInBounds b o' } := fun o' => by
      simp only [setObj, Sem.run, hit']
    simp only [hrun, Array.getElem?_map, Array.getElem?_eq_getElem hj, Option.map_some, Sem.run_bind, hset, Result.andThen]
    rfl
def bornAt (es : List MapEntry) (i : Nat) : Nat := match es[i]? with | some e => e.born | none => 0
/-- a map that is gone through: S are the places that were handed out -/
def RgR (q : IntKind) (r b : Nat) (m : List (Int × Value)) (S : List Nat) : Res := Ex fun x : List MapEntry × Nat => All [Pure (EntsOf q m x.1 x.2 ∧ ∀ i ∈ S, i < x.1.length), Pt r (.map x.1.toArray x.2), Pt b (.mapIter (some r) x.2 (S.map (bornAt x.1)).toArray x.2)]
theorem sat_rg {q : IntKind} {r b : Nat} {m : List (Int × Value)} {S : List Nat} : Sat W w (RgR q r b m S :: l) ↔ ∃ es c0, (EntsOf q m es c0 ∧ ∀ i ∈ S, i < es.length) ∧ Sat W w (Pt r (.map es.toArray c0) :: Pt b (.mapIter (some r) c0 (S.map (bornAt es)).toArray c0) :: l) := by
  unfold RgR
  rw [sat_ex]
  constructor
  · rintro ⟨⟨es, c0⟩, h⟩
    have h1 := sat_all.1 h
    obtain ⟨h2, h3⟩ := sat_pure.1 h1
    exact ⟨es, c0, h2, h3⟩
  · rintro ⟨es, c0, h2, h3⟩
    refine ⟨(es, c0), sat_all.2 ?_⟩
    exact sat_pure.2 ⟨h2, h3⟩
theorem RgR.back {q : IntKind} {r b : Nat} {m : List (Int × Value)} {S : List Nat} (h : Sat W w (RgR q r b m S :: l)) : Sat W w (MpR q r m :: l) := by
  obtain ⟨es, c0, ⟨h1, _⟩, h2⟩ := sat_rg.1 h
  exact sat_mp.2 ⟨es, c0, h1, h2.cut 1⟩
theorem mapRange {t k e : TypeId} {q : IntKind} {r : Nat} {m : List (Int × Value)} (ht : P.underlying t = some (.map k e)) (h : Sat W w (MpR q r m :: l)) {K : Addr → World → Prop}
    (hK : ∀ b w', Sat W w' (RgR q r b m [] :: l) → K ⟨b, 0, none⟩ w') : RunK .addr P (Instr.range t (.map (some r))) w K := by
  obtain ⟨es, clock, he, hp⟩ := sat_mp.1 h
  refine ⟨⟨w.heap.size, 0, none⟩, _, run_range_map w t k e r es.toArray clock ht hp.pt, hK _ _ ?_⟩
  refine sat_rg.2 ⟨es, clock, ⟨he, by simp⟩, ?_⟩
  exact (hp.new _).swap
theorem ents_get {q : IntKind} {m : List (Int × Value)} {es : List MapEntry} {c : Nat} (h : EntsOf q m es c) {i : Nat} {e : MapEntry} (hi : es[i]? = some e) : ∃ p, m[i]? = some p ∧ e.key = .int q p.1 ∧ e.val = p.2 := by
  have h1 := congrArg (fun l => l[i]?) h.1
  simp only [List.getElem?_map, hi, Option.map_some, kvs] at h1
  cases hm : m[i]? with
  | none => rw [hm] at h1; simp at h1
  | some p =>
    rw [hm] at h1
    simp only [Option.map_some, Option.some.injEq, Prod.mk.injEq] at h1
    exact ⟨p, rfl, h1.1, h1.2⟩
theorem ents_len {q : IntKind} {m : List (Int × Value)} {es : List MapEntry} {c : Nat} (h : EntsOf q m es c) : es.length = m.length := by
  have := congrArg List.length h.1
  simpa [kvs] using this
theorem born_inj_at {es : List MapEntry} (h : (es.map (·.born)).Pairwise (· < ·)) {i j : Nat} {a b : MapEntry} (hi : es[i]? = some a) (hj : es[j]? = some b) (he : a.born = b.born) : i = j := by
  rw [List.pairwise_iff_getElem] at h
  obtain ⟨hi1, rfl⟩ := List.getElem?_eq_some_iff.1 hi
  obtain ⟨hj1, rfl⟩ := List.getElem?_eq_some_iff.1 hj
  rcases Nat.lt_trichotomy i j with h1 | h1 | h1
  · have := h i j (by simpa using hi1) (by simpa using hj1) h1
    simp at this; omega
  · exact h1
  · have := h j i (by simpa using hj1) (by simpa using hi1) h1
    simp at this; omega
/-- the next entry, whichever, or the end -/
theorem mapNext {q : IntKind} {r b : Nat} {m : List (Int × Value)} {S : List Nat} {ty : TypeId} (h : Sat W w (RgR q r b m S :: l)) {Kend : World → Prop} {K : Value → Value → World → Prop}
    (hE : (∀ i, i < m.length → i ∈ S) → Sat W w (RgR q r b m S :: l) → Kend w)
    (hK : ∀ i p w', m[i]? = some p → i ∉ S → Sat W w' (RgR q r b m (S ++ [i]) :: l) → K (.int q p.1) p.2 w') :
    NextP P (Instr.next (.pointer (some ⟨b, 0, none⟩)) false ty) w Kend K := by
  obtain ⟨es, c0, ⟨he, hS⟩, hp⟩ := sat_rg.1 h
  have hborn : ∀ i e, es[i]? = some e → (((S.map (bornAt es)).toArray.contains e.born) = true ↔ i ∈ S) := by
    intro i e hi
    rw [Array.contains_eq_mem, decide_eq_true_eq, List.mem_toArray, List.mem_map]
    constructor
    · rintro ⟨j, hj, hje⟩
      have hjl := hS j hj
      have hj2 : es[j]? = some es[j] := List.getElem?_eq_getElem hjl
      have : es[j].born = e.born := by simpa [bornAt, hj2] using hje
      rw [← born_inj_at he.2.1 hj2 hi this]; exact hj
    · intro hiS
      exact ⟨i, hiS, by simp [bornAt, hi]⟩
  rcases run_next_at (P := P) w ty b r c0 c0 (S.map (bornAt es)).toArray es.toArray c0 hp.tail.pt hp.pt (by simpa using he.2.2) (Nat.le_refl _) with ⟨h0, hr⟩ | ⟨e, hm, w1, hw, hr⟩
  · refine ⟨_, w, hr, .inl ⟨rfl, hE (fun i hi => ?_) h⟩⟩
    have hil : i < es.length := by rw [ents_len he]; exact hi
    have := all_seen es.toArray _ h0 es[i] (by simp)
    exact (hborn i _ (List.getElem?_eq_getElem hil)).1 this
  · obtain ⟨hm1, hm2⟩ := mem_left hm
    obtain ⟨i, hi⟩ := List.getElem?_of_mem (show e ∈ es by simpa using hm1)
    obtain ⟨p, hp1, hp2, hp3⟩ := ents_get he hi
    have hiS : i ∉ S := fun hh => by rw [(hborn i e hi).2 hh] at hm2; cases hm2
    refine ⟨_, _, hr, .inr ⟨e.key, e.val, rfl, ?_⟩⟩
    rw [hp2, hp3]
    have hs1 : Sat W w1 (Pt b (.mapIter (some r) c0 (S.map (bornAt es)).toArray c0) :: Pt r (.map es.toArray c0) :: l) := by
      rcases hw with rfl | rfl
      · exact hp.swap
      · exact hp.drew.swap
    refine hK i p _ hp1 hiS (sat_rg.2 ⟨es, c0, ⟨he, ?_⟩, ?_⟩)
    · intro j hj
      rcases List.mem_append.1 hj with hj | hj
      · exact hS j hj
      · simp at hj; subst hj; exact (List.getElem?_eq_some_iff.1 hi).1
    · have e1 : (S.map (bornAt es)).toArray.push e.born = ((S ++ [i]).map (bornAt es)).toArray := by
        simp [bornAt, hi]
      rw [e1]
      exact (hs1.setPt).swap
/-- the entry that has come up last -/
theorem mapEnt {q : IntKind} {r b : Nat} {m : List (Int × Value)} {S : List Nat} {i : Nat} {p : Int × Value} (hi : m[i]? = some p) (h : Sat W w (RgR q r b m (S ++ [i]) :: l)) {K : Value → World → Prop} (hK : K (.tuple #[.int q p.1, p.2]) w) :
    RunV P (Instr.entry (.pointer (some ⟨b, 0, none⟩))) w K := by
  obtain ⟨es, c0, ⟨he, hS⟩, hp⟩ := sat_rg.1 h
  have hlt : i < es.length := hS i (by simp)
  have hei : es[i]? = some es[i] := List.getElem?_eq_getElem hlt
  obtain ⟨p', hp1, hp2, hp3⟩ := ents_get he hei
  rw [hi] at hp1
  cases hp1
  have h1 : (getObj b).run P w = .ok (.mapIter (some r) c0 ((S ++ [i]).map (bornAt es)).toArray c0) w := by
    have := hp.tail.pt
    simp [getObj, Sem.run, this]
  have hb : ((S ++ [i]).map (bornAt es)).toArray.back? = some es[i].born := by
    simp [bornAt, hei]
  have hf : es.toArray.find? (fun e => e.born == es[i].born) = some es[i] := by
    rw [List.find?_toArray]
    refine find_born es[i] es ?_ (List.getElem_mem hlt)
    exact he.2.1.imp fun h => Nat.ne_of_lt h
  refine ⟨_, w, ?_, hK⟩
  simp only [Instr.entry, Sem.run_bind, h1, Result.andThen, hb, run_getPt hp, bne_self_eq_false, Bool.false_eq_true, if_false, hf, Sem.run_pure, hp2, hp3]
/-- a key is looked up -/
theorem mapLook {t k e : TypeId} {q : IntKind} {r : Nat} {m : List (Int × Value)} {a : Int} {z : Value} {ok : Bool} (ht : P.underlying t = some (.map k e)) (hk : P.underlying k = some (.int q)) (hz : ∀ w, (zeroValue e).run P w = .ok z w) (h : Sat W w (MpR q r m :: l)) {K : Value → World → Prop}
    (hK : K (match mget m a with | some v => if ok then .tuple #[v, .bool true] else v | none => if ok then .tuple #[z, .bool false] else z) w) :
    RunV P (Instr.lookup t (.map (some r)) (.int q a) ok) w K := by
  obtain ⟨es, clock, ⟨he1, he2, he3⟩, hp⟩ := sat_mp.1 h
  have hck : ∀ b n, (Instr.checkKey b (n + 1) k (.int q a)).run P w = .ok () w := fun b n => by
    simp [Instr.checkKey, run_underlying hk]
  refine ⟨_, w, ?_, hK⟩
  simp only [Instr.lookup, Sem.run_bind, run_underlying ht, Result.andThen, run_getPt hp, Sem.run_pure, hck _ 9999]
  simp only [Instr.findKey, Sem.run_bind, run_underlying hk, Result.andThen, List.toList_toArray]
  rcases findNow_int es m 0 he1 (q := q) (a := a) with ⟨h1, h2, h3⟩ | ⟨j, e', h1, h2, h3, h4, h5⟩
  · simp only [h1, h2, Sem.run_pure, Sem.run_bind, Result.andThen, hz]
  · simp only [h3, h4, Sem.run_pure, Result.andThen]
    cases ok <;> rfl
end
end Go.Pk

/- Layer of separation: maps whose keys are strings. -/
namespace Go.Pk
open Go
theorem ba_beq (a b : ByteArray) : (a == b) = decide (a = b) := by
  obtain ⟨a⟩ := a; obtain ⟨b⟩ := b
  show (a == b) = _
  by_cases h : a = b
  · subst h; simp
  · simp [h]
section
variable {W w : World} {l : List Res} {P : Program}
/-- the entries by key and value -/
def kvsS (m : List (ByteArray × Value)) : List (Value × Value) := m.map fun p => (.string p.1, p.2)
def EntsOfS (m : List (ByteArray × Value)) (es : List MapEntry) (clock : Nat) : Prop :=
  es.map (fun e => (e.key, e.val)) = kvsS m ∧ (es.map (·.born)).Pairwise (· < ·) ∧ ∀ e ∈ es, e.born < clock
def MpRS (r : Nat) (m : List (ByteArray × Value)) : Res := fun h => ∃ (es : List MapEntry) (clock : Nat), h r = some (.map es.toArray clock) ∧ EntsOfS m es clock
theorem sat_mpS {r : Nat} {m : List (ByteArray × Value)} : Sat W w (MpRS r m :: l) ↔ ∃ es clock, EntsOfS m es clock ∧ Sat W w (Pt r (.map es.toArray clock) :: l) := by
  constructor
  · intro h
    obtain ⟨h1, h2, d, l1, l2, ⟨es, clock, r1, he⟩, s⟩ := h.star
    exact ⟨es, clock, he, h.os, h.tape, h.output, h.size, h1, h2, d, l1, l2, r1, s⟩
  · rintro ⟨es, clock, he, h⟩
    obtain ⟨h1, h2, d, l1, l2, r1, s⟩ := h.star
    exact ⟨h.os, h.tape, h.output, h.size, h1, h2, d, l1, l2, ⟨es, clock, r1, he⟩, s⟩
/-- what a key is put to -/
def mputS : List (ByteArray × Value) → ByteArray → Value → List (ByteArray × Value)
  | [], a, v => [(a, v)]
  | p :: m, a, v => if p.1 = a then (a, v) :: m else p :: mputS m a v
def mgetS : List (ByteArray × Value) → ByteArray → Option Value
  | [], _ => none
  | p :: m, a => if p.1 = a then some p.2 else mgetS m a
theorem findNow_intS {a : ByteArray} : ∀ (es : List MapEntry) (m : List (ByteArray × Value)) (i : Nat), es.map (fun e => (e.key, e.val)) = kvsS m →
    (Instr.findNow .string (.string a) es i = some none ∧ mgetS m a = none ∧ ∀ v, mputS m a v = m ++ [(a, v)]) ∨
    ∃ j e, es[j]? = some e ∧ e.key = .string a ∧ Instr.findNow .string (.string a) es i = some (some (i + j, e.val)) ∧ mgetS m a = some e.val ∧ ∀ v, (es.modify j fun e => { e with val := v }).map (fun e => (e.key, e.val)) = kvsS (mputS m a v)
  | [], m, i, h => by
    cases m with
    | nil => exact .inl ⟨rfl, rfl, fun _ => rfl⟩
    | cons p m => simp [kvsS] at h
  | e :: es, m, i, h => by
    cases m with
    | nil => simp [kvsS] at h
    | cons p m =>
      simp only [kvsS, List.map_cons, List.cons.injEq, Prod.mk.injEq] at h
      obtain ⟨⟨hk, hv⟩, ht⟩ := h
      by_cases hp : p.1 = a
      · right
        refine ⟨0, e, rfl, by rw [hk, hp], ?_, ?_, fun v => ?_⟩
        · simp [Instr.findNow, Instr.sameNow, hk, hp, ba_beq]
        · simp [mgetS, hp, hv]
        · simp only [List.modify_cons, mputS, if_pos hp, kvsS, List.map_cons, if_true]
          rw [hk, hp]
          simp only [List.cons.injEq, true_and]
          exact ht
      · have hne : (a == p.1) = false := by rw [ba_beq]; simp; exact fun h => hp h.symm
        have hf : Instr.findNow .string (.string a) (e :: es) i = Instr.findNow .string (.string a) es (i + 1) := by
          simp [Instr.findNow, Instr.sameNow, hk, hne]
        rcases findNow_intS es m (i + 1) ht with ⟨h1, h2, h3⟩ | ⟨j, e', h1, h2, h3, h4, h5⟩
        · left
          refine ⟨by rw [hf]; exact h1, by simp [mgetS, hp, h2], fun v => by simp [mputS, hp, h3]⟩
        · right
          refine ⟨j + 1, e', by simpa using h1, h2, by rw [hf, h3]; congr 3; omega, by simp [mgetS, hp, h4], fun v => ?_⟩
          simp only [List.modify_succ_cons, List.map_cons, mputS, if_neg hp, kvsS]
          rw [hk, hv]
          simp only [List.cons.injEq, true_and]
          exact h5 v
theorem mkMapS {t k e : TypeId} (_ht : P.underlying t = some (.map k e)) (h : Sat W w l) {K : Option Nat → World → Prop} (hK : ∀ r w', Sat W w' (MpRS r [] :: l) → K (some r) w') (hr : ∀ w, (Instr.makeMap t none).run P w = .ok (.map (some w.heap.size)) (w.alloc (.map #[] 0))) :
    RunK .map P (Instr.makeMap t none) w K :=
  ⟨some w.heap.size, _, hr w, hK _ _ (sat_mpS.2 ⟨[], 0, ⟨rfl, by simp, by simp⟩, h.new _⟩)⟩
theorem mapUpdS {t k e : TypeId} {r : Nat} {m : List (ByteArray × Value)} {a : ByteArray} {v : Value} (ht : P.underlying t = some (.map k e)) (hk : P.underlying k = some .string) (h : Sat W w (MpRS r m :: l)) {K : World → Prop}
    (hK : ∀ w', Sat W w' (MpRS r (mputS m a v) :: l) → K w') : RunU P (Instr.mapUpdate t (.map (some r)) (.string a) v) w K := by
  obtain ⟨es, clock, ⟨he1, he2, he3⟩, hp⟩ := sat_mpS.1 h
  have hpt := hp.pt
  have hck : ∀ n, (Instr.checkKey false (n + 1) k (.string a)).run P w = .ok () w := fun n => by
    simp [Instr.checkKey, run_underlying hk]
  have hset : ∀ o', (setObj r o').run P w = .ok () { w with heap := w.heap.setIfInBounds r o' } := fun o' => by
    simp [setObj, Sem.run, hpt]
  rcases findNow_intS es m 0 he1 (a := a) with ⟨h1, h2, h3⟩ | ⟨j, e', h1, h2, h3, h4, h5⟩
  · refine ⟨{ w with heap := w.heap.setIfInBounds r (.map (es.toArray.push { key := .string a, val := v, born := clock }) (clock + 1)) }, ?_, hK _ ?_⟩
    · simp only [Instr.mapUpdate, Sem.run_bind, run_underlying ht, Result.andThen, run_getPt hp, hck 9999]
      simp only [Instr.findKey, Sem.run_bind, run_underlying hk, Result.andThen, List.toList_toArray, h1, Sem.run_pure]
      exact hset _
    · rw [h3]
      refine sat_mpS.2 ⟨es ++ [{ key := .string a, val := v, born := clock }], clock + 1, ⟨?_, ?_, ?_⟩, ?_⟩
      · simp [kvsS, he1]
      · rw [List.map_append, List.pairwise_append]
        refine ⟨he2, by simp, fun x hx y hy => ?_⟩
        obtain ⟨e0, h0, rfl⟩ := List.mem_map.1 hx
        simp at hy; subst hy
        exact he3 e0 h0
      · intro e0 h0
        rcases List.mem_append.1 h0 with h0 | h0
        · have := he3 e0 h0; omega
        · simp at h0; subst h0; simp
      · have e1 : es.toArray.push { key := .string a, val := v, born := clock } = (es ++ [{ key := .string a, val := v, born := clock }] : List MapEntry).toArray := by simp
        rw [e1]
        exact hp.setPt
  · have hj : es.toArray[j]? = some e' := by simpa using h1
    refine ⟨{ w with heap := w.heap.setIfInBounds r (.map (es.toArray.modify j fun e => { e with key := .string a, val := v }) clock) }, ?_, hK _ ?_⟩
    · simp only [Instr.mapUpdate, Sem.run_bind, run_underlying ht, Result.andThen, run_getPt hp, hck 9999]
      simp only [Instr.findKey, Sem.run_bind, run_underlying hk, Result.andThen, List.toList_toArray, h3, Sem.run_pure, Nat.zero_add, hj]
      have hks : (Instr.keyThatStays ((Option.map (fun x => x.key) (some e')).getD (.string a)) (.string a)).run P w = .ok (.string a) w := by
        simp [Instr.keyThatStays, Instr.sameBits, h2, ba_beq]
      rw [hks]
      exact hset _
    · have e1 : es.toArray.modify j (fun e => { e with key := .string a, val := v }) = (es.modify j fun e => { e with val := v }).toArray := by
        apply Array.toList_inj.1
        rw [Array.toList_modify]
        apply List.ext_getElem?
        intro i
        simp only [List.getElem?_modify]
        by_cases hij : j = i
        · subst hij
          simp [h1, h2]
        · simp [hij]
      rw [e1]
      refine sat_mpS.2 ⟨_, clock, ⟨h5 v, ?_, ?_⟩, hp.setPt⟩
      · have hb : (es.modify j fun e => { e with val := v }).map (·.born) = es.map (·.born) := by
          apply List.ext_getElem?
          intro i
          simp only [List.getElem?_map, List.getElem?_modify]
          by_cases hij : j = i
          · subst hij; simp [h1]
          · simp [hij]
        rw [hb]; exact he2
      · intro e0 h0
        obtain ⟨i, hi⟩ := List.getElem?_of_mem h0
        rw [List.getElem?_modify] at hi
        cases hx : es[i]? with
        | none => rw [hx] at hi; simp at hi
        | some e1 =>
          rw [hx] at hi
          simp only [Option.map_eq_map, Option.map_some, Option.some.injEq] at hi
          have := he3 e1 (List.mem_of_getElem? hx)
          subst hi
          split <;> exact this
/-- a map that is gone through: S are the places that were handed out -/
def RgRS (r b : Nat) (m : List (ByteArray × Value)) (S : List Nat) : Res := Ex fun x : List MapEntry × Nat => All [Pure (EntsOfS m x.1 x.2 ∧ ∀ i ∈ S, i < x.1.length), Pt r (.map x.1.toArray x.2), Pt b (.mapIter (some r) x.2 (S.map (bornAt x.1)).toArray x.2)]
theorem sat_rgS {r b : Nat} {m : List (ByteArray × Value)} {S : List Nat} : Sat W w (RgRS r b m S :: l) ↔ ∃ es c0, (EntsOfS m es c0 ∧ ∀ i ∈ S, i < es.length) ∧ Sat W w (Pt r (.map es.toArray c0) :: Pt b (.mapIter (some r) c0 (S.map (bornAt es)).toArray c0) :: l) := by
  unfold RgRS
  rw [sat_ex]
  constructor
  · rintro ⟨⟨es, c0⟩, h⟩
    have h1 := sat_all.1 h
    obtain ⟨h2, h3⟩ := sat_pure.1 h1
    exact ⟨es, c0, h2, h3⟩
  · rintro ⟨es, c0, h2, h3⟩
    refine ⟨(es, c0), sat_all.2 ?_⟩
    exact sat_pure.2 ⟨h2, h3⟩
theorem RgRS.back {r b : Nat} {m : List (ByteArray × Value)} {S : List Nat} (h : Sat W w (RgRS r b m S :: l)) : Sat W w (MpRS r m :: l) := by
  obtain ⟨es, c0, ⟨h1, _⟩, h2⟩ := sat_rgS.1 h
  exact sat_mpS.2 ⟨es, c0, h1, h2.cut 1⟩
theorem mapRangeS {t k e : TypeId} {r : Nat} {m : List (ByteArray × Value)} (ht : P.underlying t = some (.map k e)) (h : Sat W w (MpRS r m :: l)) {K : Addr → World → Prop}
    (hK : ∀ b w', Sat W w' (RgRS r b m [] :: l) → K ⟨b, 0, none⟩ w') : RunK .addr P (Instr.range t (.map (some r))) w K := by
  obtain ⟨es, clock, he, hp⟩ := sat_mpS.1 h
  refine ⟨⟨w.heap.size, 0, none⟩, _, run_range_map w t k e r es.toArray clock ht hp.pt, hK _ _ ?_⟩
  refine sat_rgS.2 ⟨es, clock, ⟨he, by simp⟩, ?_⟩
  exact (hp.new _).swap
theorem ents_getS {m : List (ByteArray × Value)} {es : List MapEntry} {c : Nat} (h : EntsOfS m es c) {i : Nat} {e : MapEntry} (hi : es[i]? = some e) : ∃ p, m[i]? = some p ∧ e.key = .string p.1 ∧ e.val = p.2 := by
  have h1 := congrArg (fun l => l[i]?) h.1
  simp only [List.getElem?_map, hi, Option.map_some, kvsS] at h1
  cases hm : m[i]? with
  | none => rw [hm] at h1; simp at h1
  | some p =>
    rw [hm] at h1
    simp only [Option.map_some, Option.some.injEq, Prod.mk.injEq] at h1
    exact ⟨p, rfl, h1.1, h1.2⟩
theorem ents_lenS {m : List (ByteArray × Value)} {es : List MapEntry} {c : Nat} (h : EntsOfS m es c) : es.length = m.length := by
  have := congrArg List.length h.1
  simpa [kvsS] using this
/-- the next entry, whichever, or the end -/
theorem mapNextS {r b : Nat} {m : List (ByteArray × Value)} {S : List Nat} {ty : TypeId} (h : Sat W w (RgRS r b m S :: l)) {Kend : World → Prop} {K : Value → Value → World → Prop}
    (hE : (∀ i, i < m.length → i ∈ S) → Sat W w (RgRS r b m S :: l) → Kend w)
    (hK : ∀ i p w', m[i]? = some p → i ∉ S → Sat W w' (RgRS r b m (S ++ [i]) :: l) → K (.string p.1) p.2 w') :
    NextP P (Instr.next (.pointer (some ⟨b, 0, none⟩)) false ty) w Kend K := by
  obtain ⟨es, c0, ⟨he, hS⟩, hp⟩ := sat_rgS.1 h
  have hborn : ∀ i e, es[i]? = some e → (((S.map (bornAt es)).toArray.contains e.born) = true ↔ i ∈ S) := by
    intro i e hi
    rw [Array.contains_eq_mem, decide_eq_true_eq, List.mem_toArray, List.mem_map]
    constructor
    · rintro ⟨j, hj, hje⟩
      have hjl := hS j hj
      have hj2 : es[j]? = some es[j] := List.getElem?_eq_getElem hjl
      have : es[j].born = e.born := by simpa [bornAt, hj2] using hje
      rw [← born_inj_at he.2.1 hj2 hi this]; exact hj
    · intro hiS
      exact ⟨i, hiS, by simp [bornAt, hi]⟩
  rcases run_next_at (P := P) w ty b r c0 c0 (S.map (bornAt es)).toArray es.toArray c0 hp.tail.pt hp.pt (by simpa using he.2.2) (Nat.le_refl _) with ⟨h0, hr⟩ | ⟨e, hm, w1, hw, hr⟩
  · refine ⟨_, w, hr, .inl ⟨rfl, hE (fun i hi => ?_) h⟩⟩
    have hil : i < es.length := by rw [ents_lenS he]; exact hi
    have := all_seen es.toArray _ h0 es[i] (by simp)
    exact (hborn i _ (List.getElem?_eq_getElem hil)).1 this
  · obtain ⟨hm1, hm2⟩ := mem_left hm
    obtain ⟨i, hi⟩ := List.getElem?_of_mem (show e ∈ es by simpa using hm1)
    obtain ⟨p, hp1, hp2, hp3⟩ := ents_getS he hi
    have hiS : i ∉ S := fun hh => by rw [(hborn i e hi).2 hh] at hm2; cases hm2
    refine ⟨_, _, hr, .inr ⟨e.key, e.val, rfl, ?_⟩⟩
    rw [hp2, hp3]
    have hs1 : Sat W w1 (Pt b (.mapIter (some r) c0 (S.map (bornAt es)).toArray c0) :: Pt r (.map es.toArray c0) :: l) := by
      rcases hw with rfl | rfl
      · exact hp.swap
      · exact hp.drew.swap
    refine hK i p _ hp1 hiS (sat_rgS.2 ⟨es, c0, ⟨he, ?_⟩, ?_⟩)
    · intro j hj
      rcases List.mem_append.1 hj with hj | hj
      · exact hS j hj
      · simp at hj; subst hj; exact (List.getElem?_eq_some_iff.1 hi).1
    · have e1 : (S.map (bornAt es)).toArray.push e.born = ((S ++ [i]).map (bornAt es)).toArray := by
        simp [bornAt, hi]
      rw [e1]
      exact (hs1.setPt).swap
/-- the entry that has come up last -/
theorem mapEntS {r b : Nat} {m : List (ByteArray × Value)} {S : List Nat} {i : Nat} {p : ByteArray × Value} (hi : m[i]? = some p) (h : Sat W w (RgRS r b m (S ++ [i]) :: l)) {K : Value → World → Prop} (hK : K (.tuple #[.string p.1, p.2]) w) :
    RunV P (Instr.entry (.pointer (some ⟨b, 0, none⟩))) w K := by
  obtain ⟨es, c0, ⟨he, hS⟩, hp⟩ := sat_rgS.1 h
  have hlt : i < es.length := hS i (by simp)
  have hei : es[i]? = some es[i] := List.getElem?_eq_getElem hlt
  obtain ⟨p', hp1, hp2, hp3⟩ := ents_getS he hei
  rw [hi] at hp1
  cases hp1
  have h1 : (getObj b).run P w = .ok (.mapIter (some r) c0 ((S ++ [i]).map (bornAt es)).toArray c0) w := by
    have := hp.tail.pt
    simp [getObj, Sem.run, this]
  have hb : ((S ++ [i]).map (bornAt es)).toArray.back? = some es[i].born := by
    simp [bornAt, hei]
  have hf : es.toArray.find? (fun e => e.born == es[i].born) = some es[i] := by
    rw [List.find?_toArray]
    refine find_born es[i] es ?_ (List.getElem_mem hlt)
    exact he.2.1.imp fun h => Nat.ne_of_lt h
  refine ⟨_, w, ?_, hK⟩
  simp only [Instr.entry, Sem.run_bind, h1, Result.andThen, hb, run_getPt hp, bne_self_eq_false, Bool.false_eq_true, if_false, hf, Sem.run_pure, hp2, hp3]
/-- a key is looked up -/
theorem mapLookS {t k e : TypeId} {r : Nat} {m : List (ByteArray × Value)} {a : ByteArray} {z : Value} {ok : Bool} (ht : P.underlying t = some (.map k e)) (hk : P.underlying k = some .string) (hz : ∀ w, (zeroValue e).run P w = .ok z w) (h : Sat W w (MpRS r m :: l)) {K : Value → World → Prop}
    (hK : K (match mgetS m a with | some v => if ok then .tuple #[v, .bool true] else v | none => if ok then .tuple #[z, .bool false] else z) w) :
    RunV P (Instr.lookup t (.map (some r)) (.string a) ok) w K := by
  obtain ⟨es, clock, ⟨he1, he2, he3⟩, hp⟩ := sat_mpS.1 h
  have hck : ∀ b n, (Instr.checkKey b (n + 1) k (.string a)).run P w = .ok () w := fun b n => by
    simp [Instr.checkKey, run_underlying hk]
  refine ⟨_, w, ?_, hK⟩
  simp only [Instr.lookup, Sem.run_bind, run_underlying ht, Result.andThen, run_getPt hp, Sem.run_pure, hck _ 9999]
  simp only [Instr.findKey, Sem.run_bind, run_underlying hk, Result.andThen, List.toList_toArray]
  rcases findNow_intS es m 0 he1 (a := a) with ⟨h1, h2, h3⟩ | ⟨j, e', h1, h2, h3, h4, h5⟩
  · simp only [h1, h2, Sem.run_pure, Sem.run_bind, Result.andThen, hz]
  · simp only [h3, h4, Sem.run_pure, Result.andThen]
    cases ok <;> rfl
/-- what is left when a key is taken away -/
def mdelS : List (ByteArray × Value) → ByteArray → List (ByteArray × Value)
  | [], _ => []
  | p :: m, a => if p.1 = a then m else p :: mdelS m a
theorem findDel {a : ByteArray} : ∀ (es : List MapEntry) (m : List (ByteArray × Value)) (i : Nat), es.map (fun e => (e.key, e.val)) = kvsS m →
    (Instr.findNow .string (.string a) es i = some none ∧ mdelS m a = m) ∨ ∃ j v, j < es.length ∧ Instr.findNow .string (.string a) es i = some (some (i + j, v)) ∧ (es.eraseIdx j).map (fun e => (e.key, e.val)) = kvsS (mdelS m a)
  | [], m, i, h => by
    cases m with
    | nil => exact .inl ⟨rfl, rfl⟩
    | cons p m => simp [kvsS] at h
  | e :: es, m, i, h => by
    cases m with
    | nil => simp [kvsS] at h
    | cons p m =>
      simp only [kvsS, List.map_cons, List.cons.injEq, Prod.mk.injEq] at h
      obtain ⟨⟨hk, hv⟩, ht⟩ := h
      by_cases hp : p.1 = a
      · right
        refine ⟨0, e.val, by simp, ?_, ?_⟩
        · simp [Instr.findNow, Instr.sameNow, hk, hp, ba_beq]
        · simp only [List.eraseIdx_cons_zero, mdelS, if_pos hp]; exact ht
      · have hne : (a == p.1) = false := by rw [ba_beq]; simp; exact fun h => hp h.symm
        have hf : Instr.findNow .string (.string a) (e :: es) i = Instr.findNow .string (.string a) es (i + 1) := by
          simp [Instr.findNow, Instr.sameNow, hk, hne]
        rcases findDel es m (i + 1) ht with ⟨h1, h2⟩ | ⟨j, v, h1, h2, h3⟩
        · left
          exact ⟨by rw [hf]; exact h1, by simp [mdelS, hp, h2]⟩
        · right
          refine ⟨j + 1, v, by simpa using h1, by rw [hf, h2]; congr 3; omega, ?_⟩
          simp only [List.eraseIdx_cons_succ, List.map_cons, mdelS, if_neg hp, kvsS, hk, hv, List.cons.injEq, true_and]
          exact h3
theorem mapDel {t k e : TypeId} {r : Nat} {m : List (ByteArray × Value)} {a : ByteArray} {tt : TypeId} {at2 : Array TypeId} (hat : at2[0]? = some t) (ht : P.underlying t = some (.map k e)) (hk : P.underlying k = some .string) (h : Sat W w (MpRS r m :: l)) {K : Value → World → Prop}
    (hK : ∀ w', Sat W w' (MpRS r (mdelS m a) :: l) → K (.tuple #[]) w') : RunV P (Builtin.delete_ at2 tt #[.map (some r), .string a]) w K := by
  obtain ⟨es, clock, ⟨he1, he2, he3⟩, hp⟩ := sat_mpS.1 h
  have hpt := hp.pt
  have hck : ∀ b n, (Instr.checkKey b (n + 1) k (.string a)).run P w = .ok () w := fun b n => by
    simp [Instr.checkKey, run_underlying hk]
  have hset : ∀ o', (setObj r o').run P w = .ok () { w with heap := w.heap.setIfInBounds r o' } := fun o' => by
    simp [setObj, Sem.run, hpt]
  rcases findDel (a := a) es m 0 he1 with ⟨h1, h2⟩ | ⟨j, v, h1, h2, h3⟩
  · refine ⟨_, { w with heap := w.heap.setIfInBounds r (.map es.toArray clock) }, ?_, hK _ ?_⟩
    · simp only [Builtin.delete_, hat]
      simp only [Sem.run_bind, run_underlying ht, Result.andThen, run_getPt hp, hck _ 9999, List.getElem?_toArray, List.getElem?_cons_zero, List.getElem?_cons_succ]
      simp only [Instr.findKey, Sem.run_bind, run_underlying hk, Result.andThen, List.toList_toArray, h1, Sem.run_pure, hset]
    · rw [h2]
      exact sat_mpS.2 ⟨es, clock, ⟨he1, he2, he3⟩, hp.setPt⟩
  · refine ⟨_, { w with heap := w.heap.setIfInBounds r (.map (es.eraseIdx j).toArray clock) }, ?_, hK _ ?_⟩
    · simp only [Builtin.delete_, hat]
      simp only [Sem.run_bind, run_underlying ht, Result.andThen, run_getPt hp, hck _ 9999, List.getElem?_toArray, List.getElem?_cons_zero, List.getElem?_cons_succ]
      simp only [Instr.findKey, Sem.run_bind, run_underlying hk, Result.andThen, List.toList_toArray, h2, Sem.run_pure, Nat.zero_add]
      have e1 : es.toArray.eraseIdxIfInBounds j = (es.eraseIdx j).toArray := by simp
      rw [e1]
      simp only [hset, Result.andThen]
    · exact sat_mpS.2 ⟨es.eraseIdx j, clock, ⟨h3, he2.sublist ((List.eraseIdx_sublist es j).map _), fun e0 h0 => he3 e0 (List.mem_of_mem_eraseIdx h0)⟩, hp.setPt⟩
end
end Go.Pk
