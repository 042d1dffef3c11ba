/- Layer 8 in plain Lean: a batch is put into a log and into the reference's. -/
import Derived.Test.YtbpcichakchpkaaGreatDoorTB
namespace Go.Proofs.YtbpcichakchpkaaGreatDoor
open Go Go.Pk
theorem lookL_put (n m : List UInt8) (f : Fl) : ∀ (l : List (List UInt8 × Fl)), Dk.lookL (Dk.putL l n f) m = if n = m then some f else Dk.lookL l m
  | [] => by simp [Dk.putL, Dk.lookL]
  | p :: l => by
    unfold Dk.putL
    by_cases h : p.1 = n
    · rw [if_pos h]
      simp only [Dk.lookL]
      by_cases h2 : n = m
      · simp [h2]
      · rw [if_neg h2, if_neg h2, if_neg (by rw [h]; exact h2)]
    · rw [if_neg h]
      simp only [Dk.lookL, lookL_put n m f l]
      by_cases h2 : p.1 = m
      · rw [if_pos h2, if_pos h2, if_neg (by rw [← h2]; exact fun e => h e.symm)]
      · rw [if_neg h2, if_neg h2]
theorem names_put (n : List UInt8) (f : Fl) : ∀ (l : List (List UInt8 × Fl)) (m : List UInt8), m ∈ (Dk.putL l n f).map Prod.fst → m = n ∨ m ∈ l.map Prod.fst
  | [], m => by simp [Dk.putL]
  | p :: l, m => by
    unfold Dk.putL
    by_cases h : p.1 = n
    · rw [if_pos h]; simp only [List.map_cons, List.mem_cons]
      rintro (h1 | h1)
      · exact .inl h1
      · exact .inr (.inr h1)
    · rw [if_neg h]; simp only [List.map_cons, List.mem_cons]
      rintro (h1 | h1)
      · exact .inr (.inl h1)
      · rcases names_put n f l m h1 with h2 | h2
        · exact .inl h2
        · exact .inr (.inr h2)
theorem look_names {d : Dk} {n : List UInt8} {f : Fl} (h : d.look n = some f) : n ∈ d.names := by
  unfold Dk.look at h
  unfold Dk.names
  generalize d.files = l at h
  induction l with
  | nil => simp [Dk.lookL] at h
  | cons p l ih =>
    simp only [Dk.lookL] at h
    by_cases hp : p.1 = n
    · simp [hp]
    · rw [if_neg hp] at h; simp [ih h]
/-- of an append -/
theorem append_cases {d : Dk} {n b : List UInt8} (ha : d.dead = false) (hn : n ≠ [] ∧ n.length ≤ 24) :
    (d.append n b = (d, 3)) ∨ ∃ k, k ≤ b.length ∧ (d.append n b).2 = (if k < b.length then 9 else 0) ∧ (d.append n b).1.dead = decide (k < b.length) ∧ (d.append n b).1.used = d.used + k ∧
      (d.append n b).1.files = Dk.putL d.files n ⟨(d.fl0 n).data ++ b.take k, (d.fl0 n).sync⟩ ∧ (d.fuse = -1 → k = b.length ∧ (d.append n b).1.fuse = -1) := by
  unfold Dk.append
  rw [ha]
  simp only [Bool.false_eq_true, if_false]
  rw [if_neg (fun h => h.elim hn.1 (fun h => by omega))]
  split
  · exact .inl rfl
  · refine .inr ⟨d.fits b.length, ?_, rfl, rfl, rfl, rfl, fun hf => ?_⟩
    · unfold Dk.fits; split
      · exact Nat.min_le_left _ _
      · exact Nat.le_refl _
    · unfold Dk.fits
      rw [hf]
      simp
theorem sync_alive {d : Dk} {n : List UInt8} {f : Fl} (ha : d.dead = false) (hl : d.look n = some f) : d.sync n = ({ d with files := Dk.putL d.files n { f with sync := f.data.length } }, 0) := by
  unfold Dk.sync Dk.find
  rw [ha, hl]
  simp
/-- the groups behind a roll -/
def rollG (gs : Gr) : Gr := match gs.getLast? with
  | none => [(0, [])]
  | some p => if (fsOf p.2).length < 512 then gs else gs ++ [(grFin gs, [])]
def addG (gs : Gr) (b : Bd) : Gr := match gs.getLast? with
  | none => gs
  | some p => gs.dropLast ++ [(p.1, p.2 ++ [b])]
theorem allB_app (x y : Gr) : allB (x ++ y) = allB x ++ allB y := by simp [allB]
theorem rollG_allB (gs : Gr) : allB (rollG gs) = allB gs := by
  unfold rollG
  cases h : gs.getLast? with
  | none => rw [List.getLast?_eq_none_iff.1 h]; rfl
  | some p =>
    simp only
    split
    · rfl
    · rw [allB_app]; simp [allB]
theorem getLast_split {α : Type} {gs : List α} {p : α} (h : gs.getLast? = some p) : gs = gs.dropLast ++ [p] := by
  have hne : gs ≠ [] := by intro hh; subst hh; simp at h
  have e := List.dropLast_concat_getLast hne
  rw [List.getLast?_eq_some_getLast hne] at h
  rw [← Option.some.inj h]; exact e.symm
theorem addG_allB {gs : Gr} {b : Bd} (hne : gs ≠ []) : allB (addG gs b) = allB gs ++ [b] := by
  unfold addG
  cases h : gs.getLast? with
  | none => exact absurd (List.getLast?_eq_none_iff.1 h) hne
  | some p =>
    simp only
    have e := getLast_split h
    conv => rhs; rw [e]
    rw [allB_app, allB_app]
    simp [allB]
theorem rollG_ne (gs : Gr) : rollG gs ≠ [] := by
  unfold rollG
  cases h : gs.getLast? with
  | none => simp
  | some p =>
    simp only
    split
    · intro hh; subst hh; simp at h
    · simp
theorem grFin_snoc (gs : Gr) (p : Int × List Bd) : grFin (gs ++ [p]) = chEnd p.1 p.2 := by
  unfold grFin; rw [List.getLast?_append]; simp
theorem rollG_gch {gs : Gr} (h : GCh gs) : GCh (rollG gs) ∧ grFin (rollG gs) = grFin gs ∧ (0 ≤ grStart gs → 0 ≤ grStart (rollG gs)) := by
  unfold rollG
  cases hl : gs.getLast? with
  | none =>
    have e := List.getLast?_eq_none_iff.1 hl
    subst e
    exact ⟨trivial, rfl, fun _ => Int.le_refl _⟩
  | some p =>
    simp only
    split
    · exact ⟨h, rfl, id⟩
    · rename_i hc
      have e := getLast_split hl
      refine ⟨(gch_snoc _ _).2 ⟨h, trivial, fun _ => rfl, fun q hq => ?_⟩, by rw [grFin_snoc]; rfl, fun h0 => ?_⟩
      · intro hq0
        rw [e] at h hq
        have h2 := (gch_snoc _ _).1 h
        rcases List.mem_append.1 hq with hq | hq
        · exact h2.2.2.2 q hq hq0
        · rw [List.mem_singleton] at hq
          subst hq
          rw [hq0] at hc
          exact hc (by decide)
      · cases gs with
        | nil => simp at hl
        | cons q gs => exact h0
theorem addG_gch {gs : Gr} {b : Bd} (h : GCh gs) (hne : gs ≠ []) (hb : b.ok) (hba : b.ba = grFin gs) : GCh (addG gs b) ∧ grFin (addG gs b) = b.fin ∧ (0 ≤ grStart gs → 0 ≤ grStart (addG gs b)) := by
  unfold addG
  cases hl : gs.getLast? with
  | none => exact absurd (List.getLast?_eq_none_iff.1 hl) hne
  | some p =>
    simp only
    have e := getLast_split hl
    have hf : grFin gs = chEnd p.1 p.2 := by unfold grFin; rw [hl]
    rw [e] at h
    have h2 := (gch_snoc _ _).1 h
    refine ⟨(gch_snoc _ _).2 ⟨h2.1, ?_, h2.2.2.1, h2.2.2.2⟩, ?_, fun h0 => ?_⟩
    · exact (chain_app _ _ _).2 ⟨h2.2.1, ⟨by rw [hba, hf], hb, trivial⟩⟩
    · rw [grFin_snoc, chEnd_app]; rfl
    · cases hd : gs.dropLast with
      | nil =>
        rw [hd] at e
        rw [e] at h0
        exact h0
      | cons q qs =>
        rw [hd] at e
        rw [e] at h0
        exact h0
/-- offsets are small -/
def Small (gs : Gr) : Prop := 0 ≤ grStart gs ∧ grFin gs < 100000000
theorem small_mem {gs : Gr} (h : GCh gs) (hs : Small gs) {p : Int × List Bd} (hp : p ∈ gs) : 0 ≤ p.1 ∧ p.1 < 100000000 := by
  have h1 := gch_mem h hp
  have h2 := (chain_mem _ _ h1.1).1
  have h3 := hs.1
  have h4 := hs.2
  omega
theorem gch_bases {gs : Gr} (h : GCh gs) : (gs.map Prod.fst).Pairwise (· < ·) := by
  induction gs with
  | nil => exact .nil
  | cons p gs ih =>
    cases gs with
    | nil => simp
    | cons q gs =>
      obtain ⟨h1, h0, h2, h3⟩ := h
      rw [List.map_cons]
      refine List.pairwise_cons.2 ⟨fun v hv => ?_, ih h3⟩
      obtain ⟨x, hx, rfl⟩ := List.mem_map.1 hv
      have hm := gch_mem h3 hx
      have e : grStart (q :: gs) = q.1 := rfl
      obtain ⟨y, hy⟩ := List.exists_mem_of_ne_nil _ h0
      have := (chain_mem _ _ h1).2.2 y hy
      omega
end Go.Proofs.YtbpcichakchpkaaGreatDoor
