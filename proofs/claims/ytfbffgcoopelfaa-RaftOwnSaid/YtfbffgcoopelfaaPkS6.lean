/- Layer of separation: parts are moved by their places. -/
import Derived.Test.YtfbffgcoopelfaaPkS5
namespace Go.Pk
open Go
section
variable {W w : World} {l : List Res} {P : Program}
/-- the part at a place -/
abbrev nthR : List Res → Nat → Res
  | [], _ => Pure True
  | A :: _, 0 => A
  | _ :: l, i + 1 => nthR l i
theorem perm_up : ∀ (l : List Res) (i : Nat), i < l.length → l.Perm (nthR l i :: l.eraseIdx i)
  | [], _, h => by simp at h
  | A :: l, 0, _ => .refl _
  | A :: l, i + 1, h => ((perm_up l i (by simpa using h)).cons A).trans (.swap _ _ _)
theorem nthR_out : ∀ (l : List Res) (i : Nat), l.length ≤ i → nthR l i = Pure True
  | [], _, _ => rfl
  | A :: l, 0, h => by simp at h
  | A :: l, i + 1, h => nthR_out l i (by simpa using h)
/-- the part at the place i comes to the front -/
theorem Sat.up {L : List Res} (h : Sat W w L) (i : Nat) : Sat W w (nthR L i :: L.eraseIdx i) := by
  rcases Nat.lt_or_ge i L.length with hl | hl
  · exact h.perm (perm_up L i hl)
  · rw [nthR_out L i hl, List.eraseIdx_of_length_le hl]
    exact sat_pure.2 ⟨trivial, h⟩
def ins (R : Res) : List Res → Nat → List Res
  | l, 0 => R :: l
  | [], _ + 1 => [R]
  | A :: l, i + 1 => A :: ins R l i
theorem perm_dn (R : Res) : ∀ (l : List Res) (i : Nat), (R :: l).Perm (ins R l i)
  | l, 0 => by unfold ins; exact .refl _
  | [], i + 1 => .refl _
  | A :: l, i + 1 => (List.Perm.swap A R l).trans ((perm_dn R l i).cons A)
/-- the first part goes to the place i -/
theorem Sat.dn {R : Res} (h : Sat W w (R :: l)) (i : Nat) : Sat W w (ins R l i) := h.perm (perm_dn R l i)
/-- the part at the place i is let go -/
theorem Sat.cut {L : List Res} (h : Sat W w L) (i : Nat) : Sat W w (L.eraseIdx i) := (h.up i).tail
theorem take_nth : ∀ (L : List Res) (n : Nat), n ≤ L.length → L.take n = (List.range n).map (nthR L)
  | L, 0, _ => by simp
  | [], n + 1, h => by simp at h
  | A :: L, n + 1, h => by
    have ih := take_nth L n (by simpa using h)
    rw [List.take_succ_cons, ih, List.range_succ_eq_map, List.map_cons, List.map_map]
    rfl
def notIn (i : Nat) : List Nat → Bool
  | [] => true
  | j :: l => !Nat.beq i j && notIn i l
def selOk (n : Nat) : List Nat → Bool
  | [] => true
  | i :: l => Nat.blt i n && (notIn i l && selOk n l)
theorem notIn_iff (i : Nat) : ∀ l, notIn i l = true ↔ i ∉ l
  | [] => by simp [notIn]
  | j :: l => by
    simp only [notIn, Bool.and_eq_true, Bool.not_eq_true', notIn_iff i l, beq_eq, decide_eq_false_iff_not, List.mem_cons, not_or]
theorem selOk_iff (n : Nat) : ∀ l, selOk n l = true → l.Nodup ∧ ∀ i ∈ l, i < n
  | [], _ => by simp
  | i :: l, h => by
    simp only [selOk, Bool.and_eq_true, notIn_iff, Nat.blt_eq] at h
    obtain ⟨h1, h2, h3⟩ := h
    obtain ⟨h4, h5⟩ := selOk_iff n l h3
    exact ⟨List.nodup_cons.2 ⟨h2, h4⟩, fun j hj => by rcases List.mem_cons.1 hj with rfl | hj; exact h1; exact h5 j hj⟩
/-- of the first n parts those at the places 'idx', in this order -/
theorem Sat.sel {L : List Res} (h : Sat W w L) (n : Nat) (idx : List Nat) (hn' : Nat.ble n L.length = true := by rfl) (hi : selOk n idx = true := by rfl) : Sat W w (idx.map (nthR L) ++ L.drop n) := by
  have hn : n ≤ L.length := Nat.le_of_ble_eq_true hn'
  obtain ⟨h1, h2⟩ := selOk_iff n idx hi
  have hp : (List.range n).Perm (idx ++ (List.range n).filter fun i => decide (i ∉ idx)) := by
    refine (List.perm_ext_iff_of_nodup List.nodup_range ?_).2 fun a => ?_
    · refine List.nodup_append.2 ⟨h1, List.nodup_range.filter _, fun a ha b hb he => ?_⟩
      subst he
      simp only [List.mem_filter, decide_eq_true_eq] at hb
      exact hb.2 ha
    · simp only [List.mem_range, List.mem_append, List.mem_filter, decide_eq_true_eq]
      constructor
      · intro ha
        by_cases hx : a ∈ idx
        · exact .inl hx
        · exact .inr ⟨ha, hx⟩
      · rintro (ha | ha)
        · exact h2 a ha
        · exact ha.1
  have h3 : Sat W w (idx.map (nthR L) ++ (((List.range n).filter fun i => decide (i ∉ idx)).map (nthR L) ++ L.drop n)) := by
    rw [← List.append_assoc, ← List.map_append]
    have h4 : Sat W w (L.take n ++ L.drop n) := by rw [List.take_append_drop]; exact h
    rw [take_nth L n hn] at h4
    exact h4.perm ((hp.map _).append_right _)
  have h5 := h3.perm (List.perm_append_comm_assoc _ _ _)
  exact ((sat_all (l' := ((List.range n).filter fun i => decide (i ∉ idx)).map (nthR L))).2 h5).tail
theorem sat_allc {A : Res} {m : List Res} : Sat W w (All (A :: m) :: l) ↔ Sat W w (A :: All m :: l) := by
  constructor
  · intro h
    have h1 := sat_all.1 h
    have h2 : Sat W w (m ++ (A :: l)) := h1.perm List.perm_middle.symm
    exact ((sat_all (l' := m)).2 h2).swap
  · intro h
    have h1 := sat_all.1 h.swap
    exact (sat_all (l' := A :: m)).2 (h1.perm List.perm_middle)
theorem sat_alln : Sat W w (All [] :: l) ↔ Sat W w l := sat_all (l' := [])
end
end Go.Pk
