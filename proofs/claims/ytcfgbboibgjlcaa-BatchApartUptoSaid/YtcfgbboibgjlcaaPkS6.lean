/- Layer of separation: parts are moved by their places. -/
import Derived.Test.YtcfgbboibgjlcaaPkS5
namespace Go.Pk
open Go
section
variable {W w : World} {l : List Res} {P : Program}
/-- the part at a place -/
abbrev nthR : List Res → Nat → Res
  | [], _ => Pure True
  | A :: _, 0 => A
  | _ :: l, i + 1 => nthR l i
theorem perm_up : ∀ (l : List Res) (i : Nat), i < l.length → l.Perm (nthR l i :: l.eraseIdx i)
  | [], _, h => by simp at h
  | A :: l, 0, _ => .refl _
  | A :: l, i + 1, h => ((perm_up l i (by simpa using h)).cons A).trans (.swap _ _ _)
theorem nthR_out : ∀ (l : List Res) (i : Nat), l.length ≤ i → nthR l i = Pure True
  | [], _, _ => rfl
  | A :: l, 0, h => by simp at h
  | A :: l, i + 1, h => nthR_out l i (by simpa using h)
/-- the part at the place i comes to the front -/
theorem Sat.up {L : List Res} (h : Sat W w L) (i : Nat) : Sat W w (nthR L i :: L.eraseIdx i) := by
  rcases Nat.lt_or_ge i L.length with hl | hl
  · exact h.perm (perm_up L i hl)
  · rw [nthR_out L i hl, List.eraseIdx_of_length_le hl]
    exact sat_pure.2 ⟨trivial, h⟩
def ins (R : Res) : List Res → Nat → List Res
  | l, 0 => R :: l
  | [], _ + 1 => [R]
  | A :: l, i + 1 => A :: ins R l i
theorem perm_dn (R : Res) : ∀ (l : List Res) (i : Nat), (R :: l).Perm (ins R l i)
  | l, 0 => by unfold ins; exact .refl _
  | [], i + 1 => .refl _
  | A :: l, i + 1 => (List.Perm.swap A R l).trans ((perm_dn R l i).cons A)
/-- the first part goes to the place i -/
theorem Sat.dn {R : Res} (h : Sat W w (R :: l)) (i : Nat) : Sat W w (ins R l i) := h.perm (perm_dn R l i)
/-- the part at the place i is let go -/
theorem Sat.cut {L : List Res} (h : Sat W w L) (i : Nat) : Sat W w (L.eraseIdx i) := (h.up i).tail
theorem sat_allc {A : Res} {m : List Res} : Sat W w (All (A :: m) :: l) ↔ Sat W w (A :: All m :: l) := by
  constructor
  · intro h
    have h1 := sat_all.1 h
    have h2 : Sat W w (m ++ (A :: l)) := h1.perm List.perm_middle.symm
    exact ((sat_all (l' := m)).2 h2).swap
  · intro h
    have h1 := sat_all.1 h.swap
    exact (sat_all (l' := A :: m)).2 (h1.perm List.perm_middle)
theorem sat_alln : Sat W w (All [] :: l) ↔ Sat W w l := sat_all (l' := [])
end
end Go.Pk
