/- Layer of separation: elements of several cells that own things: opened, put back, exchanged, joined. -/
import Derived.Test.YtnjadekngjgjcaaGreatDoorE2
namespace Go.Pk
open Go
theorem own_join {W w : World} {l m : List Res} {i : Nat} {R : Res} (hi : i < m.length) (h : Sat W w (R :: All (m.eraseIdx i) :: l)) : Sat W w (All (m.set i R) :: l) := by
  have h2 : (m.set i R).Perm (R :: m.eraseIdx i) := by
    clear h
    induction m generalizing i with
    | nil => simp at hi
    | cons A m ih =>
      cases i with
      | zero => exact .refl _
      | succ i => exact ((ih (by simpa using hi)).cons A).trans (.swap _ _ _)
  have h3 : Sat W w (All (m.eraseIdx i) :: R :: l) := h.swap
  have h4 : Sat W w (m.eraseIdx i ++ R :: l) := sat_all.1 h3
  refine sat_all.2 (h4.perm ?_)
  refine List.perm_middle.trans ?_
  have := h2.symm.append_right l
  simpa using this
section
variable {W w : World} {l : List Res} {P : Program} {α : Type} {E : El α} {s t : Sl} {xs ys : List α}
/-- an element is opened -/
theorem own_open {i : Nat} {x : α} (hi : xs[i]? = some x) (h : Sat W w (OwnS E s xs :: l)) : Sat W w (E.own x :: SlR E.T E.sz s (E.flat xs) :: All ((xs.map E.own).eraseIdx i) :: l) := by
  have h1 := (sat_own.1 h).swap
  have h2 := own_split (i := i) (R := E.own x) (by rw [List.getElem?_map, hi]; rfl) h1
  exact h2.sel 3 [0, 2, 1]
theorem own_put {i : Nat} {y : α} (hi : i < xs.length) (h : Sat W w (E.own y :: SlR E.T E.sz s (E.flat (xs.set i y)) :: All ((xs.map E.own).eraseIdx i) :: l)) : Sat W w (OwnS E s (xs.set i y) :: l) := by
  have h1 := own_join (m := xs.map E.own) (i := i) (by simpa using hi) (h.sel 3 [0, 2, 1])
  rw [← List.map_set] at h1
  exact sat_own.2 h1.swap
theorem own_back {i : Nat} {x y : α} (hi : xs[i]? = some x) (hc : E.cells y = E.cells x) (h : Sat W w (E.own y :: SlR E.T E.sz s (E.flat xs) :: All ((xs.map E.own).eraseIdx i) :: l)) : Sat W w (OwnS E s (xs.set i y) :: l) := by
  obtain ⟨hlt, hx⟩ := List.getElem?_eq_some_iff.1 hi
  refine own_put hlt ?_
  have : E.flat (xs.set i y) = E.flat xs := by
    unfold El.flat
    rw [List.flatMap_def, List.flatMap_def, List.map_set]
    congr 1
    have : E.cells y = (xs.map E.cells)[i]'(by simpa using hlt) := by rw [List.getElem_map, hx, hc]
    rw [this, List.set_getElem_self]
  rw [this]; exact h
end
end Go.Pk
