/- Layer of separation: elements of several cells that own things: opened, put back, exchanged, joined. -/
import Derived.Test.YtbpcichakchpkaaGreatDoorE2
namespace Go.Pk
open Go
theorem own_join {W w : World} {l m : List Res} {i : Nat} {R : Res} (hi : i < m.length) (h : Sat W w (R :: All (m.eraseIdx i) :: l)) : Sat W w (All (m.set i R) :: l) := by
  have h2 : (m.set i R).Perm (R :: m.eraseIdx i) := by
    clear h
    induction m generalizing i with
    | nil => simp at hi
    | cons A m ih =>
      cases i with
      | zero => exact .refl _
      | succ i => exact ((ih (by simpa using hi)).cons A).trans (.swap _ _ _)
  have h3 : Sat W w (All (m.eraseIdx i) :: R :: l) := h.swap
  have h4 : Sat W w (m.eraseIdx i ++ R :: l) := sat_all.1 h3
  refine sat_all.2 (h4.perm ?_)
  refine List.perm_middle.trans ?_
  have := h2.symm.append_right l
  simpa using this
section
variable {W w : World} {l : List Res} {P : Program} {α : Type} {E : El α} {s t : Sl} {xs ys : List α}
theorem take_put {α : Type} {cur cs : List α} {o k n sz : Nat} (hc : cs.length = sz) (h1 : k + sz ≤ n) (h2 : o + n ≤ cur.length) :
    ((cur.take (o + k) ++ cs ++ cur.drop (o + k + sz)).drop o).take n = ((cur.drop o).take n).take k ++ cs ++ ((cur.drop o).take n).drop (k + sz) := by
  apply List.ext_getElem?
  intro j
  simp only [List.getElem?_take, List.getElem?_drop, List.getElem?_append, List.length_append, List.length_take, List.length_drop]
  by_cases c1 : j < n
  · rw [if_pos c1]
    by_cases c2 : j < k
    · rw [if_pos (by omega), if_pos (by omega), if_pos (by omega), if_pos (by omega), if_pos (by omega), if_pos (by omega), if_pos (by omega)]
    · by_cases c3 : j < k + sz
      · rw [if_pos (by omega), if_neg (by omega), if_pos (by omega), if_neg (by omega)]
        congr 1; omega
      · rw [if_neg (by omega), if_neg (by omega)]
        rw [if_pos (by omega)]
        congr 1; omega
  · rw [if_neg c1, if_neg (by omega), if_neg (by omega)]
/-- an element of several cells is written -/
theorem slSet {T sz : Nat} {us cs : List Value} (h : Sat W w (SlR T sz s us :: l)) {a : Addr} (ha : s.a = some a) {i : Nat} (hi : i < s.len) (hc : cs.length = sz) (h1 : ∀ u ∈ cs, u.oneCell' = true) {t : TypeId} {K : World → Prop}
    (hK : ∀ w', Sat W w' (SlR T sz s (us.take (i * sz) ++ cs ++ us.drop (i * sz + sz)) :: l) → K w') (ht : aggT P t cs.length = true := by kernel_rfl) : StoreP P t (.pointer (some (a.add (i * sz)))) (.agg cs.toArray) w K := by
  rcases h.slr with ⟨_, h2, _⟩ | ⟨g, o, cur, ha', hb, h2, h3, h4, h5, h6⟩
  · omega
  · rw [ha'] at ha
    obtain rfl := Option.some.inj ha
    have hm : (i + 1) * sz ≤ s.len * sz := Nat.mul_le_mul_right _ hi
    have hm' : i * sz + sz ≤ s.len * sz := by rw [Nat.add_mul] at hm; omega
    have hm2 : s.len * sz ≤ s.cap * sz := Nat.mul_le_mul_right _ h2
    refine stAggX (o + i * sz) hb h1 (fun w' h' => hK w' (h'.mkSlr ha' h2 h3 ?_ ?_ ?_)) (by omega) (by rw [add_add]) ht
    · simp only [List.length_append, List.length_take, List.length_drop, hc]; omega
    · subst h5
      rw [hc]
      exact (take_put hc hm' (by omega)).symm
    · intro u hu
      simp only [List.mem_append] at hu
      rcases hu with (hu | hu) | hu
      · exact h6 u (List.mem_of_mem_take hu)
      · exact h1 u hu
      · exact h6 u (List.mem_of_mem_drop hu)
theorem flat_set {i : Nat} {y : α} (hi : i < xs.length) : E.flat (xs.set i y) = (E.flat xs).take (i * E.sz) ++ E.cells y ++ (E.flat xs).drop (i * E.sz + E.sz) := by
  rw [List.set_eq_take_append_cons_drop, if_pos hi, flat_app, ← flat_take, List.append_assoc]
  congr 1
  have : i * E.sz + E.sz = (i + 1) * E.sz := by rw [Nat.add_mul]; omega
  rw [this, flat_drop]
  simp only [El.flat, List.flatMap_cons]
/-- an element is opened -/
theorem own_open {i : Nat} {x : α} (hi : xs[i]? = some x) (h : Sat W w (OwnS E s xs :: l)) : Sat W w (E.own x :: SlR E.T E.sz s (E.flat xs) :: All ((xs.map E.own).eraseIdx i) :: l) := by
  have h1 := (sat_own.1 h).swap
  have h2 := own_split (i := i) (R := E.own x) (by rw [List.getElem?_map, hi]; rfl) h1
  exact h2.sel 3 [0, 2, 1]
theorem own_put {i : Nat} {y : α} (hi : i < xs.length) (h : Sat W w (E.own y :: SlR E.T E.sz s (E.flat (xs.set i y)) :: All ((xs.map E.own).eraseIdx i) :: l)) : Sat W w (OwnS E s (xs.set i y) :: l) := by
  have h1 := own_join (m := xs.map E.own) (i := i) (by simpa using hi) (h.sel 3 [0, 2, 1])
  rw [← List.map_set] at h1
  exact sat_own.2 h1.swap
theorem own_back {i : Nat} {x y : α} (hi : xs[i]? = some x) (hc : E.cells y = E.cells x) (h : Sat W w (E.own y :: SlR E.T E.sz s (E.flat xs) :: All ((xs.map E.own).eraseIdx i) :: l)) : Sat W w (OwnS E s (xs.set i y) :: l) := by
  obtain ⟨hlt, hx⟩ := List.getElem?_eq_some_iff.1 hi
  refine own_put hlt ?_
  have : E.flat (xs.set i y) = E.flat xs := by
    unfold El.flat
    rw [List.flatMap_def, List.flatMap_def, List.map_set]
    congr 1
    have : E.cells y = (xs.map E.cells)[i]'(by simpa using hlt) := by rw [List.getElem_map, hx, hc]
    rw [this, List.set_getElem_self]
  rw [this]; exact h
/-- an element is replaced by another -/
theorem own_swap {i : Nat} {y : α} (h : Sat W w (OwnS E s xs :: E.own y :: l)) {a : Addr} (ha : s.a = some a) (hi : i < s.len) (h0 : 0 < E.sz) {t : TypeId} {K : World → Prop}
    (hK : ∀ w', Sat W w' (OwnS E s (xs.set i y) :: l) → K w') (ht : aggT P t (E.cells y).length = true := by kernel_rfl) : StoreP P t (.pointer (some (a.add (i * E.sz)))) (.agg (E.cells y).toArray) w K := by
  have hl := own_len h h0
  have hlt : i < xs.length := by omega
  have h1 := own_open (List.getElem?_eq_getElem hlt) h
  have h2 : Sat W w (SlR E.T E.sz s (E.flat xs) :: All ((xs.map E.own).eraseIdx i) :: E.own y :: l) := h1.tail
  refine slSet h2 ha hi (E.len y) (E.one y) (fun w' h3 => hK w' (own_put hlt ?_)) ht
  rw [flat_set hlt]
  exact h3.sel 3 [2, 0, 1]
/-- two lists become one -/
theorem own_app {T e sz by_ : Nat} {ty : TypeId} (et : ET P T e sz by_) (hT : E.T = e) (hsz : E.sz = sz) (h0 : 0 < sz) (h : Sat W w (OwnS E s xs :: OwnS E t ys :: l)) (hb : (xs.length + ys.length) * by_ ≤ 140737488355328) (hm : xs.length + ys.length < 2 ^ 63)
    {K : Sl → World → Prop} (hK : ∀ s' w', Sat W w' (OwnS E s' (xs ++ ys) :: l) → K s' w') : RunK .sl P (Builtin.append_ #[T, T] ty #[s.v, t.v]) w K := by
  subst hT; subst hsz
  have l1 := own_len h h0
  have l2 := own_len h.swap h0
  have h1 := sat_own.1 (h.swap)
  have h2 := sat_own.1 (h1.up 2)
  refine appB et h0 (s := s) (x := t) (news := E.flat ys) h2 ((h2.up 2).rdc) (flat_ones _) (by rw [l1.1, l2.1]; exact hb) (by rw [l1.1, l2.1]; exact hm) fun s' w' h3 _ => ?_
  refine hK s' w' (sat_own.2 ?_)
  rw [flat_app, List.map_append]
  have h4 : Sat W w' (All (xs.map E.own) :: All (ys.map E.own) :: SlR E.T E.sz s' (E.flat xs ++ E.flat ys) :: l) := (h3.cut 2).sel 3 [1, 2, 0]
  have h5 := sat_all.1 h4
  have h6 : Sat W w' (ys.map E.own ++ (xs.map E.own ++ (SlR E.T E.sz s' (E.flat xs ++ E.flat ys) :: l))) := sat_all.1 (h5.perm List.perm_middle)
  have h7 : Sat W w' ((xs.map E.own ++ ys.map E.own) ++ (SlR E.T E.sz s' (E.flat xs ++ E.flat ys) :: l)) := by
    refine h6.perm ?_
    rw [← List.append_assoc]
    exact (List.perm_append_comm).append_right _
  exact (sat_all.2 h7).swap
end
end Go.Pk
