/- Layer of separation: a slice of one's own whose elements own something. -/
import Derived.Test.YtfbffgcoopelfaaPkS6
namespace Go.Pk
open Go
structure El (α : Type) where
  T : TypeId
  sz : Nat
  cells : α → List Value
  own : α → Res
  len : ∀ x, (cells x).length = sz
  one : ∀ x, ∀ u ∈ cells x, u.oneCell' = true
def El.flat {α : Type} (E : El α) (xs : List α) : List Value := xs.flatMap E.cells
/-- a slice and what its elements own -/
def OwnS {α : Type} (E : El α) (s : Sl) (xs : List α) : Res := All [SlR E.T E.sz s (E.flat xs), All (xs.map E.own)]
section
variable {W w : World} {l : List Res} {P : Program} {α : Type} {E : El α} {s : Sl} {xs : List α}
theorem sat_own : Sat W w (OwnS E s xs :: l) ↔ Sat W w (SlR E.T E.sz s (E.flat xs) :: All (xs.map E.own) :: l) := sat_all
theorem flat_length {E : El α} : ∀ xs : List α, (E.flat xs).length = xs.length * E.sz
  | [] => by simp [El.flat]
  | x :: xs => by
    have ih := flat_length (E := E) xs
    simp only [El.flat, List.flatMap_cons, List.length_append, List.length_cons, E.len, Nat.add_mul] at ih ⊢
    omega
theorem flat_app {E : El α} (xs ys : List α) : E.flat (xs ++ ys) = E.flat xs ++ E.flat ys := by simp [El.flat]
theorem flat_one {E : El α} (x : α) : E.flat [x] = E.cells x := by simp [El.flat]
theorem flat_ones {E : El α} (xs : List α) : ∀ u ∈ E.flat xs, u.oneCell' = true := by
  intro u hu
  obtain ⟨x, _, hx⟩ := List.mem_flatMap.1 hu
  exact E.one x u hx
theorem flat_take {E : El α} : ∀ (xs : List α) (k : Nat), (E.flat xs).take (k * E.sz) = E.flat (xs.take k)
  | [], k => by simp [El.flat]
  | x :: xs, 0 => by simp [El.flat]
  | x :: xs, k + 1 => by
    have ih := flat_take (E := E) xs k
    simp only [El.flat, List.flatMap_cons, List.take_succ_cons] at ih ⊢
    rw [List.take_append, E.len, List.take_of_length_le (by rw [E.len, Nat.add_mul]; omega)]
    have e : (k + 1) * E.sz - E.sz = k * E.sz := by rw [Nat.add_mul]; omega
    rw [e, ih]
theorem flat_drop {E : El α} : ∀ (xs : List α) (k : Nat), (E.flat xs).drop (k * E.sz) = E.flat (xs.drop k)
  | [], k => by simp [El.flat]
  | x :: xs, 0 => by simp [El.flat]
  | x :: xs, k + 1 => by
    have ih := flat_drop (E := E) xs k
    simp only [El.flat, List.flatMap_cons, List.drop_succ_cons] at ih ⊢
    rw [List.drop_append, E.len, List.drop_of_length_le (by rw [E.len, Nat.add_mul]; omega)]
    have e : (k + 1) * E.sz - E.sz = k * E.sz := by rw [Nat.add_mul]; omega
    rw [e, ih, List.nil_append]
theorem flat_at {E : El α} {xs : List α} {i j : Nat} {x : α} {u : Value} (hx : xs[i]? = some x) (hu : (E.cells x)[j]? = some u) : (E.flat xs)[i * E.sz + j]? = some u := by
  have hj : j < E.sz := by rw [← E.len x]; exact (List.getElem?_eq_some_iff.1 hu).1
  have h1 : (E.flat xs).drop (i * E.sz) = E.cells x ++ E.flat (xs.drop (i + 1)) := by
    rw [flat_drop]
    obtain ⟨hi, rfl⟩ := List.getElem?_eq_some_iff.1 hx
    rw [List.drop_eq_getElem_cons hi]
    simp only [El.flat, List.flatMap_cons]
  have h2 : (E.flat xs)[i * E.sz + j]? = ((E.flat xs).drop (i * E.sz))[j]? := by rw [List.getElem?_drop]
  rw [h2, h1, List.getElem?_append_left (by rw [E.len]; exact hj)]
  exact hu
theorem own_nil (h : Sat W w l) : Sat W w (OwnS E ⟨none, 0, 0⟩ [] :: l) :=
  sat_own.2 (Sat.nilSlr (sat_alln.2 h) E.T E.sz)
theorem own_len (h : Sat W w (OwnS E s xs :: l)) (h0 : 0 < E.sz) : s.len = xs.length ∧ s.len ≤ s.cap ∧ s.cap < 2 ^ 63 := by
  have := (sat_own.1 h).slLen
  rw [flat_length] at this
  exact ⟨(Nat.eq_of_mul_eq_mul_right h0 this.1).symm, this.2⟩
/-- how it reads -/
theorem Rd.ownS : Rd W (OwnS E s xs :: l) s E.sz (E.flat xs) := fun w h => (sat_own.1 h).rdc
/-- what an element owns, apart -/
theorem own_split {m : List Res} {i : Nat} {R : Res} (hi : m[i]? = some R) (h : Sat W w (All m :: l)) : Sat W w (R :: All (m.eraseIdx i) :: l) := by
  have hl : i < m.length := (List.getElem?_eq_some_iff.1 hi).1
  have h1 := sat_all.1 h
  have h2 : m.Perm (R :: m.eraseIdx i) := by
    have := perm_up m i hl
    have e : nthR m i = R := by
      clear h h1 this
      induction m generalizing i with
      | nil => simp at hi
      | cons A m ih =>
        cases i with
        | zero => simpa [nthR] using hi
        | succ i => exact ih (by simpa using hi) (by simpa using hl)
    rwa [e] at this
  have h3 : Sat W w (R :: (m.eraseIdx i ++ l)) := h1.perm (h2.append_right l)
  exact ((sat_all (l' := m.eraseIdx i)).2 (h3.perm (List.perm_middle.symm))).swap
theorem Rd.ownE {E : El α} {xs : List α} {i : Nat} {x : α} {t : Sl} {sz : Nat} {us : List Value} (hx : xs[i]? = some x) (hr : ∀ l, Rd W (E.own x :: l) t sz us) : Rd W (OwnS E s xs :: l) t sz us := by
  intro w h
  have h1 := (sat_own.1 h).tail
  exact hr _ w (own_split (i := i) (by simp [hx]) h1)
/-- one element more -/
theorem own_push {t e : TypeId} {sz by_ : Nat} {x : α} {g : Nat} {ty : TypeId} (et : ET P t e sz by_) (hT : E.T = e) (hsz : E.sz = sz) (h0 : 0 < sz) (h : Sat W w (Blk g (E.cells x) e :: E.own x :: OwnS E s xs :: l)) (hb : (xs.length + 1) * by_ ≤ 140737488355328) (hm : xs.length + 1 < 2 ^ 63)
    {K : Sl → World → Prop} (hK : ∀ s' w', Sat W w' (OwnS E s' (xs ++ [x]) :: l) → K s' w') : RunK .sl P (Builtin.append_ #[t, t] ty #[s.v, Sl.v ⟨some ⟨g, 0, none⟩, 1, 1⟩]) w K := by
  subst hT; subst hsz
  have h1 := sat_own.1 (h.up 2)
  have hl := own_len (h.up 2) h0
  refine appB et h0 (s := s) (x := ⟨some ⟨g, 0, none⟩, 1, 1⟩) (news := E.cells x) h1 (rdBlk (h1.up 2) (by rw [E.len]; omega)) (E.one x) (by rw [hl.1]; exact hb) (by rw [hl.1]; exact hm) fun s' w' h2 _ => ?_
  refine hK s' w' (sat_own.2 ?_)
  rw [flat_app, flat_one, List.map_append]
  have h3 : Sat W w' (E.own x :: All (xs.map E.own) :: SlR E.T E.sz s' (E.flat xs ++ E.cells x) :: l) := ((h2.cut 2).up 1).up 2
  have h4 : Sat W w' (All (E.own x :: xs.map E.own) :: SlR E.T E.sz s' (E.flat xs ++ E.cells x) :: l) := sat_allc.2 h3
  have h5 : Sat W w' (All (xs.map E.own ++ [E.own x]) :: SlR E.T E.sz s' (E.flat xs ++ E.cells x) :: l) := by
    have := sat_all.1 h4
    refine (sat_all (l' := xs.map E.own ++ [E.own x])).2 (this.perm ?_)
    exact List.Perm.append_right _ (List.perm_append_comm (l₁ := [E.own x]) (l₂ := xs.map E.own))
  exact h5.swap
/-- the first ones alone -/
theorem slr_take {T : TypeId} {sz : Nat} {us : List Value} (h : Sat W w (SlR T sz s us :: l)) {k : Nat} (hk : k ≤ s.len) : Sat W w (SlR T sz ⟨s.a, k, s.cap⟩ (us.take (k * sz)) :: l) := by
  rcases h.slr with ⟨h0, h1, h2, h3⟩ | ⟨g, o, cur, ha, hb, h1, h2, h3, h4, h5⟩
  · have hk0 : k = 0 := by omega
    obtain ⟨sa, sl, sc⟩ := s
    simp only at h0 h1 h2
    subst h0; subst h2; subst h3; subst hk0
    simpa using Sat.nilSlr h.tail T sz
  · refine hb.mkSlr ha (by show k ≤ s.cap; omega) h2 h3 ?_ h5
    rw [h4, List.take_take]
    congr 1
    have : k * sz ≤ s.len * sz := Nat.mul_le_mul_right _ hk
    show min (k * sz) (s.len * sz) = k * sz
    omega
theorem own_take (h : Sat W w (OwnS E s xs :: l)) {k : Nat} (hk : k ≤ s.len) : Sat W w (OwnS E ⟨s.a, k, s.cap⟩ (xs.take k) :: l) := by
  have h1 := slr_take (sat_own.1 h) hk
  rw [flat_take] at h1
  refine sat_own.2 ?_
  have h2 := sat_all.1 h1.swap
  have h3 : Sat W w ((xs.take k).map E.own ++ ((xs.drop k).map E.own ++ (SlR E.T E.sz ⟨s.a, k, s.cap⟩ (E.flat (xs.take k)) :: l))) := by
    rw [← List.append_assoc, ← List.map_append, List.take_append_drop]; exact h2
  have h4 : Sat W w (All ((xs.take k).map E.own) :: All ((xs.drop k).map E.own) :: (SlR E.T E.sz ⟨s.a, k, s.cap⟩ (E.flat (xs.take k)) :: l)) := by
    refine (sat_all (l' := (xs.take k).map E.own)).2 ?_
    refine Sat.perm ((sat_all (l' := (xs.drop k).map E.own)).2 (Sat.perm h3 (List.perm_append_comm_assoc _ _ _))) ?_
    exact (List.perm_middle.symm)
  exact (h4.cut 1).swap
/-- the last ones alone -/
theorem slr_drop {T : TypeId} {sz : Nat} {us : List Value} (h : Sat W w (SlR T sz s us :: l)) {k : Nat} (hk : k ≤ s.len) : Sat W w (SlR T sz (subSl s sz k s.len) (us.drop (k * sz)) :: l) := by
  rcases h.slr with ⟨h0, h1, h2, h3⟩ | ⟨g, o, cur, ha, hb, h1, h2, h3, h4, h5⟩
  · have hk0 : k = 0 := by omega
    obtain ⟨sa, sl, sc⟩ := s
    simp only at h0 h1 h2
    subst h0; subst h1; subst h2; subst h3; subst hk0
    simpa [subSl] using Sat.nilSlr h.tail T sz
  · have hm : k * sz ≤ s.len * sz := Nat.mul_le_mul_right _ hk
    have hm2 : s.len * sz ≤ s.cap * sz := Nat.mul_le_mul_right _ h1
    by_cases hc : s.cap = k
    · have hl : s.len = k := by omega
      refine hb.mkSlr (s := subSl s sz k s.len) (o := o) (by simp only [subSl, if_pos hc]; exact ha) (by simp only [subSl]; omega) (by simp only [subSl]; omega) ?_ ?_ h5
      · simp only [subSl, hc, Nat.sub_self, Nat.zero_mul, Nat.add_zero]; omega
      · simp only [subSl, hl, Nat.sub_self, Nat.zero_mul, List.take_zero]
        rw [h4, hl, List.drop_of_length_le]
        simp; omega
    · refine hb.mkSlr (s := subSl s sz k s.len) (o := o + k * sz) (by simp only [subSl, if_neg hc, ha, Option.map_some, add_add]) (by simp only [subSl]; omega) (by simp only [subSl]; omega) ?_ ?_ h5
      · simp only [subSl, Nat.sub_mul]; omega
      · rw [h4]
        simp only [subSl, Nat.sub_mul, List.drop_take, List.drop_drop]
theorem own_drop (h : Sat W w (OwnS E s xs :: l)) {k : Nat} (hk : k ≤ s.len) : Sat W w (OwnS E (subSl s E.sz k s.len) (xs.drop k) :: l) := by
  have h1 := slr_drop (sat_own.1 h) hk
  rw [flat_drop] at h1
  refine sat_own.2 ?_
  have h2 := sat_all.1 h1.swap
  have h3 : Sat W w ((xs.take k).map E.own ++ ((xs.drop k).map E.own ++ (SlR E.T E.sz (subSl s E.sz k s.len) (E.flat (xs.drop k)) :: l))) := by
    rw [← List.append_assoc, ← List.map_append, List.take_append_drop]; exact h2
  have h4 := ((sat_all (l' := (xs.take k).map E.own)).2 h3).tail
  exact ((sat_all (l' := (xs.drop k).map E.own)).2 h4).swap
end
end Go.Pk
