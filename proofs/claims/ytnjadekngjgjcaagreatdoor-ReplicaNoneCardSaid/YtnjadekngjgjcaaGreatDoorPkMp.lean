/- Maps from numbers to pointers, and what these point to. -/
import Derived.Test.YtnjadekngjgjcaaGreatDoorE2
import Derived.Test.YtnjadekngjgjcaaGreatDoorPkO
namespace Go.Pk
open Go
/-- an entry: key, block, what it holds -/
structure Me (α : Type) where
  k : Int
  p : Nat
  x : α
def Me.kx {α : Type} (e : Me α) : Int × α := (e.k, e.x)
def Me.kv {α : Type} (e : Me α) : Int × Value := (e.k, .pointer (some ⟨e.p, 0, none⟩))
def getA {α : Type} : List (Int × α) → Int → Option α
  | [], _ => none
  | p :: m, n => if p.1 = n then some p.2 else getA m n
def setA {α : Type} : List (Int × α) → Int → α → List (Int × α)
  | [], n, f => [(n, f)]
  | p :: m, n, f => if p.1 = n then (n, f) :: m else p :: setA m n f
section
variable {W w : World} {l : List Res} {P : Program} {α : Type} {own : Nat → α → Res} {q : IntKind} {r : Nat} {es : List (Me α)}
/-- a map, opened -/
abbrev MpL (q : IntKind) (r : Nat) (own : Nat → α → Res) (es : List (Me α)) (l : List Res) : List Res := MpR q r (es.map Me.kv) :: All (es.map fun e => own e.p e.x) :: l
def MpP (q : IntKind) (r : Nat) (own : Nat → α → Res) (m : List (Int × α)) : Res := Ex fun es : List (Me α) => All [Pure (es.map Me.kx = m), MpR q r (es.map Me.kv), All (es.map fun e => own e.p e.x)]
theorem sat_mpp {m : List (Int × α)} : Sat W w (MpP q r own m :: l) ↔ ∃ es : List (Me α), es.map Me.kx = m ∧ Sat W w (MpL q r own es l) := by
  unfold MpP
  rw [sat_ex]
  constructor
  · rintro ⟨es, h⟩
    obtain ⟨h1, h2⟩ := sat_pure.1 (sat_all.1 h)
    exact ⟨es, h1, h2⟩
  · rintro ⟨es, h1, h2⟩
    exact ⟨es, sat_all.2 (sat_pure.2 ⟨h1, h2⟩)⟩
theorem me_find (k : Int) : ∀ (es : List (Me α)), (mget (es.map Me.kv) k = none ∧ getA (es.map Me.kx) k = none ∧ (∀ y, setA (es.map Me.kx) k y = es.map Me.kx ++ [(k, y)]) ∧ ∀ v, mput (es.map Me.kv) k v = es.map Me.kv ++ [(k, v)]) ∨
    ∃ i e, es[i]? = some e ∧ e.k = k ∧ mget (es.map Me.kv) k = some (.pointer (some ⟨e.p, 0, none⟩)) ∧ getA (es.map Me.kx) k = some e.x ∧ ∀ y, setA (es.map Me.kx) k y = (es.set i ⟨k, e.p, y⟩).map Me.kx
  | [] => .inl ⟨rfl, rfl, fun _ => rfl, fun _ => rfl⟩
  | e :: es => by
    by_cases hk : e.k = k
    · refine .inr ⟨0, e, rfl, hk, ?_, ?_, fun y => ?_⟩
      · simp [mget, Me.kv, hk]
      · simp [getA, Me.kx, hk]
      · simp [setA, Me.kx, hk]
    · rcases me_find k es with ⟨h1, h2, h3, h4⟩ | ⟨i, e', h1, h2, h3, h4, h5⟩
      · refine .inl ⟨?_, ?_, fun y => ?_, fun v => ?_⟩
        · simp only [List.map_cons, mget, Me.kv]; rw [if_neg hk]; exact h1
        · simp only [List.map_cons, getA, Me.kx]; rw [if_neg hk]; exact h2
        · simp only [List.map_cons, setA]; rw [if_neg (by exact hk), h3 y]; rfl
        · simp only [List.map_cons, mput]; rw [if_neg (by exact hk), h4 v]; rfl
      · refine .inr ⟨i + 1, e', by simpa using h1, h2, ?_, ?_, fun y => ?_⟩
        · simp only [List.map_cons, mget, Me.kv]; rw [if_neg hk]; exact h3
        · simp only [List.map_cons, getA, Me.kx]; rw [if_neg hk]; exact h4
        · simp only [List.map_cons, setA]; rw [if_neg (by exact hk), h5 y]; rfl
/-- an entry is opened -/
theorem mp_open {i : Nat} {e : Me α} (hi : es[i]? = some e) (h : Sat W w (MpL q r own es l)) : Sat W w (own e.p e.x :: MpR q r (es.map Me.kv) :: All ((es.map fun e => own e.p e.x).eraseIdx i) :: l) := by
  have h1 := own_split (i := i) (R := own e.p e.x) (by rw [List.getElem?_map, hi]; rfl) h.swap
  exact h1.sel 3 [0, 2, 1]
theorem mp_close {i : Nat} {e : Me α} {y : α} (hi : es[i]? = some e) (h : Sat W w (own e.p y :: MpR q r (es.map Me.kv) :: All ((es.map fun e => own e.p e.x).eraseIdx i) :: l)) : Sat W w (MpL q r own (es.set i ⟨e.k, e.p, y⟩) l) := by
  have hlt : i < es.length := (List.getElem?_eq_some_iff.1 hi).1
  have h1 := own_join (m := es.map fun e => own e.p e.x) (i := i) (by simpa using hlt) (h.sel 3 [0, 2, 1])
  have e1 : (es.map fun e => own e.p e.x).set i (own e.p y) = (es.set i ⟨e.k, e.p, y⟩).map fun e => own e.p e.x := by rw [List.map_set]
  have e2 : (es.set i ⟨e.k, e.p, y⟩).map Me.kv = es.map Me.kv := by
    rw [List.map_set]
    obtain ⟨_, he⟩ := List.getElem?_eq_some_iff.1 hi
    have : Me.kv (⟨e.k, e.p, y⟩ : Me α) = (es.map Me.kv)[i]'(by simpa using hlt) := by simp [he, Me.kv]
    rw [this, List.set_getElem_self]
  rw [e1] at h1
  unfold MpL
  rw [e2]
  exact h1.swap
theorem mp_same {i : Nat} {e : Me α} (hi : es[i]? = some e) : es.set i ⟨e.k, e.p, e.x⟩ = es := by
  obtain ⟨_, he⟩ := List.getElem?_eq_some_iff.1 hi
  rw [← he, List.set_getElem_self]
/-- a key is looked up -/
theorem mpLook {t k e : TypeId} {n : Int} (ht : P.underlying t = some (.map k e)) (hk : P.underlying k = some (.int q)) (hz : ∀ w, (zeroValue e).run P w = .ok (.pointer none) w) (h : Sat W w (MpL q r own es l)) {K : Value → World → Prop}
    (h0 : getA (es.map Me.kx) n = none → (∀ y, setA (es.map Me.kx) n y = es.map Me.kx ++ [(n, y)]) → (∀ v, mput (es.map Me.kv) n v = es.map Me.kv ++ [(n, v)]) → K (.pointer none) w)
    (h1 : ∀ i e, es[i]? = some e → e.k = n → getA (es.map Me.kx) n = some e.x → (∀ y, setA (es.map Me.kx) n y = (es.set i ⟨e.k, e.p, y⟩).map Me.kx) → K (.pointer (some ⟨e.p, 0, none⟩)) w) :
    RunV P (Instr.lookup t (.map (some r)) (.int q n) false) w K := by
  refine mapLook (z := .pointer none) ht hk hz h ?_
  rcases me_find n es with ⟨g1, g2, g3, g4⟩ | ⟨i, e', g1, g2, g3, g4, g5⟩
  · rw [g1]; exact h0 g2 g3 g4
  · rw [g3]; exact h1 i e' g1 g2 g4 (fun y => by rw [g5 y, g2])
/-- a new entry -/
theorem mpNew {t k e : TypeId} {n : Int} {p : Nat} {x : α} (ht : P.underlying t = some (.map k e)) (hk : P.underlying k = some (.int q)) (h : Sat W w (own p x :: MpL q r own es l)) (hput : ∀ v, mput (es.map Me.kv) n v = es.map Me.kv ++ [(n, v)]) {K : World → Prop}
    (hK : ∀ w', Sat W w' (MpL q r own (es ++ [⟨n, p, x⟩]) l) → K w') : RunU P (Instr.mapUpdate t (.map (some r)) (.int q n) (.pointer (some ⟨p, 0, none⟩))) w K := by
  refine mapUpd ht hk h.swap fun w' h2 => hK w' ?_
  rw [hput] at h2
  have h3 : Sat W w' (own p x :: All (es.map fun e => own e.p e.x) :: MpR q r (es.map Me.kv ++ [(n, .pointer (some ⟨p, 0, none⟩))]) :: l) := h2.sel 3 [1, 2, 0]
  have h4 : Sat W w' (All (own p x :: es.map fun e => own e.p e.x) :: MpR q r (es.map Me.kv ++ [(n, .pointer (some ⟨p, 0, none⟩))]) :: l) := sat_allc.2 h3
  have h5 : Sat W w' (All ((es.map fun e => own e.p e.x) ++ [own p x]) :: MpR q r (es.map Me.kv ++ [(n, .pointer (some ⟨p, 0, none⟩))]) :: l) := by
    refine sat_all.2 ((sat_all.1 h4).perm ?_)
    refine List.Perm.append_right _ ?_
    exact (List.perm_append_singleton _ _).symm
  unfold MpL
  rw [List.map_append, List.map_append]
  exact h5.swap
end
end Go.Pk
