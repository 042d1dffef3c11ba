/- Layer of separation: maps whose keys are whole numbers. -/
import Derived.Test.YtfbffgcoopelfaaPkS6
import Derived.Laws.IdiomRangeMap
namespace Go.Pk
open Go
section
variable {W w : World} {l : List Res} {P : Program}
theorem Sat.setPt {b : Nat} {o o' : Obj} (h : Sat W w (Pt b o :: l)) : Sat W { w with heap := w.heap.setIfInBounds b o' } (Pt b o' :: l) := by
  refine h.upd rfl rfl rfl (by simp) ?_
  intro h1 hb hle
  have hw := hle b _ hb
  have hlt : b < w.heap.size := (Array.getElem?_eq_some_iff.1 hw).1
  refine ⟨fun x => if x = b then some o' else none, by simp [Pt], ?_, ?_, ?_⟩
  · intro x o hx
    simp only at hx
    split at hx
    · rename_i he
      cases hx; subst he
      simp only [hpOf]
      rw [Array.getElem?_setIfInBounds_self]; simp [hlt]
    · cases hx
  · intro x hx
    simp only at hx
    split at hx
    · rename_i he; subst he; left; rw [hb]; simp
    · exact absurd rfl hx
  · intro x hx hn
    have hne : b ≠ x := fun he => by subst he; rw [hb] at hn; cases hn
    rw [Array.getElem?_setIfInBounds_ne hne]
/-- the entries by key and value -/
def kvs (q : IntKind) (m : List (Int × Value)) : List (Value × Value) := m.map fun p => (.int q p.1, p.2)
def EntsOf (q : IntKind) (m : List (Int × Value)) (es : List MapEntry) (clock : Nat) : Prop :=
  es.map (fun e => (e.key, e.val)) = kvs q m ∧ (es.map (·.born)).Pairwise (· < ·) ∧ ∀ e ∈ es, e.born < clock
def MpR (q : IntKind) (r : Nat) (m : List (Int × Value)) : Res := fun h => ∃ (es : List MapEntry) (clock : Nat), h r = some (.map es.toArray clock) ∧ EntsOf q m es clock
theorem sat_mp {q : IntKind} {r : Nat} {m : List (Int × Value)} : Sat W w (MpR q r m :: l) ↔ ∃ es clock, EntsOf q m es clock ∧ Sat W w (Pt r (.map es.toArray clock) :: l) := by
  constructor
  · intro h
    obtain ⟨h1, h2, d, l1, l2, ⟨es, clock, r1, he⟩, s⟩ := h.star
    exact ⟨es, clock, he, h.os, h.tape, h.output, h.size, h1, h2, d, l1, l2, r1, s⟩
  · rintro ⟨es, clock, he, h⟩
    obtain ⟨h1, h2, d, l1, l2, r1, s⟩ := h.star
    exact ⟨h.os, h.tape, h.output, h.size, h1, h2, d, l1, l2, ⟨es, clock, r1, he⟩, s⟩
/-- what a key is put to -/
def mput : List (Int × Value) → Int → Value → List (Int × Value)
  | [], a, v => [(a, v)]
  | p :: m, a, v => if p.1 = a then (a, v) :: m else p :: mput m a v
def mget : List (Int × Value) → Int → Option Value
  | [], _ => none
  | p :: m, a => if p.1 = a then some p.2 else mget m a
theorem findNow_int {q : IntKind} {a : Int} : ∀ (es : List MapEntry) (m : List (Int × Value)) (i : Nat), es.map (fun e => (e.key, e.val)) = kvs q m →
    (Instr.findNow (.int q) (.int q a) es i = some none ∧ mget m a = none ∧ ∀ v, mput m a v = m ++ [(a, v)]) ∨
    ∃ j e, es[j]? = some e ∧ e.key = .int q a ∧ Instr.findNow (.int q) (.int q a) es i = some (some (i + j, e.val)) ∧ mget m a = some e.val ∧ ∀ v, (es.modify j fun e => { e with val := v }).map (fun e => (e.key, e.val)) = kvs q (mput m a v)
  | [], m, i, h => by
    cases m with
    | nil => exact .inl ⟨rfl, rfl, fun _ => rfl⟩
    | cons p m => simp [kvs] at h
  | e :: es, m, i, h => by
    cases m with
    | nil => simp [kvs] at h
    | cons p m =>
      simp only [kvs, List.map_cons, List.cons.injEq, Prod.mk.injEq] at h
      obtain ⟨⟨hk, hv⟩, ht⟩ := h
      by_cases hp : p.1 = a
      · right
        refine ⟨0, e, rfl, by rw [hk, hp], ?_, ?_, fun v => ?_⟩
        · simp [Instr.findNow, Instr.sameNow, hk, hp]
        · simp [mget, hp, hv]
        · simp only [List.modify_cons, mput, if_pos hp, kvs, List.map_cons, if_true]
          rw [hk, hp]
          simp only [List.cons.injEq, true_and]
          exact ht
      · have hne : (a == p.1) = false := by simp; exact fun h => hp h.symm
        have hf : Instr.findNow (.int q) (.int q a) (e :: es) i = Instr.findNow (.int q) (.int q a) es (i + 1) := by
          simp [Instr.findNow, Instr.sameNow, hk, hne]
        rcases findNow_int es m (i + 1) ht with ⟨h1, h2, h3⟩ | ⟨j, e', h1, h2, h3, h4, h5⟩
        · left
          refine ⟨by rw [hf]; exact h1, by simp [mget, hp, h2], fun v => by simp [mput, hp, h3]⟩
        · right
          refine ⟨j + 1, e', by simpa using h1, h2, by rw [hf, h3]; congr 3; omega, by simp [mget, hp, h4], fun v => ?_⟩
          simp only [List.modify_succ_cons, List.map_cons, mput, if_neg hp, kvs]
          rw [hk, hv]
          simp only [List.cons.injEq, true_and]
          exact h5 v
theorem run_getPt {b : Nat} {es : List MapEntry} {c : Nat} (h : Sat W w (Pt b (.map es.toArray c) :: l)) : (getObj b).run P w = .ok (.map es.toArray c) w := by
  have := h.pt
  simp [getObj, Sem.run, this]
theorem mkMap {t k e : TypeId} (_ht : P.underlying t = some (.map k e)) (h : Sat W w l) (q : IntKind) {K : Option Nat → World → Prop} (hK : ∀ r w', Sat W w' (MpR q r [] :: l) → K (some r) w') (hr : ∀ w, (Instr.makeMap t none).run P w = .ok (.map (some w.heap.size)) (w.alloc (.map #[] 0))) :
    RunK .map P (Instr.makeMap t none) w K :=
  ⟨some w.heap.size, _, hr w, hK _ _ (sat_mp.2 ⟨[], 0, ⟨rfl, by simp, by simp⟩, h.new _⟩)⟩
theorem mapUpd {t k e : TypeId} {q : IntKind} {r : Nat} {m : List (Int × Value)} {a : Int} {v : Value} (ht : P.underlying t = some (.map k e)) (hk : P.underlying k = some (.int q)) (h : Sat W w (MpR q r m :: l)) {K : World → Prop}
    (hK : ∀ w', Sat W w' (MpR q r (mput m a v) :: l) → K w') : RunU P (Instr.mapUpdate t (.map (some r)) (.int q a) v) w K := by
  obtain ⟨es, clock, ⟨he1, he2, he3⟩, hp⟩ := sat_mp.1 h
  have hpt := hp.pt
  have hck : ∀ n, (Instr.checkKey false (n + 1) k (.int q a)).run P w = .ok () w := fun n => by
    simp [Instr.checkKey, run_underlying hk]
  have hset : ∀ o', (setObj r o').run P w = .ok () { w with heap := w.heap.setIfInBounds r o' } := fun o' => by
    simp [setObj, Sem.run, hpt]
  rcases findNow_int es m 0 he1 (q := q) (a := a) with ⟨h1, h2, h3⟩ | ⟨j, e', h1, h2, h3, h4, h5⟩
  · refine ⟨{ w with heap := w.heap.setIfInBounds r (.map (es.toArray.push { key := .int q a, val := v, born := clock }) (clock + 1)) }, ?_, hK _ ?_⟩
    · simp only [Instr.mapUpdate, Sem.run_bind, run_underlying ht, Result.andThen, run_getPt hp, hck 9999]
      simp only [Instr.findKey, Sem.run_bind, run_underlying hk, Result.andThen, List.toList_toArray, h1, Sem.run_pure]
      exact hset _
    · rw [h3]
      refine sat_mp.2 ⟨es ++ [{ key := .int q a, val := v, born := clock }], clock + 1, ⟨?_, ?_, ?_⟩, ?_⟩
      · simp [kvs, he1]
      · rw [List.map_append, List.pairwise_append]
        refine ⟨he2, by simp, fun x hx y hy => ?_⟩
        obtain ⟨e0, h0, rfl⟩ := List.mem_map.1 hx
        simp at hy; subst hy
        exact he3 e0 h0
      · intro e0 h0
        rcases List.mem_append.1 h0 with h0 | h0
        · have := he3 e0 h0; omega
        · simp at h0; subst h0; simp
      · have e1 : es.toArray.push { key := .int q a, val := v, born := clock } = (es ++ [{ key := .int q a, val := v, born := clock }] : List MapEntry).toArray := by simp
        rw [e1]
        exact hp.setPt
  · have hj : es.toArray[j]? = some e' := by simpa using h1
    refine ⟨{ w with heap := w.heap.setIfInBounds r (.map (es.toArray.modify j fun e => { e with key := .int q a, val := v }) clock) }, ?_, hK _ ?_⟩
    · simp only [Instr.mapUpdate, Sem.run_bind, run_underlying ht, Result.andThen, run_getPt hp, hck 9999]
      simp only [Instr.findKey, Sem.run_bind, run_underlying hk, Result.andThen, List.toList_toArray, h3, Sem.run_pure, Nat.zero_add, hj]
      have hks : (Instr.keyThatStays ((Option.map (fun x => x.key) (some e')).getD (.int q a)) (.int q a)).run P w = .ok (.int q a) w := by
        simp [Instr.keyThatStays, Instr.sameBits, h2]
      rw [hks]
      exact hset _
    · have e1 : es.toArray.modify j (fun e => { e with key := .int q a, val := v }) = (es.modify j fun e => { e with val := v }).toArray := by
        apply Array.toList_inj.1
        rw [Array.toList_modify]
        apply List.ext_getElem?
        intro i
        simp only [List.getElem?_modify]
        by_cases hij : j = i
        · subst hij
          simp [h1, h2]
        · simp [hij]
      rw [e1]
      refine sat_mp.2 ⟨_, clock, ⟨h5 v, ?_, ?_⟩, hp.setPt⟩
      · have hb : (es.modify j fun e => { e with val := v }).map (·.born) = es.map (·.born) := by
          apply List.ext_getElem?
          intro i
          simp only [List.getElem?_map, List.getElem?_modify]
          by_cases hij : j = i
          · subst hij; simp [h1]
          · simp [hij]
        rw [hb]; exact he2
      · intro e0 h0
        obtain ⟨i, hi⟩ := List.getElem?_of_mem h0
        rw [List.getElem?_modify] at hi
        cases hx : es[i]? with
        | none => rw [hx] at hi; simp at hi
        | some e1 =>
          rw [hx] at hi
          simp only [Option.map_eq_map, Option.map_some, Option.some.injEq] at hi
          have := he3 e1 (List.mem_of_getElem? hx)
          subst hi
          split <;> exact this
end
end Go.Pk
