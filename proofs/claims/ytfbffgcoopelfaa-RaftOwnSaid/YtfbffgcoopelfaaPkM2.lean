/- Layer of separation: a map is gone through; a key is looked up. -/
import Derived.Test.YtfbffgcoopelfaaPkM
namespace Go.Pk
open Go
section
variable {W w : World} {l : List Res} {P : Program}
theorem run_next_at (w : World) (ty : TypeId) (b bm since c0 : Nat) (seen : Array Nat) (es : Array MapEntry) (clock : Nat) (hit : w.heap[b]? = some (.mapIter (some bm) since seen c0)) (hb : w.heap[bm]? = some (.map es clock))
    (hold : ∀ x ∈ es.toList, x.born < since) (hsc : since ≤ c0) :
    ((leftOf es seen).size = 0 ∧ (Instr.next (.pointer (some ⟨b, 0, none⟩)) false ty).run P w = .ok (.tuple #[.bool false]) w) ∨
    ∃ e ∈ (leftOf es seen).toList, ∃ w1 : World, (w1 = w ∨ w1 = w.drew) ∧ (Instr.next (.pointer (some ⟨b, 0, none⟩)) false ty).run P w = .ok (.tuple #[.bool true, e.key, e.val]) { w1 with heap := w1.heap.setIfInBounds b (.mapIter (some bm) since (seen.push e.born) clock) } := by
  simp only [Instr.next, getObj, Sem.run_bind, Sem.run, hit, hb, Result.andThen, next_test_false seen es since c0 hold hsc, Bool.false_eq_true, if_false]
  unfold leftOf
  have hmem : ∀ x ∈ (Array.filter (fun e => !seen.contains e.born) es).toList, x.born < since := fun x hx => hold x (by simp at hx ⊢; exact hx.1)
  generalize Array.filter (fun e => !seen.contains e.born) es = L at hmem ⊢
  have e1 : L.filter (fun x => decide (x.born < since)) = L := Array.filter_eq_self.2 (fun x hx => by simpa using hmem x (by simpa using hx))
  have e2 : L.filter (fun x => decide (x.born ≥ since)) = #[] := by
    rw [Array.filter_eq_empty_iff]
    intro x hx
    have := hmem x (by simpa using hx)
    simp
    omega
  simp only [e1, e2, Array.append_empty]
  by_cases h0 : L.size = 0
  · left
    have : L = #[] := Array.eq_empty_of_size_eq_zero h0
    subst this
    refine ⟨rfl, ?_⟩
    simp [choose, Sem.run, Question.forced]
  · right
    have hne : L.isEmpty = false := by simp [Array.isEmpty, h0]
    simp only [hne, Bool.false_eq_true, if_false, Array.empty_append, Array.size_map]
    have hch : ∃ (j : Nat) (w1 : World), j < L.size ∧ (w1 = w ∨ w1 = w.drew) ∧ (choose (Question.mapNext L.size)).run P w = .ok j w1 := by
      by_cases hf : L.size ≤ 1
      · exact ⟨0, w, by omega, .inl rfl, by simp [choose, Sem.run, Question.forced, hf]⟩
      · exact ⟨_, w.drew, Nat.mod_lt _ (by omega), .inr rfl, by
          simp only [choose, Sem.run, Question.forced, decide_eq_true_eq, hf, if_false, Question.cut]
          rfl⟩
    obtain ⟨j, w1, hj, hal, hrun⟩ := hch
    refine ⟨L[j], by simp, w1, hal, ?_⟩
    have hit' : w1.heap[b]? = some (.mapIter (some bm) since seen c0) := by rcases hal with rfl | rfl <;> exact hit
    have hset : ∀ (o' : Obj), (setObj b o').run P w1 = .ok () { w1 with heap := w1.heap.setIfInBounds b o' } := fun o' => by
      simp only [setObj, Sem.run, hit']
    simp only [hrun, Array.getElem?_map, Array.getElem?_eq_getElem hj, Option.map_some, Sem.run_bind, hset, Result.andThen]
    rfl
def bornAt (es : List MapEntry) (i : Nat) : Nat := match es[i]? with | some e => e.born | none => 0
/-- a map that is gone through: S are the places that were handed out -/
def RgR (q : IntKind) (r b : Nat) (m : List (Int × Value)) (S : List Nat) : Res := Ex fun x : List MapEntry × Nat => All [Pure (EntsOf q m x.1 x.2 ∧ ∀ i ∈ S, i < x.1.length), Pt r (.map x.1.toArray x.2), Pt b (.mapIter (some r) x.2 (S.map (bornAt x.1)).toArray x.2)]
theorem sat_rg {q : IntKind} {r b : Nat} {m : List (Int × Value)} {S : List Nat} : Sat W w (RgR q r b m S :: l) ↔ ∃ es c0, (EntsOf q m es c0 ∧ ∀ i ∈ S, i < es.length) ∧ Sat W w (Pt r (.map es.toArray c0) :: Pt b (.mapIter (some r) c0 (S.map (bornAt es)).toArray c0) :: l) := by
  unfold RgR
  rw [sat_ex]
  constructor
  · rintro ⟨⟨es, c0⟩, h⟩
    have h1 := sat_all.1 h
    obtain ⟨h2, h3⟩ := sat_pure.1 h1
    exact ⟨es, c0, h2, h3⟩
  · rintro ⟨es, c0, h2, h3⟩
    refine ⟨(es, c0), sat_all.2 ?_⟩
    exact sat_pure.2 ⟨h2, h3⟩
theorem RgR.back {q : IntKind} {r b : Nat} {m : List (Int × Value)} {S : List Nat} (h : Sat W w (RgR q r b m S :: l)) : Sat W w (MpR q r m :: l) := by
  obtain ⟨es, c0, ⟨h1, _⟩, h2⟩ := sat_rg.1 h
  exact sat_mp.2 ⟨es, c0, h1, h2.cut 1⟩
theorem mapRange {t k e : TypeId} {q : IntKind} {r : Nat} {m : List (Int × Value)} (ht : P.underlying t = some (.map k e)) (h : Sat W w (MpR q r m :: l)) {K : Addr → World → Prop}
    (hK : ∀ b w', Sat W w' (RgR q r b m [] :: l) → K ⟨b, 0, none⟩ w') : RunK .addr P (Instr.range t (.map (some r))) w K := by
  obtain ⟨es, clock, he, hp⟩ := sat_mp.1 h
  refine ⟨⟨w.heap.size, 0, none⟩, _, run_range_map w t k e r es.toArray clock ht hp.pt, hK _ _ ?_⟩
  refine sat_rg.2 ⟨es, clock, ⟨he, by simp⟩, ?_⟩
  exact (hp.new _).swap
theorem ents_get {q : IntKind} {m : List (Int × Value)} {es : List MapEntry} {c : Nat} (h : EntsOf q m es c) {i : Nat} {e : MapEntry} (hi : es[i]? = some e) : ∃ p, m[i]? = some p ∧ e.key = .int q p.1 ∧ e.val = p.2 := by
  have h1 := congrArg (fun l => l[i]?) h.1
  simp only [List.getElem?_map, hi, Option.map_some, kvs] at h1
  cases hm : m[i]? with
  | none => rw [hm] at h1; simp at h1
  | some p =>
    rw [hm] at h1
    simp only [Option.map_some, Option.some.injEq, Prod.mk.injEq] at h1
    exact ⟨p, rfl, h1.1, h1.2⟩
theorem ents_len {q : IntKind} {m : List (Int × Value)} {es : List MapEntry} {c : Nat} (h : EntsOf q m es c) : es.length = m.length := by
  have := congrArg List.length h.1
  simpa [kvs] using this
theorem born_inj_at {es : List MapEntry} (h : (es.map (·.born)).Pairwise (· < ·)) {i j : Nat} {a b : MapEntry} (hi : es[i]? = some a) (hj : es[j]? = some b) (he : a.born = b.born) : i = j := by
  rw [List.pairwise_iff_getElem] at h
  obtain ⟨hi1, rfl⟩ := List.getElem?_eq_some_iff.1 hi
  obtain ⟨hj1, rfl⟩ := List.getElem?_eq_some_iff.1 hj
  rcases Nat.lt_trichotomy i j with h1 | h1 | h1
  · have := h i j (by simpa using hi1) (by simpa using hj1) h1
    simp at this; omega
  · exact h1
  · have := h j i (by simpa using hj1) (by simpa using hi1) h1
    simp at this; omega
/-- the next entry, whichever, or the end -/
theorem mapNext {q : IntKind} {r b : Nat} {m : List (Int × Value)} {S : List Nat} {ty : TypeId} (h : Sat W w (RgR q r b m S :: l)) {Kend : World → Prop} {K : Value → Value → World → Prop}
    (hE : (∀ i, i < m.length → i ∈ S) → Sat W w (RgR q r b m S :: l) → Kend w)
    (hK : ∀ i p w', m[i]? = some p → i ∉ S → Sat W w' (RgR q r b m (S ++ [i]) :: l) → K (.int q p.1) p.2 w') :
    NextP P (Instr.next (.pointer (some ⟨b, 0, none⟩)) false ty) w Kend K := by
  obtain ⟨es, c0, ⟨he, hS⟩, hp⟩ := sat_rg.1 h
  have hborn : ∀ i e, es[i]? = some e → (((S.map (bornAt es)).toArray.contains e.born) = true ↔ i ∈ S) := by
    intro i e hi
    rw [Array.contains_eq_mem, decide_eq_true_eq, List.mem_toArray, List.mem_map]
    constructor
    · rintro ⟨j, hj, hje⟩
      have hjl := hS j hj
      have hj2 : es[j]? = some es[j] := List.getElem?_eq_getElem hjl
      have : es[j].born = e.born := by simpa [bornAt, hj2] using hje
      rw [← born_inj_at he.2.1 hj2 hi this]; exact hj
    · intro hiS
      exact ⟨i, hiS, by simp [bornAt, hi]⟩
  rcases run_next_at (P := P) w ty b r c0 c0 (S.map (bornAt es)).toArray es.toArray c0 hp.tail.pt hp.pt (by simpa using he.2.2) (Nat.le_refl _) with ⟨h0, hr⟩ | ⟨e, hm, w1, hw, hr⟩
  · refine ⟨_, w, hr, .inl ⟨rfl, hE (fun i hi => ?_) h⟩⟩
    have hil : i < es.length := by rw [ents_len he]; exact hi
    have := all_seen es.toArray _ h0 es[i] (by simp)
    exact (hborn i _ (List.getElem?_eq_getElem hil)).1 this
  · obtain ⟨hm1, hm2⟩ := mem_left hm
    obtain ⟨i, hi⟩ := List.getElem?_of_mem (show e ∈ es by simpa using hm1)
    obtain ⟨p, hp1, hp2, hp3⟩ := ents_get he hi
    have hiS : i ∉ S := fun hh => by rw [(hborn i e hi).2 hh] at hm2; cases hm2
    refine ⟨_, _, hr, .inr ⟨e.key, e.val, rfl, ?_⟩⟩
    rw [hp2, hp3]
    have hs1 : Sat W w1 (Pt b (.mapIter (some r) c0 (S.map (bornAt es)).toArray c0) :: Pt r (.map es.toArray c0) :: l) := by
      rcases hw with rfl | rfl
      · exact hp.swap
      · exact hp.drew.swap
    refine hK i p _ hp1 hiS (sat_rg.2 ⟨es, c0, ⟨he, ?_⟩, ?_⟩)
    · intro j hj
      rcases List.mem_append.1 hj with hj | hj
      · exact hS j hj
      · simp at hj; subst hj; exact (List.getElem?_eq_some_iff.1 hi).1
    · have e1 : (S.map (bornAt es)).toArray.push e.born = ((S ++ [i]).map (bornAt es)).toArray := by
        simp [bornAt, hi]
      rw [e1]
      exact (hs1.setPt).swap
/-- the entry that has come up last -/
theorem mapEnt {q : IntKind} {r b : Nat} {m : List (Int × Value)} {S : List Nat} {i : Nat} {p : Int × Value} (hi : m[i]? = some p) (h : Sat W w (RgR q r b m (S ++ [i]) :: l)) {K : Value → World → Prop} (hK : K (.tuple #[.int q p.1, p.2]) w) :
    RunV P (Instr.entry (.pointer (some ⟨b, 0, none⟩))) w K := by
  obtain ⟨es, c0, ⟨he, hS⟩, hp⟩ := sat_rg.1 h
  have hlt : i < es.length := hS i (by simp)
  have hei : es[i]? = some es[i] := List.getElem?_eq_getElem hlt
  obtain ⟨p', hp1, hp2, hp3⟩ := ents_get he hei
  rw [hi] at hp1
  cases hp1
  have h1 : (getObj b).run P w = .ok (.mapIter (some r) c0 ((S ++ [i]).map (bornAt es)).toArray c0) w := by
    have := hp.tail.pt
    simp [getObj, Sem.run, this]
  have hb : ((S ++ [i]).map (bornAt es)).toArray.back? = some es[i].born := by
    simp [bornAt, hei]
  have hf : es.toArray.find? (fun e => e.born == es[i].born) = some es[i] := by
    rw [List.find?_toArray]
    refine find_born es[i] es ?_ (List.getElem_mem hlt)
    exact he.2.1.imp fun h => Nat.ne_of_lt h
  refine ⟨_, w, ?_, hK⟩
  simp only [Instr.entry, Sem.run_bind, h1, Result.andThen, hb, run_getPt hp, bne_self_eq_false, Bool.false_eq_true, if_false, hf, Sem.run_pure, hp2, hp3]
/-- a key is looked up -/
theorem mapLook {t k e : TypeId} {q : IntKind} {r : Nat} {m : List (Int × Value)} {a : Int} {z : Value} {ok : Bool} (ht : P.underlying t = some (.map k e)) (hk : P.underlying k = some (.int q)) (hz : ∀ w, (zeroValue e).run P w = .ok z w) (h : Sat W w (MpR q r m :: l)) {K : Value → World → Prop}
    (hK : K (match mget m a with | some v => if ok then .tuple #[v, .bool true] else v | none => if ok then .tuple #[z, .bool false] else z) w) :
    RunV P (Instr.lookup t (.map (some r)) (.int q a) ok) w K := by
  obtain ⟨es, clock, ⟨he1, he2, he3⟩, hp⟩ := sat_mp.1 h
  have hck : ∀ b n, (Instr.checkKey b (n + 1) k (.int q a)).run P w = .ok () w := fun b n => by
    simp [Instr.checkKey, run_underlying hk]
  refine ⟨_, w, ?_, hK⟩
  simp only [Instr.lookup, Sem.run_bind, run_underlying ht, Result.andThen, run_getPt hp, Sem.run_pure, hck _ 9999]
  simp only [Instr.findKey, Sem.run_bind, run_underlying hk, Result.andThen, List.toList_toArray]
  rcases findNow_int es m 0 he1 (q := q) (a := a) with ⟨h1, h2, h3⟩ | ⟨j, e', h1, h2, h3, h4, h5⟩
  · simp only [h1, h2, Sem.run_pure, Sem.run_bind, Result.andThen, hz]
  · simp only [h3, h4, Sem.run_pure, Result.andThen]
    cases ok <;> rfl
end
end Go.Pk
