/- Layer 9: where a transaction is open; what was aborted. -/
import Derived.Test.YtnjadekngjgjcaaGreatDoorUF
namespace Go.Proofs.YtnjadekngjgjcaaGreatDoor
open Go Go.Pk
section
variable {W w : World} {l : List Res} {α : Type} {own : Nat → α → Res} {es : List (Me α)}
theorem ow_open {i : Nat} {e : Me α} (hi : es[i]? = some e) (h : Sat W w (All (es.map fun e => own e.p e.x) :: l)) : Sat W w (own e.p e.x :: All ((es.map fun e => own e.p e.x).eraseIdx i) :: l) :=
  own_split (i := i) (R := own e.p e.x) (by rw [List.getElem?_map, hi]; rfl) h
end
/-- the least of what is open, among some -/
def Least (ps : List (Int × Pd)) (S : List Nat) (x : Int) (any : Bool) : Prop :=
  if any then (∃ i ∈ S, ∃ p, ps[i]? = some p ∧ p.2.opn = x ∧ 0 ≤ x) ∧ ∀ i ∈ S, ∀ p, ps[i]? = some p → 0 ≤ p.2.opn → x ≤ p.2.opn
  else x = 0 ∧ ∀ i ∈ S, ∀ p, ps[i]? = some p → p.2.opn < 0
theorem unst_none : ∀ {ps : List (Int × Pd)}, Pt9.unstL ps = none ↔ ∀ p ∈ ps, p.2.opn < 0
  | [] => by simp [Pt9.unstL]
  | p :: ps => by
    have ih := unst_none (ps := ps)
    unfold Pt9.unstL
    cases h : Pt9.unstL ps with
    | none =>
      have h1 := ih.1 h
      by_cases c : p.2.opn ≥ 0
      · simp only [if_pos c]
        constructor
        · intro h; cases h
        · intro h; have := h p (by simp); omega
      · simp only [if_neg c, true_iff]
        intro q hq
        rcases List.mem_cons.1 hq with rfl | hq
        · omega
        · exact h1 q hq
    | some x =>
      have h1 : ¬ ∀ p ∈ ps, p.2.opn < 0 := fun hh => by rw [ih.2 hh] at h; cases h
      simp only
      constructor
      · intro hh; split at hh <;> cases hh
      · intro hh; exact absurd (fun q hq => hh q (List.mem_cons_of_mem _ hq)) h1
theorem unst_some : ∀ {ps : List (Int × Pd)} {x : Int}, Pt9.unstL ps = some x → (∃ p ∈ ps, p.2.opn = x ∧ 0 ≤ x) ∧ ∀ p ∈ ps, 0 ≤ p.2.opn → x ≤ p.2.opn
  | [], x => by simp [Pt9.unstL]
  | p :: ps, x => by
    intro h
    unfold Pt9.unstL at h
    cases h2 : Pt9.unstL ps with
    | none =>
      rw [h2] at h
      simp only at h
      split at h
      · rename_i c
        cases h
        refine ⟨⟨p, by simp, rfl, c⟩, fun q hq hq0 => ?_⟩
        rcases List.mem_cons.1 hq with rfl | hq
        · omega
        · have := unst_none.1 h2 q hq; omega
      · cases h
    | some y =>
      rw [h2] at h
      simp only at h
      obtain ⟨⟨q, hq, hq1, hq2⟩, hq3⟩ := unst_some h2
      split at h
      · rename_i c
        cases h
        refine ⟨⟨p, by simp, rfl, c.1⟩, fun r hr hr0 => ?_⟩
        rcases List.mem_cons.1 hr with rfl | hr
        · omega
        · have := hq3 r hr hr0; omega
      · rename_i c
        cases h
        refine ⟨⟨q, List.mem_cons_of_mem _ hq, hq1, hq2⟩, fun r hr hr0 => ?_⟩
        rcases List.mem_cons.1 hr with rfl | hr
        · by_cases c3 : r.2.opn < x
          · exact absurd ⟨hr0, c3⟩ c
          · omega
        · exact hq3 r hr hr0
theorem least_all {ps : List (Int × Pd)} {S : List Nat} {x : Int} {any : Bool} (h : Least ps S x any) (hall : ∀ i, i < ps.length → i ∈ S) :
    (match Pt9.unstL ps with | some x => (x, true) | none => (0, false)) = (x, any) := by
  unfold Least at h
  cases any with
  | false =>
    simp only [Bool.false_eq_true, if_false] at h
    have : Pt9.unstL ps = none := unst_none.2 fun p hp => by
      obtain ⟨i, hi, he⟩ := List.mem_iff_getElem.1 hp
      exact h.2 i (hall i hi) p (by rw [← he]; exact List.getElem?_eq_getElem hi)
    rw [this, h.1]
  | true =>
    simp only [if_true] at h
    obtain ⟨⟨i, hi, p, hp, hx, h0⟩, h2⟩ := h
    cases hu : Pt9.unstL ps with
    | none =>
      have := unst_none.1 hu p (List.mem_of_getElem? hp)
      omega
    | some y =>
      obtain ⟨⟨q, hq, hq1, hq2⟩, hq3⟩ := unst_some hu
      have a1 := hq3 p (List.mem_of_getElem? hp) (by omega)
      obtain ⟨j, hj, he⟩ := List.mem_iff_getElem.1 hq
      have a2 := h2 j (hall j hj) q (by rw [← he]; exact List.getElem?_eq_getElem hj) (by omega)
      have : y = x := by omega
      rw [this]
section
variable {W w : World} {l : List Res} {K : Value → World → Prop} {a : Nat} {t : Pt9}
theorem unst_ok (h : Sat W w (PtR a t :: l)) (hK : ∀ w', Sat W w' (PtR a t :: l) → K (match t.unst with | some x => .tuple #[.int .i64 x, .bool true] | none => .tuple #[.int .i64 0, .bool false]) w') :
    CallP P F_prod_Table_Unstable [.pointer (some ⟨a, 0, none⟩)] w K := by
  apply c_prod_Table_Unstable
  unfold S_prod_Table_Unstable
  refine ifB_intro (fun c => absurd c (by simp)) fun _ => ?_
  obtain ⟨m, s, es, hes, h1⟩ := sat_pt.1 h
  refine ldX h1 0 (x := some m) ?_
  have h2 : Sat W w (MpR .u64 m (es.map Me.kv) :: Blk a [.map (some m), s.v] T_prod_Table :: All (es.map fun e => PdR e.p e.x) :: SlR T_api_Abort 3 s (elAb.flat t.ab) :: l) := h1.sel 4 [1, 0, 2, 3]
  refine mapRange (k := T_uint64) (e := T_p_prod_producer) (by kernel_rfl) h2 fun ib w3 h3 => ?_
  let sc : World → Nat := fun w => match w.heap[ib]? with | some (.mapIter _ _ s _) => s.size | _ => 0
  have hsc : ∀ {w : World} {S : List Nat} {L : List Res}, Sat W w (RgR .u64 m ib (es.map Me.kv) S :: L) → sc w = S.length := fun h => by
    obtain ⟨_, c0, _, h⟩ := sat_rg.1 h
    have e := h.tail.pt
    simp only [sc, e, List.size_toArray, List.length_map]
  have hpl : t.ps.length = es.length := by rw [← hes]; simp
  refine ⟨fun z w' => ∃ S : List Nat, S.Nodup ∧ (∀ i ∈ S, i < es.length) ∧ Least t.ps S z.1 z.2.1 ∧ Sat W w' (RgR .u64 m ib (es.map Me.kv) S :: Blk a [.map (some m), s.v] T_prod_Table :: All (es.map fun e => PdR e.p e.x) :: SlR T_api_Abort 3 s (elAb.flat t.ab) :: l),
    fun _ w' => es.length - sc w', ⟨[], List.nodup_nil, by simp, by unfold Least; simp, h3⟩, ?_⟩
  rintro ⟨x, any, u⟩ w4 ⟨S, s1, s2, hx, h4⟩
  simp only at hx ⊢
  have hsl := nodup_len s1 s2
  refine mapNext h4 (fun hall h5 => ?_) fun i p w5 hp hiS h5 => ?_
  · have e := least_all hx (fun i hi => hall i (by simpa [hpl] using hi))
    have h6 := RgR.back h5
    have h7 := sat_pt.2 ⟨m, s, es, hes, h6.sel 4 [1, 0, 2, 3]⟩
    have := hK w4 h7
    unfold Pt9.unst at this
    cases hu : Pt9.unstL t.ps with
    | none => rw [hu] at this e; simp only at this e; cases e; exact this
    | some y => rw [hu] at this e; simp only at this e; cases e; exact this
  · have hil : i < es.length := by have := (List.getElem?_eq_some_iff.1 hp).1; simpa using this
    have hei : es[i]? = some es[i] := List.getElem?_eq_getElem hil
    generalize es[i] = e at hei
    have hpe : p = e.kv := by
      rw [List.getElem?_map, hei] at hp
      exact (Option.some.inj hp).symm
    have hti : t.ps[i]? = some e.kx := by rw [← hes, List.getElem?_map, hei]; rfl
    refine ⟨_, rfl, _, rfl, ?_⟩
    refine mapEnt hp h5 ?_
    subst hpe
    refine ⟨.int .u64 e.k, some ⟨e.p, 0, none⟩, rfl, ?_⟩
    have h6 := ow_open hei (h5.sel 4 [2, 0, 1, 3])
    obtain ⟨q, h7⟩ := sat_pd.1 h6
    have n1 : (S ++ [i]).Nodup := List.nodup_append.2 ⟨s1, by simp, fun a ha c hc => by simp at hc; subst hc; exact fun h => hiS (h ▸ ha)⟩
    have n2 : ∀ j ∈ S ++ [i], j < es.length := fun j hj => by
      rcases List.mem_append.1 hj with hj | hj
      · exact s2 j hj
      · simp at hj; omega
    have n3 := nodup_len n1 n2
    rw [List.length_append, List.length_singleton] at n3
    have e4 := hsc h4
    have e5 := hsc h5
    rw [List.length_append, List.length_singleton] at e5
    have step : ∀ {x' any'}, Least t.ps (S ++ [i]) x' any' → (∃ S : List Nat, S.Nodup ∧ (∀ i ∈ S, i < es.length) ∧ Least t.ps S x' any' ∧ Sat W w5 (RgR .u64 m ib (es.map Me.kv) S :: Blk a [.map (some m), s.v] T_prod_Table :: All (es.map fun e => PdR e.p e.x) :: SlR T_api_Abort 3 s (elAb.flat t.ab) :: l)) ∧ es.length - sc w5 < es.length - sc w4 := fun hl => ⟨⟨S ++ [i], n1, n2, hl, h5⟩, by rw [e4, e5]; omega⟩
    have hmem : ∀ {j p}, j ∈ S ++ [i] → t.ps[j]? = some p → (j ∈ S) ∨ p = e.kx := fun {j p'} hj hp' => by
      rcases List.mem_append.1 hj with hj | hj
      · exact .inl hj
      · rw [List.mem_singleton.1 hj, hti] at hp'; exact .inr (Option.some.inj hp').symm
    refine ldX h7 3 (x := e.x.opn) ?_
    refine ifB_dec (fun c1 => ?_) fun c1 => ?_
    · cases any with
      | false =>
        refine ifB_intro (fun _ => ?_) fun c => absurd c (by simp)
        refine ldX h7 3 (x := e.x.opn) ?_
        refine step ?_
        unfold Least at hx ⊢
        simp only [Bool.false_eq_true, if_false, if_true] at hx ⊢
        refine ⟨⟨i, by simp, e.kx, hti, rfl, c1⟩, fun j hj p hp h0 => ?_⟩
        rcases hmem hj hp with hj | rfl
        · have := hx.2 j hj p hp; omega
        · exact Int.le_refl _
      | true =>
        refine ifB_intro (fun c => absurd c (by simp)) fun _ => ?_
        refine ldX h7 3 (x := e.x.opn) ?_
        unfold Least at hx
        simp only [if_true] at hx
        obtain ⟨⟨k, hk, pk, hpk, hpx, hp0⟩, hmin⟩ := hx
        refine ifB_dec (fun c2 => ?_) fun c2 => ?_
        · refine ldX h7 3 (x := e.x.opn) ?_
          refine step ?_
          unfold Least
          simp only [if_true]
          refine ⟨⟨i, by simp, e.kx, hti, rfl, c1⟩, fun j hj p hp h0 => ?_⟩
          rcases hmem hj hp with hj | rfl
          · have := hmin j hj p hp h0; omega
          · exact Int.le_refl _
        · refine step ?_
          unfold Least
          simp only [if_true]
          refine ⟨⟨k, by simp [hk], pk, hpk, hpx, hp0⟩, fun j hj p hp h0 => ?_⟩
          rcases hmem hj hp with hj | rfl
          · exact hmin j hj p hp h0
          · show x ≤ e.x.opn; omega
    · refine step ?_
      unfold Least at hx ⊢
      cases any with
      | false =>
        simp only [Bool.false_eq_true, if_false] at hx ⊢
        refine ⟨hx.1, fun j hj p hp => ?_⟩
        rcases hmem hj hp with hj | rfl
        · exact hx.2 j hj p hp
        · show e.x.opn < 0; omega
      | true =>
        simp only [if_true] at hx ⊢
        obtain ⟨⟨k, hk, pk, hpk, hpx, hp0⟩, hmin⟩ := hx
        refine ⟨⟨k, by simp [hk], pk, hpk, hpx, hp0⟩, fun j hj p hp h0 => ?_⟩
        rcases hmem hj hp with hj | rfl
        · exact hmin j hj p hp h0
        · exact absurd h0 (by show ¬ 0 ≤ e.x.opn; omega)
end
end Go.Proofs.YtnjadekngjgjcaaGreatDoor
