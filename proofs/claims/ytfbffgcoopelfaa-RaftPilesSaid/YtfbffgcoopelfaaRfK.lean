/- Layer 12: votes are counted, and asked for. -/
import Derived.Test.YtfbffgcoopelfaaRfJ
namespace Go.Proofs.Ytfbffgcoopelfaa
open Go Go.Pk
def yesIn (v : List (Int × Bool)) (S : List Nat) : Int := ((S.filter fun i => match v[i]? with | some p => p.2 | none => false).length : Int)
theorem cntRange : ∀ v : List (Int × Bool), ((List.range v.length).filter fun i => match v[i]? with | some p => p.2 | none => false).length = (v.filter fun p => p.2).length
  | [] => rfl
  | x :: v => by
    have ih := cntRange v
    rw [List.length_cons, List.range_succ_eq_map, List.filter_cons, List.filter_map]
    have e : ((fun i => match (x :: v)[i]? with | some p => p.2 | none => false) ∘ Nat.succ) = fun i => match v[i]? with | some p => p.2 | none => false := by
      funext i
      simp
    rw [e, List.filter_cons]
    cases hx : x.2 <;> simp [hx, ih]
theorem yesIn_all {v : List (Int × Bool)} {S : List Nat} (hn : S.Nodup) (hb : ∀ i ∈ S, i < v.length) (ha : ∀ i, i < v.length → i ∈ S) : yesIn v S = Rs.yes v := by
  have hp : S.Perm (List.range v.length) := (List.perm_ext_iff_of_nodup hn List.nodup_range).2 fun a => by
    rw [List.mem_range]; exact ⟨hb a, ha a⟩
  unfold yesIn Rs.yes
  rw [(hp.filter _).length_eq, cntRange]
theorem yesIn_snoc (v : List (Int × Bool)) (S : List Nat) (i : Nat) (x : Int × Bool) (hx : v[i]? = some x) : yesIn v (S ++ [i]) = yesIn v S + (if x.2 = true then 1 else 0) := by
  unfold yesIn
  rw [List.filter_append, List.length_append]
  cases hb : x.2 <;> simp [hx, hb]
theorem yesIn_le (v : List (Int × Bool)) (S : List Nat) : 0 ≤ yesIn v S ∧ yesIn v S ≤ S.length := by
  unfold yesIn
  have := List.length_filter_le (fun i => match v[i]? with | some p => p.2 | none => false) S
  omega
theorem nodup_len {S : List Nat} {n : Nat} (hn : S.Nodup) (hb : ∀ i ∈ S, i < n) : S.length ≤ n := by
  have hp : (List.range n).Perm (S ++ (List.range n).filter fun i => decide (i ∉ S)) := by
    refine (List.perm_ext_iff_of_nodup List.nodup_range ?_).2 fun a => ?_
    · refine List.nodup_append.2 ⟨hn, List.nodup_range.filter _, fun a ha b hb he => ?_⟩
      subst he
      simp only [List.mem_filter, decide_eq_true_eq] at hb
      exact hb.2 ha
    · simp only [List.mem_range, List.mem_append, List.mem_filter, decide_eq_true_eq]
      constructor
      · intro ha
        by_cases hx : a ∈ S
        · exact .inl hx
        · exact .inr ⟨ha, hx⟩
      · rintro (ha | ha)
        · exact hb a ha
        · exact ha.1
  have := hp.length_eq
  rw [List.length_range, List.length_append] at this
  omega
section
variable {W w : World} {l : List Res} {K : Value → World → Prop} {b : Nat} {r : Rs} {p : RsP}
abbrev kv (v : List (Int × Bool)) : List (Int × Value) := v.map fun x => (x.1, .bool x.2)
theorem vt_some {v : List (Int × Bool)} (hv : r.votes = some v) (h : Sat W w (RaL b r p l)) : ∃ m, p.votes = some m ∧ Sat W w (MpR .i64 m (kv v) :: Blk b (rcells r p) T_raft_Raft :: BsR p.snap r.hd.snap :: PrR T_api_Entry p.log r.hd.log :: IsR p.next r.next :: IsR p.mtch r.mtch :: MsR p.msgs r.msgs :: BsR p.rsnap r.rsnap :: PrR T_api_Commit p.commits r.commits :: l) := by
  have h1 : Sat W w (VtR p.votes r.votes :: Blk b (rcells r p) T_raft_Raft :: BsR p.snap r.hd.snap :: PrR T_api_Entry p.log r.hd.log :: IsR p.next r.next :: IsR p.mtch r.mtch :: MsR p.msgs r.msgs :: BsR p.rsnap r.rsnap :: PrR T_api_Commit p.commits r.commits :: l) := h.up 3
  cases hp : p.votes with
  | none =>
    rw [hp, hv] at h1
    exact (sat_pure.1 h1).1.elim
  | some m =>
    rw [hp, hv] at h1
    exact ⟨m, rfl, h1⟩
theorem count_base {v : List (Int × Bool)} (h : Sat W w (RaR b r :: l)) (hs : Sane r) (hv : r.votes = some v) (hvl : v.length ≤ 1000)
    (h0 : 2 * Rs.yes v ≤ r.n → ∀ w', Sat W w' (RaR b r :: l) → K (.tuple #[]) w')
    (h1 : ¬ 2 * Rs.yes v ≤ r.n → r.role = 1 → ∀ w', Sat W w' (RaR b r :: l) → CallP P F_raft_Raft_ask [.pointer (some ⟨b, 0, none⟩), .int .i64 2] w' fun v w => TupP [] v fun _ => K (.tuple #[]) w)
    (h2 : ¬ 2 * Rs.yes v ≤ r.n → r.role ≠ 1 → ∀ w', Sat W w' (RaR b r :: l) → CallP P F_raft_Raft_lead [.pointer (some ⟨b, 0, none⟩)] w' fun v w => TupP [] v fun _ => K (.tuple #[]) w) :
    CallP P F_raft_Raft_count [.pointer (some ⟨b, 0, none⟩)] w K := by
  apply c_raft_Raft_count
  unfold S_raft_Raft_count
  obtain ⟨p, g1⟩ := sat_ra.1 h
  refine ldX g1 14 (x := p.votes) ?_
  obtain ⟨m, hm, g2⟩ := vt_some hv g1
  rw [hm]
  refine mapRange (k := T_int) (e := T_bool) (by kernel_rfl) g2 fun ib w3 g3 => ?_
  let sc : World → Nat := fun w => match w.heap[ib]? with | some (.mapIter _ _ s _) => s.size | _ => 0
  have hsc : ∀ {w : World} {S : List Nat} {L : List Res}, Sat W w (RgR .i64 m ib (kv v) S :: L) → sc w = S.length := fun h => by
    obtain ⟨es, c0, _, h⟩ := sat_rg.1 h
    have e := h.tail.pt
    simp only [sc, e, List.size_toArray, List.length_map]
  refine ⟨fun z w' => ∃ S : List Nat, S.Nodup ∧ (∀ i ∈ S, i < v.length) ∧ z.1 = yesIn v S ∧ Sat W w' (RgR .i64 m ib (kv v) S :: Blk b (rcells r p) T_raft_Raft :: BsR p.snap r.hd.snap :: PrR T_api_Entry p.log r.hd.log :: IsR p.next r.next :: IsR p.mtch r.mtch :: MsR p.msgs r.msgs :: BsR p.rsnap r.rsnap :: PrR T_api_Commit p.commits r.commits :: l),
    fun _ w' => v.length - sc w', ⟨[], List.nodup_nil, by simp, rfl, g3⟩, ?_⟩
  rintro ⟨y, u⟩ w4 ⟨S, s1, s2, hy, g4⟩
  simp only at hy ⊢
  have hsl := nodup_len s1 s2
  have hyb := yesIn_le v S
  have hkl : (kv v).length = v.length := by simp
  refine mapNext g4 (fun hall g5 => ?_) fun i x w5 hx hiS g5 => ?_
  · have hyes : y = Rs.yes v := by rw [hy]; exact yesIn_all s1 s2 fun i hi => hall i (by rw [hkl]; exact hi)
    have g6 : Sat W w4 (RaL b r p l) := by
      have a := RgR.back g5
      have c : Sat W w4 (VtR p.votes r.votes :: Blk b (rcells r p) T_raft_Raft :: BsR p.snap r.hd.snap :: PrR T_api_Entry p.log r.hd.log :: IsR p.next r.next :: IsR p.mtch r.mtch :: MsR p.msgs r.msgs :: BsR p.rsnap r.rsnap :: PrR T_api_Commit p.commits r.commits :: l) := by rw [hm, hv]; exact a
      exact c.sel 4 [1, 2, 3, 0]
    refine ldX g6 1 (x := r.n) ?_
    rw [w_i64 (n := 2 * y) (by omega) (by omega), hyes]
    refine ifB_dec (fun c1 => h0 c1 w4 (sat_ra.2 ⟨p, g6⟩)) fun c1 => ?_
    refine ldX g6 8 (x := r.role) ?_
    refine ifB_beq (fun c2 => h1 c1 c2 w4 (sat_ra.2 ⟨p, g6⟩)) fun c2 => h2 c1 c2 w4 (sat_ra.2 ⟨p, g6⟩)
  · refine ⟨_, rfl, _, rfl, ?_⟩
    refine mapEnt hx g5 ?_
    have hil : i < v.length := by rw [← hkl]; exact (List.getElem?_eq_some_iff.1 hx).1
    have hx2 : x = ((v[i]).1, .bool (v[i]).2) := by
      rw [List.getElem?_map, List.getElem?_eq_getElem hil] at hx
      simpa using hx.symm
    subst hx2
    have hvi : v[i]? = some v[i] := List.getElem?_eq_getElem hil
    have hyn := yesIn_snoc v S i _ hvi
    have n1 : (S ++ [i]).Nodup := List.nodup_append.2 ⟨s1, by simp, fun a ha c hc => by simp at hc; subst hc; exact fun h => hiS (h ▸ ha)⟩
    have n2 : ∀ j ∈ S ++ [i], j < v.length := fun j hj => by
      rcases List.mem_append.1 hj with hj | hj
      · exact s2 j hj
      · simp at hj; omega
    have n3 := nodup_len n1 n2
    rw [List.length_append, List.length_singleton] at n3
    have e4 := hsc g4
    have e5 := hsc g5
    rw [List.length_append, List.length_singleton] at e5
    refine ⟨_, (v[i]).2, rfl, ?_⟩
    refine ifB_intro (fun hb => ?_) fun hb => ?_
    · rw [w_i64 (n := y + 1) (by omega) (by omega)]
      refine ⟨⟨S ++ [i], n1, n2, ?_, g5⟩, by rw [e4, e5]; omega⟩
      show y + 1 = _
      rw [hyn, if_pos hb, hy]
    · refine ⟨⟨S ++ [i], n1, n2, ?_, g5⟩, by rw [e4, e5]; omega⟩
      show y = _
      rw [hyn, if_neg (by rw [hb]; decide), hy]; omega
end
end Go.Proofs.Ytfbffgcoopelfaa
