/- Layer 12: votes, entries of one's own, what is committed. -/
import Derived.Test.YtfbffgcoopelfaaRfF
namespace Go.Proofs.Ytfbffgcoopelfaa
open Go Go.Pk
theorem Sane.of {r r' : Rs} (hs : Sane r) (e1 : r'.hd = r.hd := by rfl) (e2 : r'.id = r.id := by rfl) (e3 : r'.n = r.n := by rfl) (e4 : r'.commit = r.commit := by rfl) (e5 : r'.told = r.told := by rfl) (e6 : r'.ticks = r.ticks := by rfl) (e7 : r'.limit = r.limit := by rfl)
    (e8 : r'.next.length = r.next.length := by rfl) (e9 : r'.mtch.length = r.mtch.length := by rfl) (e10 : r'.msgs = r.msgs := by rfl) (e11 : r'.commits = r.commits := by rfl) : Sane r' where
  base := by rw [e1]; exact hs.base
  len := by rw [e1]; exact hs.len
  id := by rw [e2, e3]; exact hs.id
  n := by rw [e3]; exact hs.n
  commit := by rw [e4]; exact hs.commit
  told := by rw [e5]; exact hs.told
  ticks := by rw [e6]; exact hs.ticks
  limit := by rw [e7]; exact hs.limit
  term := by rw [e1]; exact hs.term
  next := by rw [e8, e3]; exact hs.next
  mtch := by rw [e9, e3]; exact hs.mtch
  small := by rw [e1]; exact hs.small
  msgs := by rw [e10]; exact hs.msgs
  commits := by rw [e11]; exact hs.commits
section
variable {W w : World} {l : List Res} {K : Value → World → Prop} {b : Nat} {r : Rs} {p : RsP}
theorem lastL_ok (h : Sat W w (RaL b r p l)) (hs : Sane r) (hK : ∀ w', Sat W w' (RaL b r p l) → K (.int .i64 r.last) w') : CallP P F_raft_Raft_last [.pointer (some ⟨b, 0, none⟩)] w K := by
  apply c_raft_Raft_last
  unfold S_raft_Raft_last
  have hl := ra_log h
  have := last_in hs
  refine ldX h.drew 4 (x := r.hd.base) ?_
  refine ldX h.drew 7 (x := p.log) ?_
  rw [hl, w_i64 (by unfold Rs.last at this; omega) (by unfold Rs.last at this; omega)]
  exact hK _ h.drew
/-- a number of a slice of one's own is written -/
theorem stSl {s : Sl} {xs : List Int} {a0 : Addr} (h : Sat W w (IsR s xs :: l)) (ha : s.a = some a0) {i : Nat} (hi : i < s.len) {v : Int} {K : World → Prop} (hK : ∀ w', Sat W w' (IsR s (xs.set i v) :: l) → K w') :
    StoreP P T_int (.pointer (some (a0.add (i * 1)))) (.int .i64 v) w K := by
  rcases h.slr with ⟨h0, h2, _⟩ | ⟨g, o, cur, ha', hb, h2, h3, h4, h5, h6⟩
  · omega
  · rw [ha] at ha'
    cases ha'
    rw [add_add]
    have hlt : o + i * 1 < cur.length := by omega
    refine stV hb (fun w' h' => hK w' ?_) rfl hlt (by kernel_rfl)
    have e : (xs.set i v).map vI = (xs.map vI).set i (vI v) := by rw [List.map_set]
    show Sat W w' (SlR T_int 1 s ((xs.set i v).map vI) :: l)
    rw [e]
    refine h'.mkSlr ha h2 h3 (by simpa using h4) ?_ ?_
    · rw [h5, List.drop_set, if_neg (by omega), List.take_set]
      congr 1; omega
    · intro u hu
      rcases List.mem_or_eq_of_mem_set hu with hu | rfl
      · exact h6 u hu
      · rfl
theorem is_some {s : Sl} {xs : List Int} (h : Sat W w (IsR s xs :: l)) {n : Nat} (hn : n < xs.length) : ∃ a, s.a = some a ∧ n < s.len := by
  have h1 := Sat.isLen h
  obtain ⟨a, ha⟩ := some_of_lt h.rdc (n := n) (by omega)
  exact ⟨a, ha, by omega⟩
theorem filter_take_succ {q : Int → Bool} {m : List Int} {i : Nat} (hi : i < m.length) : ((m.take (i + 1)).filter q).length = ((m.take i).filter q).length + (if q m[i] = true then 1 else 0) := by
  rw [List.take_add_one, List.getElem?_eq_getElem hi, List.filter_append, List.length_append]
  by_cases h : q m[i] = true <;> simp [h]
theorem advance_ok (h : Sat W w (RaR b r :: l)) (hs : Sane r) (hK : ∀ w', Sat W w' (RaR b r.advance :: l) → K (.tuple #[]) w') : CallP P F_raft_Raft_advance [.pointer (some ⟨b, 0, none⟩)] w K := by
  apply c_raft_Raft_advance
  unfold S_raft_Raft_advance
  have hl := last_in hs
  have hc := hs.commit
  refine lastS_ok h hs fun w1 h1 => tyI ?_
  refine ⟨fun z w' => z.1 ≤ r.last ∧ (r.commit ≤ z.1 ∨ z.1 = r.last) ∧ r.advFrom (z.1 - r.commit).toNat z.1 = r.advance ∧ Sat W w' (RaR b r :: l), fun z _ => (z.1 - r.commit).toNat, ⟨Int.le_refl _, .inr rfl, rfl, h1⟩, ?_⟩
  rintro ⟨i, u⟩ w2 ⟨g1, g2, g3, h2⟩
  simp only at g1 g2 g3 ⊢
  obtain ⟨p, h3⟩ := sat_ra.1 h2
  refine ldX h3 10 (x := r.commit) ?_
  refine ifB_dec (fun hgt => ?_) fun hle => ?_
  · obtain ⟨k, hk⟩ : ∃ k, (i - r.commit).toNat = k + 1 := ⟨(i - r.commit).toNat - 1, by omega⟩
    rw [hk, Rs.advFrom] at g3
    refine term_ok h2 hs (by omega) fun w3 h4 => ⟨(_, _, ()), rfl, ?_⟩
    obtain ⟨p, h5⟩ := sat_ra.1 h4
    refine ldX h5 2 (x := r.hd.term) ?_
    refine ifB_bne (fun hne => ?_) fun he => ?_
    · rw [if_pos hne] at g3
      have := hK w3 (by rw [← g3]; exact h4)
      exact this
    · have he' : (r.termAt i).1 = r.hd.term := he
      rw [if_neg (by simp [he'])] at g3
      refine ldX h5 16 (x := p.mtch) ?_
      have hml := Sat.isLen (h5.up 5)
      have hm5 := hs.mtch
      have hn5 := hs.n
      refine ⟨fun z w' => ∃ j : Nat, z.2.1 = j ∧ j ≤ r.mtch.length ∧ z.1 = (((r.mtch.take j).filter fun m => decide (m ≥ i)).length : Int) ∧ Sat W w' (RaL b r p l), fun z _ => r.mtch.length - z.2.1.toNat, ⟨0, rfl, Nat.zero_le _, by simp, h5⟩, ?_⟩
      rintro ⟨y, j', u⟩ w4 ⟨j, hj, hjl, hy, h6⟩
      simp only at hj hy ⊢
      subst hj
      have hyl : ((r.mtch.take j).filter fun m => decide (m ≥ i)).length ≤ j := Nat.le_trans (List.length_filter_le _ _) (by simp; omega)
      refine ifB_dec (fun hlt => ?_) fun hge => ?_
      · have hj1 : j < r.mtch.length := by omega
        have hrd : RdC w4 p.mtch 1 (r.mtch.map vI) := (h6.up 5).rdc
        refine ixld et_ints hrd (by omega) (k := .int .i64) (x := r.mtch[j]) (by simp [hj1, vI]) ?_
        have hf := filter_take_succ (q := fun m => decide (m ≥ i)) hj1
        refine ifB_dec (fun hx => ?_) fun hx => ?_
        · rw [w_i64 (n := y + 1) (by omega) (by omega), w_i64 (n := (j : Int) + 1) (by omega) (by omega)]
          refine ⟨⟨j + 1, rfl, by omega, ?_, h6⟩, by omega⟩
          show y + 1 = _
          rw [hf, if_pos (by simpa using hx), hy]; rfl
        · rw [w_i64 (n := (j : Int) + 1) (by omega) (by omega)]
          refine ⟨⟨j + 1, rfl, by omega, ?_, h6⟩, by omega⟩
          show y = _
          rw [hf, if_neg (by simpa using hx), hy]; rfl
      · have hjj : r.mtch.take j = r.mtch := List.take_of_length_le (by omega)
        rw [hjj] at hy
        have hyh : y = r.have_ i := hy
        have hyb : (r.mtch.filter fun m => decide (m ≥ i)).length ≤ r.mtch.length := List.length_filter_le _ _
        have hyb2 : 0 ≤ y ∧ y ≤ 5 := by rw [hy]; omega
        refine ldX h6 1 (x := r.n) ?_
        rw [w_i64 (n := 2 * y) (by omega) (by omega)]
        refine ifB_dec (fun hx => ?_) fun hx => ?_
        · rw [if_pos (by rw [← hyh]; exact hx)] at g3
          refine stX h6 10 (hi := (by show 10 < 28; decide)) fun w5 h7 => ?_
          have := hK w5 (by rw [← g3]; exact sat_ra.2 ⟨p, h7⟩)
          exact this
        · rw [if_neg (by rw [← hyh]; exact hx)] at g3
          rw [w_i64 (n := i - 1) (by omega) (by omega)]
          have hk2 : (i - 1 - r.commit).toNat = k := by omega
          refine ⟨⟨by omega, by omega, ?_, sat_ra.2 ⟨p, h6⟩⟩, by omega⟩
          show r.advFrom (i - 1 - r.commit).toNat (i - 1) = _
          rw [hk2]; exact g3
  · have h0 : (i - r.commit).toNat = 0 := by omega
    rw [h0, Rs.advFrom] at g3
    have := hK w2 (by rw [← g3]; exact h2)
    exact this
theorem Sane.advance (hs : Sane r) : Sane r.advance := by
  have key : ∀ (k : Nat) (i : Int), r.commit ≤ i - k → i ≤ r.last → Sane (r.advFrom k i) := by
    intro k
    induction k with
    | zero => intro i _ _; exact hs
    | succ k ih =>
      intro i h1 h2
      simp only [Rs.advFrom]
      have hl := last_in hs
      have hc := hs.commit
      split
      · exact hs
      · split
        · exact { base := hs.base, len := hs.len, id := hs.id, n := hs.n, commit := by (show 0 ≤ i ∧ i < 4611690416473899008; omega), told := hs.told, ticks := hs.ticks, limit := hs.limit, term := hs.term, next := hs.next, mtch := hs.mtch, small := hs.small, msgs := hs.msgs, commits := hs.commits }
        · exact ih (i - 1) (by omega) (by omega)
  unfold Rs.advance
  by_cases h : r.commit ≤ r.last
  · exact key _ _ (by omega) (Int.le_refl _)
  · have : (r.last - r.commit).toNat = 0 := by omega
    rw [this]
    exact hs
end
end Go.Proofs.Ytfbffgcoopelfaa
