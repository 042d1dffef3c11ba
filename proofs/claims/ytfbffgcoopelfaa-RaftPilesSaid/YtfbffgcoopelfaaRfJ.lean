/- Layer 12: spreading, leading, counting votes. -/
import Derived.Test.YtfbffgcoopelfaaRfI
namespace Go.Proofs.Ytfbffgcoopelfaa
open Go Go.Pk
theorem feed_eq (r : Rs) (to : Int) : ∃ m, r.feed to = { r with msgs := r.msgs ++ [m] } := by
  unfold Rs.feed
  dsimp only
  split
  · exact ⟨_, rfl⟩
  · exact ⟨_, rfl⟩
theorem spread_eq (r : Rs) : ∀ k : Nat, ∃ ms : List Mg, ms.length ≤ k ∧ r.spreadTo k = { r with msgs := r.msgs ++ ms }
  | 0 => ⟨[], by simp, by simp [Rs.spreadTo]⟩
  | k + 1 => by
    obtain ⟨ms, h1, h2⟩ := spread_eq r k
    simp only [Rs.spreadTo]
    split
    · exact ⟨ms, by omega, h2⟩
    · obtain ⟨m, hm⟩ := feed_eq (r.spreadTo k) k
      refine ⟨ms ++ [m], by simp; omega, ?_⟩
      rw [hm, h2]
      simp
/-- the same but for messages -/
theorem Sane.more {r : Rs} (hs : Sane r) {ms : List Mg} (hm : (r.msgs ++ ms).length < 2 ^ 40) : Sane { r with msgs := r.msgs ++ ms } where
  base := hs.base
  len := hs.len
  id := hs.id
  n := hs.n
  commit := hs.commit
  told := hs.told
  ticks := hs.ticks
  limit := hs.limit
  term := hs.term
  next := hs.next
  mtch := hs.mtch
  small := hs.small
  msgs := hm
  commits := hs.commits
def NextOk (r : Rs) : Prop := ∀ x ∈ r.next, 0 ≤ x ∧ x < 4611690416473899008
section
variable {W w : World} {l : List Res} {K : Value → World → Prop} {b : Nat} {r : Rs} {p : RsP}
theorem NextOk.at_ (h : NextOk r) {i : Int} (hi : i.toNat < r.next.length) : 0 ≤ Rs.at_ r.next i ∧ Rs.at_ r.next i < 4611690416473899008 := by
  unfold Rs.at_
  rw [List.getElem?_eq_getElem hi]
  exact h _ (List.getElem_mem hi)
theorem spread_ok (h : Sat W w (RaR b r :: l)) (hs : Sane r) (hm : r.msgs.length + 100 < 2 ^ 40) (hx : NextOk r) (hK : ∀ w', Sat W w' (RaR b r.spread :: l) → K (.tuple #[]) w') :
    CallP P F_raft_Raft_spread [.pointer (some ⟨b, 0, none⟩)] w K := by
  apply c_raft_Raft_spread
  unfold S_raft_Raft_spread
  obtain ⟨p, h1⟩ := sat_ra.1 h
  refine ldX h1 1 (x := r.n) ?_
  have hn := hs.n
  have hid := hs.id
  refine ⟨fun z w' => ∃ i : Nat, z.1 = i ∧ i ≤ r.n.toNat ∧ Sat W w' (RaR b (r.spreadTo i) :: l), fun z _ => r.n.toNat - z.1.toNat, ⟨0, rfl, Nat.zero_le _, h⟩, ?_⟩
  rintro ⟨i', u⟩ w2 ⟨i, hi, hil, h2⟩
  simp only at hi ⊢
  subst hi
  refine ifB_dec (fun hlt => ?_) fun hge => ?_
  · obtain ⟨ms, hms, hme⟩ := spread_eq r i
    obtain ⟨p, h3⟩ := sat_ra.1 h2
    have eid : (r.spreadTo i).id = r.id := by rw [hme]
    refine ldX h3 0 (x := (r.spreadTo i).id) ?_
    rw [eid]
    refine ifB_bne (fun hne => ?_) fun he => ?_
    · have hs2 : Sane (r.spreadTo i) := by rw [hme]; exact hs.more (by rw [List.length_append]; omega)
      have hx2 : NextOk (r.spreadTo i) := by rw [hme]; exact hx
      have hn2 : (r.spreadTo i).n = r.n := by rw [hme]
      have hl2 : (r.spreadTo i).next.length = r.n.toNat := by rw [hme]; exact hs.next
      refine feed_ok h2 hs2 (by omega) (by rw [hn2]; omega) (hx2.at_ (by rw [hl2]; omega)) fun w3 h4 => tupU rfl ?_
      rw [w_i64 (n := (i : Int) + 1) (by omega) (by omega)]
      refine ⟨⟨i + 1, rfl, by omega, ?_⟩, by omega⟩
      have e : r.spreadTo (i + 1) = (r.spreadTo i).feed i := by simp only [Rs.spreadTo]; rw [if_neg hne]
      rw [e]; exact h4
    · rw [w_i64 (n := (i : Int) + 1) (by omega) (by omega)]
      refine ⟨⟨i + 1, rfl, by omega, ?_⟩, by omega⟩
      have e : r.spreadTo (i + 1) = r.spreadTo i := by simp only [Rs.spreadTo]; rw [if_pos he]
      rw [e]; exact h2
  · have hii : i = r.n.toNat := by omega
    subst hii
    exact hK w2 h2
theorem set_rep (x : Int) (m : List Int) (i : Nat) (hi : i < m.length) : (List.replicate i x ++ m.drop i).set i x = List.replicate (i + 1) x ++ m.drop (i + 1) := by
  rw [List.set_append_right _ _ (by simp)]
  simp only [List.length_replicate, Nat.sub_self]
  rw [List.drop_eq_getElem_cons hi, List.set_cons_zero, List.replicate_succ']
  simp
abbrev leads (r : Rs) (i : Nat) : Rs := { r with role := 3, leader := r.id, votes := none, next := List.replicate i (r.last + 1) ++ r.next.drop i, mtch := List.replicate i 0 ++ r.mtch.drop i }
theorem lead_ok (h : Sat W w (RaR b r :: l)) (hs : Sane r) (hm : r.msgs.length + 100 < 2 ^ 40) (hl : r.hd.log.length + 1 < 2 ^ 40) (hK : ∀ w', Sat W w' (RaR b r.lead :: l) → K (.tuple #[]) w') :
    CallP P F_raft_Raft_lead [.pointer (some ⟨b, 0, none⟩)] w K := by
  apply c_raft_Raft_lead
  unfold S_raft_Raft_lead
  obtain ⟨p, h1⟩ := sat_ra.1 h
  have hn := hs.n
  have hid := hs.id
  have hnl := hs.next
  have hml := hs.mtch
  have hlast := last_in hs
  refine ldX h1 0 (x := r.id) ?_
  refine stX h1 8 (hi := (by show 8 < 28; decide)) fun w2 h2 => ?_
  refine stX h2 9 (hi := (by show 9 < 28; decide)) fun w3 h3 => ?_
  refine stX h3 14 (hi := (by show 14 < 28; decide)) fun w4 h4 => ?_
  let q : RsP := { p with votes := none }
  have h5 : Sat W w4 (RaL b (leads r 0) q l) := by
    have a : Sat W w4 (VtR none none :: _) := sat_pure.2 ⟨trivial, h4.cut 3⟩
    have c := a.sel 4 [1, 2, 3, 0]
    simp only [leads, List.replicate_zero, List.nil_append, List.drop_zero]
    exact c
  refine ldX h5 1 (x := r.n) ?_
  refine ⟨fun z w' => ∃ i : Nat, z.1 = i ∧ i ≤ r.n.toNat ∧ Sat W w' (RaL b (leads r i) q l), fun z _ => r.n.toNat - z.1.toNat, ⟨0, rfl, Nat.zero_le _, h5⟩, ?_⟩
  rintro ⟨i', u⟩ w5 ⟨i, hi, hil, h6⟩
  simp only at hi ⊢
  subst hi
  have hsi : Sane (leads r i) := hs.of (e8 := by simp; omega) (e9 := by simp; omega)
  have hli : (leads r i).last = r.last := rfl
  refine ifB_dec (fun hlt => ?_) fun hge => ?_
  · let S : World → Prop := fun w => ∃ L, Sat W w (Blk b (rcells (leads r i) q) T_raft_Raft :: L)
    have h7 := h6.drew
    refine ⟨S, ⟨_, h7⟩, ?_⟩
    refine hldX (fun _ h => h) 15 (x := q.next) ?_
    refine hldX (fun _ h => h) 16 (x := q.mtch) ?_
    refine lastL_ok h7 hsi fun w6 h8 => tyI ⟨⟨_, h8⟩, ?_⟩
    rw [hli, w_i64 (n := r.last + 1) (by omega) (by omega)]
    have hi1 : i < r.next.length := by omega
    have hi2 : i < r.mtch.length := by omega
    obtain ⟨a1, ha1, hl1⟩ := is_some (h8.up 4) (n := i) (by simp; omega)
    refine ⟨_, fun w' _ => run_ix et_ints ha1 (by omega) (by simpa using hl1) w', ?_⟩
    refine stSl (h8.up 4) ha1 hl1 fun w7 h9 => ?_
    refine ⟨⟨_, h9.up 1⟩, ?_⟩
    obtain ⟨a2, ha2, hl2⟩ := is_some (h9.up 5) (n := i) (by simp; omega)
    refine ⟨_, fun w' _ => run_ix et_ints ha2 (by omega) (by simpa using hl2) w', ?_⟩
    refine stSl (h9.up 5) ha2 hl2 fun w8 h10 => ?_
    refine ⟨⟨_, h10.up 2⟩, ?_⟩
    rw [w_i64 (n := (i : Int) + 1) (by omega) (by omega)]
    rw [set_rep _ _ _ hi1, set_rep _ _ _ hi2] at h10
    refine ⟨⟨i + 1, rfl, by omega, ?_⟩, by omega⟩
    exact h10.sel 6 [2, 3, 4, 5, 1, 0]
  · have hii : i = r.n.toNat := by omega
    subst hii
    let r1 : Rs := { r with role := 3, leader := r.id, votes := none, next := List.replicate r.n.toNat (r.last + 1), mtch := List.replicate r.n.toNat 0 }
    have e1 : leads r r.n.toNat = r1 := by
      have d1 : r.next.drop r.n.toNat = [] := List.drop_of_length_le (by omega)
      have d2 : r.mtch.drop r.n.toNat = [] := List.drop_of_length_le (by omega)
      simp only [leads, r1, d1, d2, List.append_nil]
    rw [e1] at hsi
    have h7 : Sat W w5 (RaR b r1 :: l) := by rw [← e1]; exact sat_ra.2 ⟨q, h6⟩
    refine append_ok (x := ⟨none, 0, 0⟩) (d := []) h7 (Rd.nil rfl) (by simp) hsi hl fun w6 h8 => tupU rfl ?_
    have hs2 : Sane (r1.append []) := ((hsi.laid (d := []) hl (by simp)).of (r' := laidM r1 []) (e9 := by simp)).advance
    have hadv : ∀ (q : Rs) (k : Nat) (i : Int), (q.advFrom k i).next = q.next ∧ (q.advFrom k i).msgs = q.msgs := by
      intro q k
      induction k with
      | zero => intro i; exact ⟨rfl, rfl⟩
      | succ k ih =>
        intro i
        simp only [Rs.advFrom]
        split
        · exact ⟨rfl, rfl⟩
        · split
          · exact ⟨rfl, rfl⟩
          · exact ih _
    have hx : NextOk (r1.append []) := by
      intro x hx
      have e : (r1.append []).next = r1.next := (hadv _ _ _).1
      rw [e] at hx
      have := List.eq_of_mem_replicate hx
      omega
    refine spread_ok h8 hs2 ?_ hx fun w7 h9 => tupU rfl ?_
    · have e : (r1.append []).msgs = r1.msgs := (hadv _ _ _).2
      rw [e]; exact hm
    · exact hK w7 h9
end
end Go.Proofs.Ytfbffgcoopelfaa
