/- Layer 14: a replica in memory; how far all have come. -/
import Derived.Test.YtnjadekngjgjcaaGreatDoorUG
namespace Go.Proofs.YtnjadekngjgjcaaGreatDoor
open Go Go.Pk
section
variable {W w : World} {l : List Res} {K : Value → World → Prop}
theorem ints_len {x : Sl} {xs : List Int} (h : RdC w x 1 (xs.map vI)) : x.len = xs.length := by
  have := h.1
  simp only [List.length_map, Nat.mul_one] at this
  exact this.symm
theorem cloneI_ok {x : Sl} {xs : List Int} (h : Sat W w l) (hr : Rd W l x 1 (xs.map vI)) (hb : xs.length ≤ 1099511627776) (hK : ∀ s w', Sat W w' (IsR s xs :: l) → K s.v w') : CallP P F_slices_Clone_int_int [x.v] w K := by
  apply c_slices_Clone_int_int
  unfold S_slices_Clone_int_int
  have hl := ints_len (hr w h)
  cases hx : x.a with
  | none =>
    have h0 : x.len = 0 := by have := (hr w h).2.1; have := (hr w h).2.2.1 hx; omega
    have he : xs = [] := List.length_eq_zero_iff.1 (by omega)
    subst he
    exact hK ⟨none, 0, 0⟩ w (Sat.nilSlr h T_int 1)
  | some a =>
    simp only [Option.isNone_some, ifB_false]
    refine bsB h (cs := []) (e := T_int) (fun w => by kernel_rfl) fun g w1 h1 => ?_
    have h2 : Sat W w1 (SlR T_int 1 ⟨some ⟨g, 0, none⟩, 0, 0⟩ [] :: l) := h1.mkSlr rfl (by simp) (by simp) (by simp) rfl (by simp)
    refine appB et_ints (by decide) h2 (hr w1 h1.tail) (vI_all xs) (by simp only; omega) (by simp only; omega) fun s' w' h' _ => hK s' w' (by simpa using h')
end
def PeR (p : Nat) (x : Pe) : Res := Blk p [.int .i64 x.at_, .int .i64 x.since] T_replica_peer
structure RpP where
  al : Nat
  at_ : Nat
  ae : Nat
  isr : Sl
  asked : Sl
  pm : Nat
def rpcells0 (r : Rp) (p : RpP) (v3 v4 : Value) : List Value := [.int .i64 r.part, .int .i64 r.me, .pointer (some ⟨p.al, 0, none⟩), v3, v4, .int .i64 r.epoch, .bool r.leads, .int .i64 r.begin_, .int .i64 r.high, p.isr.v, p.asked.v, .map (some p.pm)]
abbrev rpcells (r : Rp) (p : RpP) : List Value := rpcells0 r p (.pointer (some ⟨p.at_, 0, none⟩)) (.pointer (some ⟨p.ae, 0, none⟩))
/-- a replica, opened -/
abbrev RpL (a b : Nat) (r : Rp) (p : RpP) (l : List Res) : List Res :=
  Blk a (rpcells r p) T_replica_Replica :: LgR p.al b r.log :: PtR p.at_ r.pt :: EcR p.ae r.ec :: IsR p.isr r.isr :: IsR p.asked r.asked :: MpP .i64 p.pm PeR r.peers :: l
/-- a replica on the disk at b -/
def RpR (a b : Nat) (r : Rp) : Res := Ex fun p : RpP => All (RpL a b r p [])
/-- what a replica's calls ask -/
structure RpF (r : Rp) : Prop where
  log : LFit r.log
  pt : PtF r.pt
  ec : r.ec.length ≤ 1073741824
  isr : r.isr.length ≤ 1000000
  asked : r.asked.length ≤ 1000000
section
variable {W w : World} {l : List Res} {K : Value → World → Prop} {a b : Nat} {r : Rp} {p : RpP}
theorem sat_rp : Sat W w (RpR a b r :: l) ↔ ∃ p, Sat W w (RpL a b r p l) := by
  unfold RpR
  rw [sat_ex]
  exact ⟨fun ⟨p, h⟩ => ⟨p, sat_all.1 h⟩, fun ⟨p, h⟩ => ⟨p, sat_all.2 h⟩⟩
theorem ul_pm : P.underlying T_map_int_p_replica_peer = some (.map T_int T_p_replica_peer) := by kernel_rfl
theorem place_ok {n : Int} (h : Sat W w (RpL a b r p l)) (hK : K (.int .i64 (r.place n)) w) : CallP P F_replica_Replica_place [.pointer (some ⟨a, 0, none⟩), .int .i64 n] w K := by
  apply c_replica_Replica_place
  unfold S_replica_Replica_place
  unfold Rp.place at hK
  refine ldX h 1 (x := r.me) ?_
  refine ifB_beq (fun c => ?_) fun c => ?_
  · rw [if_pos c] at hK
    refine ldX h 2 (x := some ⟨p.al, 0, none⟩) ?_
    exact synced_ok (h.up 1) (tyI (k := .int .i64) hK)
  · rw [if_neg c] at hK
    refine ldX h 11 (x := some p.pm) ?_
    obtain ⟨es, hes, h1⟩ := sat_mpp.1 (h.up 6)
    refine mpLook ul_pm (by kernel_rfl) (fun w => by kernel_rfl) h1 (fun g0 _ _ => tyI (k := .ptr) (x := none) ?_) fun i e hi hk hg _ => tyI (k := .ptr) (x := some ⟨e.p, 0, none⟩) ?_
    · refine ifB_intro (fun c => absurd c (by simp)) fun _ => ?_
      rw [hes] at g0
      unfold Rp.peer at hK
      rw [g0] at hK
      exact hK
    · refine ifB_intro (fun _ => ?_) fun c => absurd c (by simp)
      rw [hes] at hg
      unfold Rp.peer at hK
      rw [hg] at hK
      have h2 := mp_open hi h1
      refine ldX (show Sat W w (Blk e.p [.int .i64 e.x.at_, .int .i64 e.x.since] T_replica_peer :: _) from h2) 0 (x := e.x.at_) ?_
      exact hK
theorem rise_okL (h : Sat W w (RpL a b r p l)) (hi : r.isr.length ≤ 1000000) (ha : r.asked.length ≤ 1000000) (hK : ∀ w', Sat W w' (RpL a b r.rise p l) → K (.tuple #[]) w') : CallP P F_replica_Replica_rise [.pointer (some ⟨a, 0, none⟩)] w K := by
  apply c_replica_Replica_rise
  unfold S_replica_Replica_rise
  refine ldX h 2 (x := some ⟨p.al, 0, none⟩) ?_
  refine synced_ok (h.up 1) (tyI (k := .int .i64) ?_)
  let S : World → Prop := fun w => ∃ L, Sat W w (Blk a (rpcells r p) T_replica_Replica :: L)
  refine ⟨S, ⟨_, h.drew⟩, ?_⟩
  refine hldX (S := S) (b := a) (fun w hw => hw) 9 (x := p.isr) ?_
  refine hldX (S := S) (b := a) (fun w hw => hw) 10 (x := p.asked) ?_
  refine cloneI_ok (xs := r.isr) h.drew (Rd.own.cons.cons.cons.cons) (by omega) fun s12 w11 h1 => tyI (k := .sl) ⟨⟨_, h1.tail⟩, ?_⟩
  have hsl := h1.slLen
  have hal := (h1.up 6).slLen
  simp only [List.length_map, Nat.mul_one] at hsl hal
  refine appB et_ints (by decide) (s := s12) (x := p.asked) (news := r.asked.map vI) h1 ((h1.up 6).rdc) (vI_all _) (by omega) (by omega) fun s13 w14 h2 hs13 => ?_
  rw [← List.map_append] at h2
  refine ⟨⟨_, h2.tail⟩, ?_⟩
  have hln : s13.len = (r.isr ++ r.asked).length := by rw [List.length_append]; omega
  generalize hxs : r.isr ++ r.asked = xs at h2 hln
  have hxl : xs.length ≤ 2000000 := by rw [← hxs, List.length_append]; omega
  refine ⟨fun z w' => ∃ i : Nat, z.2.1 = i ∧ i ≤ xs.length ∧ r.low r.log.sync xs = r.low z.1 (xs.drop i) ∧ Sat W w' (SlR T_int 1 s13 (xs.map vI) :: RpL a b r p l), fun z _ => xs.length - z.2.1.toNat, ⟨0, rfl, Nat.zero_le _, by simp, h2⟩, ?_⟩
  rintro ⟨to_, i', u⟩ w3 ⟨i, hi, hil, hlo, h3⟩
  simp only at hi hlo ⊢
  subst hi
  refine ifB_dec (fun c => ?_) fun c => ?_
  · have hi1 : i < xs.length := by omega
    refine ixld et_ints h3.rdc (by omega) (x := xs[i]) (by simp [hi1]; rfl) ?_
    refine place_ok h3.tail (tyI (k := .int .i64) ?_)
    have hd : xs.drop i = xs[i] :: xs.drop (i + 1) := (List.getElem_cons_drop hi1).symm
    rw [hd, Rp.low] at hlo
    rw [w_i64 (n := (i : Int) + 1) (by omega) (by omega)]
    refine ⟨⟨i + 1, rfl, by omega, ?_, h3⟩, by show xs.length - ((i : Int) + 1).toNat < xs.length - ((i : Int)).toNat; omega⟩
    rw [hlo]
    congr 1
    show min to_ (r.place xs[i]) = if r.place xs[i] < to_ then r.place xs[i] else to_
    split <;> omega
  · have hi2 : i = xs.length := by omega
    rw [hi2, List.drop_length, Rp.low] at hlo
    have h4 : Sat W w3 (RpL a b r p l) := h3.tail
    refine ldX h4 8 (x := r.high) ?_
    refine stX h4 8 (v := .int .i64 (if to_ > r.high then to_ else r.high)) (hi := (by show 8 < 12; decide)) fun w26 h5 => hK w26 ?_
    have e : r.rise = { r with high := if to_ > r.high then to_ else r.high } := by
      unfold Rp.rise
      rw [hxs, hlo]
      congr 1
      split <;> omega
    rw [e]
    exact h5
end
end Go.Proofs.YtnjadekngjgjcaaGreatDoor
