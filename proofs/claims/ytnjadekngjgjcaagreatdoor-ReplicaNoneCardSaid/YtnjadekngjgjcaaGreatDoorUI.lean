/- Layer 14: a replica learns from its log; roles. -/
import Derived.Test.YtnjadekngjgjcaaGreatDoorUH
namespace Go.Proofs.YtnjadekngjgjcaaGreatDoor
open Go Go.Pk
theorem setA_mem {α : Type} {n : Int} {y : α} : ∀ {m : List (Int × α)} {q : Int × α}, q ∈ setA m n y → q ∈ m ∨ q = (n, y)
  | [], q, h => by simp only [setA, List.mem_singleton] at h; exact .inr h
  | p :: m, q, h => by
    unfold setA at h
    split at h
    · rcases List.mem_cons.1 h with h | h
      · exact .inr h
      · exact .inl (List.mem_cons_of_mem _ h)
    · rcases List.mem_cons.1 h with rfl | h
      · exact .inl (by simp)
      · rcases setA_mem h with h | h
        · exact .inl (List.mem_cons_of_mem _ h)
        · exact .inr h
theorem getA_mem {α : Type} {n : Int} {x : α} : ∀ {m : List (Int × α)}, getA m n = some x → ∃ k, (k, x) ∈ m
  | [], h => by cases h
  | p :: m, h => by
    unfold getA at h
    split at h
    · cases h; exact ⟨p.1, by simp⟩
    · obtain ⟨k, hk⟩ := getA_mem h
      exact ⟨k, List.mem_cons_of_mem _ hk⟩
/-- what is known of some batches stays small -/
structure PtN (t : Pt9) (k : Nat) : Prop where
  ab : t.ab.length ≤ k
  last : ∀ p ∈ t.ps, p.2.last.length ≤ 5
theorem PtN.f {t : Pt9} {k : Nat} (h : PtN t k) (hk : k ≤ 1073741824) : PtF t := ⟨Nat.le_trans h.ab hk, h.last⟩
theorem PtN.new : PtN Pt9.new 0 := ⟨Nat.le_refl _, fun p hp => by cases hp⟩
theorem PtN.mono {t : Pt9} {j k : Nat} (h : PtN t j) (hk : j ≤ k) : PtN t k := ⟨Nat.le_trans h.ab hk, h.last⟩
theorem PtN.apply {t : Pt9} {k : Nat} (h : PtN t k) (b : Bd) : PtN (t.apply b) (k + 1) := by
  unfold Pt9.apply
  by_cases c0 : b.pid = 0
  · rw [if_pos c0]; exact h.mono (by omega)
  rw [if_neg c0]
  have hf : (Pt9.fresh (t.find b.pid) b).last.length ≤ 5 := by
    cases hg : t.find b.pid with
    | none => exact Nat.zero_le _
    | some x =>
      obtain ⟨j, hj⟩ := getA_mem hg
      have := h.last _ hj
      unfold Pt9.fresh
      simp only
      split
      · exact Nat.zero_le _
      · exact this
  generalize Pt9.fresh (t.find b.pid) b = x at hf
  by_cases c1 : b.ct
  · rw [if_pos c1]
    refine ⟨?_, fun p hp => ?_⟩
    · have := h.ab
      simp only
      split
      · rw [List.length_append, List.length_singleton]; omega
      · omega
    · rcases setA_mem hp with hp | rfl
      · exact h.last p hp
      · exact hf
  · rw [if_neg c1]
    refine ⟨Nat.le_trans h.ab (by omega), fun p hp => ?_⟩
    rcases setA_mem hp with hp | rfl
    · exact h.last p hp
    · show (Pt9.window (x.last ++ [_])).length ≤ 5
      unfold Pt9.window
      split
      · rw [List.length_drop, List.length_append, List.length_singleton]; omega
      · omega
theorem ecCut_len (c : Ec) (at_ : Int) : (Ec.cut c at_).length ≤ c.length := by unfold Ec.cut; rw [List.length_take]; omega
theorem assign_len (c : Ec) (e at_ : Int) : (Ec.assign c e at_).1.length ≤ c.length + 1 := by
  have := ecCut_len c at_
  unfold Ec.assign
  split
  · simp only; omega
  · split
    · split
      · simp only; omega
      · simp only [List.length_append, List.length_singleton]; omega
    · simp only [List.length_append, List.length_singleton]; omega
/-- what a replica knows from its log stays small -/
structure NtN (r : Rp) (k : Nat) : Prop where
  pt : PtN r.pt k
  ec : r.ec.length ≤ k
theorem NtN.note {r : Rp} {k : Nat} (h : NtN r k) (b : Bd) : NtN (r.note b) (k + 1) :=
  ⟨h.pt.apply b, by have h1 := assign_len r.ec b.ep b.ba; have h2 := h.ec; show (Ec.assign r.ec b.ep b.ba).1.length ≤ _; omega⟩
theorem NtN.fold : ∀ (bs : List Bd) {r : Rp} {k : Nat}, NtN r k → NtN (bs.foldl Rp.note r) (k + bs.length)
  | [], _, _, h => h
  | b :: bs, r, k, h => by
    have := NtN.fold bs (h.note b)
    rw [List.length_cons, show k + (bs.length + 1) = k + 1 + bs.length by omega]
    exact this
theorem read_len {g : Lg} (h : LFit g) (n : Int) : (g.read 0 n).length ≤ 1073741824 := by
  unfold Lg.read
  have := h.q 0
  rw [List.length_take]; omega
section
variable {W w : World} {l : List Res} {K : Value → World → Prop} {a b : Nat} {r : Rp} {p : RpP}
theorem note_okL {d : Dc} (h : Sat W w (RpL a b r p l)) (hv : VRd W l d) (hp : PtF r.pt) (he : r.ec.length ≤ 1073741824) (hK : ∀ w', Sat W w' (RpL a b (r.note d.bd) p l) → K (.tuple #[]) w') :
    CallP P F_replica_Replica_note [.pointer (some ⟨a, 0, none⟩), .agg d.cells.toArray] w K := by
  apply c_replica_Replica_note
  unfold S_replica_Replica_note
  refine boxB h fun g w1 h1 => ?_
  have h1 : Sat W w1 (Blk g d.cells T_api_Batch :: RpL a b r p l) := h1
  let S : World → Prop := fun w => ∃ L, Sat W w (Blk g d.cells T_api_Batch :: Blk a (rpcells r p) T_replica_Replica :: L)
  refine ⟨S, ⟨_, h1.drew⟩, ?_⟩
  refine hldX (S := S) (b := a) (fun w hw => by obtain ⟨L, hw⟩ := hw; exact ⟨_, hw.swap⟩) 3 (x := some ⟨p.at_, 0, none⟩) ?_
  refine hldAggX (S := S) (b := g) 0 9 (fun w hw => by obtain ⟨L, hw⟩ := hw; exact ⟨_, hw⟩) ?_ (by show 0 + 9 ≤ 9; decide)
  have h2 : Sat W w1.drew (PtR p.at_ r.pt :: Blk g d.cells T_api_Batch :: Blk a (rpcells r p) T_replica_Replica :: LgR p.al b r.log :: EcR p.ae r.ec :: IsR p.isr r.isr :: IsR p.asked r.asked :: MpP .i64 p.pm PeR r.peers :: l) := h1.drew.sel 8 [3, 0, 1, 2, 4, 5, 6, 7]
  refine apply_ok (d := d) h2 hv.cons.cons.cons.cons.cons.cons.cons hp fun w7 h3 => tupU rfl ⟨⟨_, h3.tail⟩, ?_⟩
  have h4 := h3.tail.drew
  refine ⟨S, ⟨_, h4⟩, ?_⟩
  refine hldX (S := S) (b := a) (fun w hw => by obtain ⟨L, hw⟩ := hw; exact ⟨_, hw.swap⟩) 4 (x := some ⟨p.ae, 0, none⟩) ?_
  refine hldX (S := S) (b := g) (fun w hw => by obtain ⟨L, hw⟩ := hw; exact ⟨_, hw⟩) 1 (x := d.ep) ?_
  refine hldX (S := S) (b := g) (fun w hw => by obtain ⟨L, hw⟩ := hw; exact ⟨_, hw⟩) 0 (x := d.ba) ?_
  have h5 : Sat W w7.drew (EcR p.ae r.ec :: Blk g d.cells T_api_Batch :: Blk a (rpcells r p) T_replica_Replica :: LgR p.al b r.log :: PtR p.at_ (r.pt.apply d.bd) :: IsR p.isr r.isr :: IsR p.asked r.asked :: MpP .i64 p.pm PeR r.peers :: l) := h3.drew.sel 8 [4, 1, 2, 3, 0, 5, 6, 7]
  refine ecAssign_ok h5 he fun w15 h6 => tyI (k := .int .i64) ⟨⟨_, h6.tail⟩, hK w15 ?_⟩
  exact h6.sel 8 [2, 3, 4, 0, 5, 6, 7]
theorem learn_okL {v3 v4 : Value} (h : Sat W w (Blk a (rpcells0 r p v3 v4) T_replica_Replica :: LgR p.al b r.log :: IsR p.isr r.isr :: IsR p.asked r.asked :: MpP .i64 p.pm PeR r.peers :: l)) (hl : LFit r.log)
    (hK : ∀ pt pe w', Sat W w' (RpL a b r.learn { p with at_ := pt, ae := pe } l) → K (.tuple #[]) w') : CallP P F_replica_Replica_learn [.pointer (some ⟨a, 0, none⟩)] w K := by
  apply c_replica_Replica_learn
  unfold S_replica_Replica_learn
  refine ptNew_ok h fun pt w1 h1 => tyI (k := .ptr) (x := some ⟨pt, 0, none⟩) ?_
  refine ecNew_ok h1 fun pe w4 h2 => tyI (k := .ptr) (x := some ⟨pe, 0, none⟩) ?_
  have h3 : Sat W w4 (Blk a (rpcells0 r p v3 v4) T_replica_Replica :: LgR p.al b r.log :: PtR pt Pt9.new :: EcR pe [] :: IsR p.isr r.isr :: IsR p.asked r.asked :: MpP .i64 p.pm PeR r.peers :: l) := h2.sel 7 [2, 3, 1, 0, 4, 5, 6]
  refine stX h3 3 (v := .pointer (some ⟨pt, 0, none⟩)) (hi := (by show 3 < 12; decide)) fun w7 h4 => ?_
  refine stX h4 4 (v := .pointer (some ⟨pe, 0, none⟩)) (hi := (by show 4 < 12; decide)) fun w9 h5 => ?_
  let q : RpP := { p with at_ := pt, ae := pe }
  let r0 : Rp := { r with pt := Pt9.new, ec := [] }
  have h5 : Sat W w9 (RpL a b r0 q l) := h5
  refine ldX h5 2 (x := some ⟨p.al, 0, none⟩) ?_
  refine read_ok (h5.up 1) hl.b hl.c hl.n (hl.q 0) hl.r fun s w13 h6 => tyI (k := .sl) ?_
  obtain ⟨ds, hds, h7⟩ := sat_bt.1 h6
  have hol := own_len h7 (by decide : 0 < 9)
  have hdl : ds.length = r.all.length := by unfold Rp.all; rw [← hds]; simp
  have hal : r.all.length ≤ 1073741824 := read_len hl _
  have h8 : Sat W w13 (RpL a b r0 q (OwnS elB s ds :: l)) := h7.sel 8 [2, 1, 3, 4, 5, 6, 7, 0]
  refine ⟨fun z w' => ∃ i : Nat, z.1 = i ∧ i ≤ ds.length ∧ Sat W w' (RpL a b ((r.all.take i).foldl Rp.note r0) q (OwnS elB s ds :: l)), fun z _ => ds.length - z.1.toNat, ⟨0, rfl, Nat.zero_le _, h8⟩, ?_⟩
  rintro ⟨i', u⟩ w2 ⟨i, hi, hil, h9⟩
  simp only at hi ⊢
  subst hi
  refine ifB_dec (fun c => ?_) fun c => ?_
  · have hi1 : i < ds.length := by omega
    have hx : ds[i]? = some ds[i] := List.getElem?_eq_getElem hi1
    have hax : r.all[i]? = some ds[i].bd := by
      unfold Rp.all
      rw [← hds, List.getElem?_map, hx]; rfl
    have htk : r.all.take (i + 1) = r.all.take i ++ [ds[i].bd] := take_next hax
    generalize ds[i] = d at hx hax htk
    refine ixEl et_batches (E := elB) rfl (sat_own.1 (h9.up 7)).rdc (by omega) (x := d) (by rw [Int.toNat_natCast]; exact hx) (by omega) fun A hA => ?_
    refine ldAggC (cs := elB.cells d) hA ?_
    refine newAgg (z := zeroDc.cells) h9 (Dc.ones d) fun g w8 h10 => ?_
    refine ldAggB h10 (by kernel_rfl) ?_
    have hn : NtN ((r.all.take i).foldl Rp.note r0) 1073741824 := by
      have := NtN.fold (r.all.take i) (r := r0) (k := 0) ⟨PtN.new, Nat.le_refl _⟩
      have h2 : (r.all.take i).length ≤ 1073741824 := by rw [List.length_take]; omega
      rw [Nat.zero_add] at this
      exact ⟨this.pt.mono h2, Nat.le_trans this.ec h2⟩
    have h11 : Sat W w8 (RpL a b ((r.all.take i).foldl Rp.note r0) q (Blk g (elB.cells d) T_api_Batch :: OwnS elB s ds :: l)) := h10.sel 9 [1, 2, 3, 4, 5, 6, 7, 0, 8]
    have hv : VRd W (OwnS elB s ds :: l) d := (bt_rd hx (h9.cut 0 |>.cut 0 |>.cut 0 |>.cut 0 |>.cut 0 |>.cut 0 |>.cut 0)).1
    refine note_okL (d := d) h11 hv.cons (hn.pt.f (Nat.le_refl _)) hn.ec fun w25 h12 => tupU rfl ?_
    rw [w_i64 (n := (i : Int) + 1) (by omega) (by omega)]
    refine ⟨⟨i + 1, rfl, by omega, ?_⟩, by show ds.length - ((i : Int) + 1).toNat < ds.length - ((i : Int)).toNat; omega⟩
    rw [htk, List.foldl_append]
    exact h12.cut 7
  · have hi2 : i = r.all.length := by omega
    rw [hi2, List.take_length] at h9
    exact hK pt pe w2 (h9.cut 7)
end
end Go.Proofs.YtnjadekngjgjcaaGreatDoor
