/- Layer 14: what a replica answers about its log. -/
import Derived.Test.YtnjadekngjgjcaaGreatDoorUK
namespace Go.Proofs.YtnjadekngjgjcaaGreatDoor
open Go Go.Pk
theorem read_mem {g : Lg} {frm n : Int} {x : Bd} (h : x ∈ g.read frm n) : ∃ s ∈ g.segs, x ∈ s.bt := by
  unfold Lg.read at h
  have h1 := List.mem_of_mem_take h
  unfold segB at h1
  obtain ⟨s, hs, hx⟩ := List.mem_flatMap.1 h1
  exact ⟨s, (List.mem_filter.1 hs).1, (List.mem_filter.1 hx).1⟩
theorem read_fin {g : Lg} {frm n : Int} {x : Bd} (F : LFit g) (h : x ∈ g.read frm n) : 0 ≤ x.ba ∧ x.ba + x.size < 9223372036854775808 ∧ 0 ≤ x.size := by
  obtain ⟨s, hs, hx⟩ := read_mem h
  have := F.b s hs x hx
  refine ⟨this.2, this.1, ?_⟩
  unfold Bd.size; split <;> omega
/-- batches that lie below an offset -/
def below (to_ : Int) (bs : List Bd) : List Bd := bs.filter fun x => decide (x.fin ≤ to_)
theorem below_snoc (to_ : Int) (bs : List Bd) (x : Bd) : below to_ (bs ++ [x]) = below to_ bs ++ if x.fin ≤ to_ then [x] else [] := by
  unfold below
  rw [List.filter_append, List.filter_cons, List.filter_nil]
  by_cases c : x.fin ≤ to_
  · rw [if_pos (by simpa using c), if_pos c]
  · rw [if_neg (by simpa using c), if_neg c]
theorem PtN.fold : ∀ (bs : List Bd) {t : Pt9} {k : Nat}, PtN t k → PtN (bs.foldl Pt9.apply t) (k + bs.length)
  | [], _, _, h => h
  | b :: bs, t, k, h => by
    have := PtN.fold bs (h.apply b)
    rw [List.length_cons, show k + (bs.length + 1) = k + 1 + bs.length by omega]
    exact this
section
variable {W w : World} {l : List Res} {K : Value → World → Prop} {a b : Nat} {r : Rp} {p : RpP}
theorem stable_okL (h : Sat W w (RpL a b r p l)) (hF : LFit r.log) (hK : ∀ w', Sat W w' (RpL a b r p l) → K (.int .i64 r.stable) w') : CallP P F_replica_Replica_stable [.pointer (some ⟨a, 0, none⟩)] w K := by
  apply c_replica_Replica_stable
  unfold S_replica_Replica_stable
  refine ptNew_ok h fun pt w1 h1 => tyI (k := .ptr) (x := some ⟨pt, 0, none⟩) ?_
  refine ldX (h1.up 1) 2 (x := some ⟨p.al, 0, none⟩) ?_
  refine read_ok (h1.up 2) hF.b hF.c hF.n (hF.q 0) hF.r fun s w6 h2 => tyI (k := .sl) ?_
  obtain ⟨ds, hds, h3⟩ := sat_bt.1 h2
  have hol := own_len h3 (by decide : 0 < 9)
  have hdl : ds.length = r.all.length := by unfold Rp.all; rw [← hds]; simp
  have hal : r.all.length ≤ 1073741824 := read_len hF _
  have h4 : Sat W w6 (PtR pt Pt9.new :: RpL a b r p (OwnS elB s ds :: l)) := h3.sel 9 [2, 3, 1, 4, 5, 6, 7, 8, 0]
  refine ⟨fun z w' => ∃ i : Nat, z.1 = i ∧ i ≤ ds.length ∧ Sat W w' (PtR pt (Pt9.of (below r.high (r.all.take i))) :: RpL a b r p (OwnS elB s ds :: l)), fun z _ => ds.length - z.1.toNat, ⟨0, rfl, Nat.zero_le _, h4⟩, ?_⟩
  rintro ⟨i', u⟩ w2 ⟨i, hi, hil, h5⟩
  simp only at hi ⊢
  subst hi
  refine ifB_dec (fun c => ?_) fun c => ?_
  · have hi1 : i < ds.length := by omega
    have hx : ds[i]? = some ds[i] := List.getElem?_eq_getElem hi1
    have hax : r.all[i]? = some ds[i].bd := by
      unfold Rp.all
      rw [← hds, List.getElem?_map, hx]; rfl
    have htk : r.all.take (i + 1) = r.all.take i ++ [ds[i].bd] := take_next hax
    have hfin := read_fin hF (List.mem_of_getElem? hax)
    generalize ds[i] = d at hx hax htk hfin
    have hv : VRd W (OwnS elB s ds :: l) d := (bt_rd hx (h5.cut 0 |>.cut 0 |>.cut 0 |>.cut 0 |>.cut 0 |>.cut 0 |>.cut 0 |>.cut 0)).1
    refine ixEl et_batches (E := elB) rfl (sat_own.1 (h5.up 8)).rdc (by omega) (x := d) (by rw [Int.toNat_natCast]; exact hx) (by omega) fun A hA => ?_
    refine ldAggC (cs := elB.cells d) hA ?_
    refine newAgg (z := zeroDc.cells) h5 (Dc.ones d) fun g w8 h6 => ?_
    have h7 : Sat W w8 (Blk g d.cells T_api_Batch :: PtR pt (Pt9.of (below r.high (r.all.take i))) :: RpL a b r p (OwnS elB s ds :: l)) := h6
    let S : World → Prop := fun w => ∃ L, Sat W w (Blk g d.cells T_api_Batch :: Blk a (rpcells r p) T_replica_Replica :: L)
    have hS : ∀ {w'}, Sat W w' (Blk g d.cells T_api_Batch :: PtR pt (Pt9.of (below r.high (r.all.take i))) :: RpL a b r p (OwnS elB s ds :: l)) → S w' := fun h => ⟨_, h.sel 3 [0, 2, 1]⟩
    refine ⟨S, hS h7.drew, ?_⟩
    refine hldX (S := S) (b := g) (fun w hw => by obtain ⟨L, hw⟩ := hw; exact ⟨_, hw⟩) 0 (x := d.ba) ?_
    refine hldAggX (S := S) (b := g) 0 9 (fun w hw => by obtain ⟨L, hw⟩ := hw; exact ⟨_, hw⟩) ?_ (by show 0 + 9 ≤ 9; decide)
    refine hldX (S := S) (b := a) (fun w hw => by obtain ⟨L, hw⟩ := hw; exact ⟨_, hw.swap⟩) 8 (x := r.high) ?_
    refine size_ok (d := d) h7.drew hv.cons.cons.cons.cons.cons.cons.cons.cons.cons fun w22 h8 => tyI (k := .int .i64) ⟨hS h8, ?_⟩
    have e1 : d.ba + (if d.ct then 1 else (d.bs.length : Int)) = d.bd.fin := rfl
    have e2 : d.bd.fin = d.bd.ba + d.bd.size := rfl
    rw [e1, w_i64 (n := d.bd.fin) (by omega) (by omega), w_i64 (n := (i : Int) + 1) (by omega) (by omega)]
    have dec : ds.length - ((i : Int) + 1).toNat < ds.length - ((i : Int)).toNat := by omega
    refine ifB_dec (fun c2 => ?_) fun c2 => ?_
    · refine ldAggB h8 (by kernel_rfl) ?_
      have hb : PtN (Pt9.of (below r.high (r.all.take i))) 1073741824 := by
        have := PtN.fold (below r.high (r.all.take i)) PtN.new
        refine this.mono ?_
        have h1 : (below r.high (r.all.take i)).length ≤ (r.all.take i).length := List.length_filter_le _ _
        rw [List.length_take] at h1
        omega
      refine apply_ok (d := d) (h8.swap) hv.cons.cons.cons.cons.cons.cons.cons.cons (hb.f (Nat.le_refl _)) fun w26 h9 => tupU rfl ⟨⟨i + 1, rfl, by omega, ?_⟩, dec⟩
      have e3 : Pt9.of (below r.high (r.all.take (i + 1))) = (Pt9.of (below r.high (r.all.take i))).apply d.bd := by
        unfold Pt9.of
        rw [htk, below_snoc, if_pos c2, List.foldl_append]; rfl
      rw [e3]
      exact h9.cut 1
    · refine ⟨⟨i + 1, rfl, by omega, ?_⟩, dec⟩
      have e3 : below r.high (r.all.take (i + 1)) = below r.high (r.all.take i) := by
        rw [htk, below_snoc, if_neg c2, List.append_nil]
      rw [e3]
      exact h8.tail
  · have hi2 : i = r.all.length := by omega
    rw [hi2, List.take_length] at h5
    have est : r.stable = match (Pt9.of (below r.high r.all)).unst with | some x => x | none => r.high := rfl
    rw [est] at hK
    refine unst_ok h5 fun w29 h6 => ?_
    have h7 : Sat W w29 (RpL a b r p l) := h6.tail.cut 7
    cases hu : (Pt9.of (below r.high r.all)).unst with
    | none =>
      rw [hu] at hK
      refine ⟨(0, false, ()), rfl, ?_⟩
      simp only [ifB_false]
      refine ldX h7 8 (x := r.high) ?_
      exact hK w29 h7
    | some x =>
      rw [hu] at hK
      refine ⟨(x, true, ()), rfl, ?_⟩
      simp only [ifB_true]
      exact hK w29 h7
theorem ready_okL (h : Sat W w (RpL a b r p l)) (hK : ∀ w', Sat W w' (RpL a b r p l) → K (.bool r.ready) w') : CallP P F_replica_Replica_Ready [.pointer (some ⟨a, 0, none⟩)] w K := by
  apply c_replica_Replica_Ready
  unfold S_replica_Replica_Ready
  unfold Rp.ready at hK
  refine ifB_intro (fun _ => ?_) fun c => absurd c (by simp)
  refine ldX h.drew 6 (x := r.leads) ?_
  refine ifB_intro (fun c => ?_) fun c => ?_
  · rw [c, Bool.true_and] at hK
    refine ldX h.drew 8 (x := r.high) ?_
    refine ldX h.drew 7 (x := r.begin_) ?_
    exact hK _ h.drew
  · rw [c, Bool.false_and] at hK
    exact hK _ h.drew
theorem marks_okL (h : Sat W w (RpL a b r p l)) (hF : LFit r.log) (hK : ∀ w', Sat W w' (RpL a b r p l) → K (.tuple #[.int .i64 r.log.start, .int .i64 r.log.fin, .int .i64 r.high, .int .i64 r.stable]) w') : CallP P F_replica_Replica_Marks [.pointer (some ⟨a, 0, none⟩)] w K := by
  apply c_replica_Replica_Marks
  unfold S_replica_Replica_Marks
  refine ifB_intro (fun c => absurd c (by simp)) fun _ => ?_
  let S : World → Prop := fun w => ∃ L, Sat W w (Blk a (rpcells r p) T_replica_Replica :: L)
  have h1 := h.drew
  refine ⟨S, ⟨_, h1⟩, ?_⟩
  refine hldX (S := S) (b := a) (fun w hw => hw) 2 (x := some ⟨p.al, 0, none⟩) ?_
  refine hldX (S := S) (b := a) (fun w hw => hw) 2 (x := some ⟨p.al, 0, none⟩) ?_
  refine hldX (S := S) (b := a) (fun w hw => hw) 8 (x := r.high) ?_
  refine start_ok (h1.up 1) (tyI (k := .int .i64) ⟨⟨_, h1⟩, ?_⟩)
  refine fin_ok (h1.up 1) hF.b fun w11 h2 => tyI (k := .int .i64) ?_
  have h3 : Sat W w11 (RpL a b r p l) := h2.swap
  refine ⟨⟨_, h3⟩, ?_⟩
  refine stable_okL h3 hF fun w14 h4 => tyI (k := .int .i64) ⟨⟨_, h4⟩, hK w14 h4⟩
theorem ldAggK {g : Nat} {cs : List Value} {T t : TypeId} (h : Sat W w (Blk g cs T :: l)) {K : Value → Prop} (hK : K (.agg cs.toArray)) (ht : aggT P t cs.length = true := by kernel_rfl) : LoadK .val P t (.pointer (some ⟨g, 0, none⟩)) w K := ldAggB (K := K) h ht hK
def Fq.cells (q : Fq) : List Value := [.int .i64 q.part, .int .i64 q.epoch, .int .i64 q.node, .int .i64 q.off, .int .i64 q.last]
theorem Fq.ones (q : Fq) : ∀ u ∈ q.cells, u.oneCell' = true := fun u hu => by
  simp only [Fq.cells, List.mem_cons, List.not_mem_nil, or_false] at hu
  rcases hu with rfl | rfl | rfl | rfl | rfl <;> rfl
end
end Go.Proofs.YtnjadekngjgjcaaGreatDoor
