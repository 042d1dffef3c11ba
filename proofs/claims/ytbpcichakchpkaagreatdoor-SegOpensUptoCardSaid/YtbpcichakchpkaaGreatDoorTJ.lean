/- Layer 8: what stands in the files, the law's frames. -/
import Derived.Test.YtbpcichakchpkaaGreatDoorTH
namespace Go.Pk
open Go
theorem run_strLH {P : Program} {ts : TypeId} (hs : P.underlying ts = some .string) {s : ByteArray} {lo hi : Int} (h0 : 0 ≤ lo) (h01 : lo ≤ hi) (h1 : hi ≤ s.size) (w : World) {j k : IntKind} :
    (Instr.sliceAt ts (.string s) (some (.int j lo)) (some (.int k hi)) none).run P w = .ok (.string (s.extract lo.toNat hi.toNat)) w := by
  have e1 : (0 ≤ hi ∧ hi ≤ (s.size : Int)) := ⟨by omega, h1⟩
  have e2 : (0 ≤ lo ∧ lo ≤ (hi.toNat : Int)) := ⟨h0, by omega⟩
  have e3 : ¬ (max hi 0 < lo) := by omega
  simp [Instr.sliceAt, Instr.slice, run_underlying hs, Sem.run_bind, Instr.sliceBounds, Instr.sliceBound, asIntOf, Sem.run, e1, e2]
  intro h; exact absurd h e3
end Go.Pk
namespace Go.Proofs.YtbpcichakchpkaaGreatDoor
open Go Go.Pk
def inB (n m : Int) (x : Bd) : Bool := decide (n ≤ x.ba) && decide (x.fin ≤ m)
theorem in_group {gs : Gr} {pre post : Gr} {p : Int × List Bd} (hg : GCh gs) (e : gs = pre ++ p :: post) : (allB gs).filter (inB p.1 (chEnd p.1 p.2)) = p.2 := by
  have hp : p ∈ gs := by rw [e]; simp
  have hch := (gch_mem hg hp).1
  have hm := chain_mem _ _ hch
  have e1 : allB gs = allB pre ++ (p.2 ++ allB post) := by rw [e, allB_app]; simp [allB]
  have hpre : ∀ (b a : Gr), GCh (a ++ b) → GCh a := by
    intro b
    induction b with
    | nil => intro a h; simpa using h
    | cons x b ih =>
      intro a h
      have e : a ++ x :: b = (a ++ [x]) ++ b := by simp
      rw [e] at h
      exact ((gch_snoc _ _).1 (ih _ h)).1
  have hsuf : ∀ (a b : Gr), GCh (a ++ b) → GCh b := by
    intro a
    induction a with
    | nil => intro b h; simpa using h
    | cons x a ih =>
      intro b h
      cases hab : a ++ b with
      | nil =>
        have : b = [] := (List.append_eq_nil_iff.1 hab).2
        subst this; trivial
      | cons y c =>
        have h' : GCh (x :: (a ++ b)) := h
        rw [hab] at h'
        have := h'.2.2.2
        rw [← hab] at this
        exact ih b this
  rw [e1, List.filter_append, List.filter_append, filter_no, filter_all, filter_no, List.nil_append, List.append_nil]
  · intro x hx
    have hg2 : GCh (p :: post) := hsuf pre _ (e ▸ hg)
    cases hq : post with
    | nil => rw [hq] at hx; cases hx
    | cons q qs =>
      rw [hq] at hg2 hx
      have hc := gch_chain _ hg2.2.2.2
      have := (chain_mem _ _ hc.1).2.2 x hx
      have e5 : grStart (q :: qs) = q.1 := rfl
      have e6 := hg2.2.2.1
      unfold inB
      rw [Bool.and_eq_false_iff]
      exact .inr (decide_eq_false (by omega))
  · intro x hx
    have := hm.2.2 x hx
    unfold inB
    rw [Bool.and_eq_true]
    exact ⟨decide_eq_true (by omega), decide_eq_true (by omega)⟩
  · intro x hx
    have hg2 : GCh (pre ++ [p]) := hpre post _ (by rw [List.append_assoc]; exact e ▸ hg)
    have h3 := (gch_snoc _ _).1 hg2
    have hne : pre ≠ [] := by intro h0; rw [h0] at hx; cases hx
    have hc := gch_chain _ h3.1
    have := (chain_mem _ _ hc.1).2.2 x hx
    have h4 := h3.2.2.1 hne
    unfold inB
    rw [Bool.and_eq_false_iff]
    exact .inl (decide_eq_false (by omega))
section
variable {W w : World} {l : List Res} {K : Value → World → Prop}
theorem lend_ok {d : Dc} (h : Sat W w l) (hv : VRd W l d) (hb : d.bs.length < 1099511627776) (hf : 0 ≤ d.ba ∧ d.bd.fin < 9223372036854775808) (hK : ∀ w', Sat W w' l → K (.int .i64 d.bd.fin) w') : CallP P F_law08_end [.agg d.cells.toArray] w K := by
  apply c_law08_end
  unfold S_law08_end
  refine boxB h fun a0 w1 h1 => ?_
  have h1 : Sat W w1 (Blk a0 d.cells T_api_Batch :: l) := h1
  have h2 := h1.drew
  let S : World → Prop := fun w => ∃ L, Sat W w (Blk a0 d.cells T_api_Batch :: L)
  refine ⟨S, ⟨_, h2⟩, ?_⟩
  refine hldX (S := S) (fun w hw => hw) 0 (x := d.ba) ?_
  refine hldAggB (S := S) (cs := d.cells) (fun w hw => hw) (by kernel_rfl) ?_
  refine rsize_ok (d := d) h2 hv.cons fun w6 h3 => tyI (k := .int .i64) ⟨⟨_, h3⟩, ?_⟩
  have e1 : d.ba + (if d.ct then 1 else (d.bs.length : Int)) = d.bd.fin := rfl
  have hsz : 0 ≤ d.bd.size := by unfold Bd.size; split <;> omega
  have e2 : d.bd.fin = d.ba + d.bd.size := rfl
  rw [e1, w_i64 (by omega) (by omega)]
  exact hK w6 h3.tail
theorem frames_step (ds : List Dc) (n m : Int) {j : Nat} {d : Dc} (hj : ds[j]? = some d) :
    fsOf (((ds.take (j + 1)).map Dc.bd).filter (inB n m)) = fsOf (((ds.take j).map Dc.bd).filter (inB n m)) ++ if inB n m d.bd = true then frm (encB d) else [] := by
  rw [take_next hj, List.map_append, List.filter_append, fsOf_app]
  congr 1
  by_cases c : inB n m d.bd = true
  · rw [if_pos c]
    have : List.filter (inB n m) (List.map Dc.bd [d]) = [d.bd] := by
      show List.filter _ [d.bd] = _
      rw [List.filter_cons_of_pos c]; rfl
    rw [this, fsOf_one]; rfl
  · rw [if_neg c]
    have : List.filter (inB n m) (List.map Dc.bd [d]) = [] := by
      show List.filter _ [d.bd] = _
      rw [List.filter_cons_of_neg c]; rfl
    rw [this]; rfl
theorem frames_ok {s : Sl} {ds : List Dc} {n m : Int} (h : Sat W w l) (hs : Rd W l s 9 (elB.flat ds)) (hv : ∀ d ∈ ds, VRd W l d ∧ d.num ∧ chk d = 0) (hb : ∀ d ∈ ds, 0 ≤ d.ba ∧ d.bd.fin < 9223372036854775808) (hlen : ds.length ≤ 1073741824)
    (hK : ∀ t w', Sat W w' (BsR t (fsOf ((ds.map Dc.bd).filter (inB n m))) :: l) → K t.v w') : CallP P F_law08_frames [s.v, .int .i64 n, .int .i64 m] w K := by
  apply c_law08_frames
  unfold S_law08_frames
  have hsl : s.len = ds.length := by have h1 := (hs w h).1; have h2 := flat_length (E := elB) ds; have e : elB.sz = 9 := rfl; rw [e] at h2; omega
  let F : Nat → List UInt8 := fun j => fsOf (((ds.take j).map Dc.bd).filter (inB n m))
  refine ⟨fun t w' => ∃ j : Nat, t.2.1 = j ∧ j ≤ ds.length ∧ (F j).length ≤ 2008 * j ∧ Sat W w' (BsR t.1 (F j) :: l), fun t _ => ds.length - t.2.1.toNat, ⟨0, rfl, Nat.zero_le _, Nat.zero_le _, Sat.nilSlr h T_uint8 1⟩, ?_⟩
  rintro ⟨t1, tj, u⟩ w2 ⟨j, hj, hjl, hFl, h1⟩
  simp only at hj h1 ⊢
  subst hj
  refine ifB_dec (fun hlt => ?_) fun hge => ?_
  · have hd : ds[j]? = some ds[j] := List.getElem?_eq_getElem (by omega)
    have hmem := List.mem_of_getElem? hd
    generalize ds[j] = d at hd hmem
    obtain ⟨hvd, hnum, hck⟩ := hv d hmem
    have hbd := hb d hmem
    have hst : F (j + 1) = F j ++ if inB n m d.bd = true then frm (encB d) else [] := frames_step ds n m hd
    have hel := encB_len hnum hck
    have hfl : (frm (encB d)).length ≤ 2008 := by rw [frm_len]; omega
    have hsm : d.bs.length ≤ 16 := (Bd.small (x := d.bd) hck).1
    refine ixA et_batches (hs.cons w2 h1) (by omega) (by omega) fun a1 ha1 => ?_
    refine ldAggC (cs := d.cells) (by
      intro k u hu
      refine ha1 k _ (by
        have := (List.getElem?_eq_some_iff.1 hu).1
        have e : d.cells.length = 9 := rfl
        omega) ?_
      exact flat_at (E := elB) (j := k) hd hu) ?_
    refine allocB h1 (z := .agg zeroDc.cells.toArray) (by kernel_rfl) fun a3 w3 h2 => ?_
    have h2 : Sat W w3 (Blk a3 zeroDc.cells T_api_Batch :: BsR t1 (F j) :: l) := h2
    refine stAggB h2 (cs' := d.cells) rfl d.ones (by kernel_rfl) fun w4 h3 => ?_
    refine ldX h3 0 (x := d.ba) ?_
    rw [w_i64 (n := (j : Int) + 1) (by omega) (by omega)]
    have skip : ∀ {w' : World}, ¬ inB n m d.bd = true → Sat W w' (Blk a3 d.cells T_api_Batch :: BsR t1 (F j) :: l) → ∃ i : Nat, (j : Int) + 1 = i ∧ i ≤ ds.length ∧ (F i).length ≤ 2008 * i ∧ Sat W w' (BsR t1 (F i) :: l) := fun {w'} hn hh => by
      rw [if_neg hn, List.append_nil] at hst
      exact ⟨j + 1, by omega, by omega, by rw [hst]; omega, by rw [hst]; exact hh.tail⟩
    refine ifB_dec (fun c => ?_) fun c => ?_
    · refine ldAggB h3 (cs := d.cells) (by kernel_rfl) ?_
      refine lend_ok (d := d) h3 hvd.cons.cons (by omega) hbd fun w11 h4 => tyI (k := .int .i64) ?_
      refine ifB_dec (fun c2 => ?_) fun c2 => ?_
      · have hin : inB n m d.bd = true := by
          unfold inB; rw [Bool.and_eq_true]
          exact ⟨decide_eq_true (show n ≤ d.ba from c), decide_eq_true c2⟩
        rw [if_pos hin] at hst
        refine ldAggB h4 (cs := d.cells) (by kernel_rfl) ?_
        refine rencode_ok h4 hnum hvd.cons.cons (fun hne => absurd hck hne) fun _ s2 w15 h5 => tup2 ?_
        refine rframe_ok (p := encB d) h5 Rd.own (by omega) fun s3 w18 h6 => tup2 ?_
        have h7 : Sat W w18 (BsR t1 (F j) :: BsR s3 (frm (encB d)) :: l) := h6.sel 4 [3, 0]
        refine appBytes h7 (Sat.rdc (h7.up 1)) (by omega) fun s4 w21 h8 => ?_
        rw [← hst] at h8
        exact ⟨⟨j + 1, by show (j : Int) + 1 = _; omega, by omega, by rw [hst, List.length_append]; omega, h8.cut 1⟩, by show ds.length - ((j : Int) + 1).toNat < ds.length - (j : Int).toNat; omega⟩
      · have hin : ¬ inB n m d.bd = true := by
          unfold inB; rw [Bool.and_eq_true]
          rintro ⟨_, h2⟩
          exact c2 (of_decide_eq_true h2)
        exact ⟨skip hin h4, by show ds.length - ((j : Int) + 1).toNat < ds.length - (j : Int).toNat; omega⟩
    · have hin : ¬ inB n m d.bd = true := by
        unfold inB; rw [Bool.and_eq_true]
        rintro ⟨h2, _⟩
        exact c (of_decide_eq_true h2)
      exact ⟨skip hin h3, by show ds.length - ((j : Int) + 1).toNat < ds.length - (j : Int).toNat; omega⟩
  · have e : F j = fsOf ((ds.map Dc.bd).filter (inB n m)) := by
      show fsOf (((ds.take j).map Dc.bd).filter _) = _
      rw [List.take_of_length_le (by omega)]
    rw [e] at h1
    exact hK t1 w2 h1
end
end Go.Proofs.YtbpcichakchpkaaGreatDoor
