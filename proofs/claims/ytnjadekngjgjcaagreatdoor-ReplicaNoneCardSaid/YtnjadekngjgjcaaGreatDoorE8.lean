/- Texts of mine, put together: SP, SQ, SR, SS, ST. -/
import Derived.Test.YtnjadekngjgjcaaGreatDoorE7
import Derived.Laws.RangeAny
import Derived.Lib.AtoiAllCases
import Derived.Stop.IfaceNil
/- Layer 8: does a name have a dot? -/
namespace Go.Pk
open Go
theorem decode_step (s : ByteArray) (pos : Nat) (h : pos < s.size) : 1 ≤ (Utf8.decode s pos).2 ∧ pos + (Utf8.decode s pos).2 ≤ s.size ∧ (128 ≤ (s.get! pos).toNat → ∀ j, j < (Utf8.decode s pos).2 → 128 ≤ (s.get! (pos + j)).toNat) := by
  simp only [Utf8.decode, Nat.add_zero]
  have key : ∀ k, (decide (pos + k < s.size) && (s.get! (pos + k)).toNat / 64 == 2) = true → pos + k < s.size ∧ 128 ≤ (s.get! (pos + k)).toNat := fun k hk => by
    simp only [Bool.and_eq_true, decide_eq_true_eq, beq_iff_eq] at hk
    omega
  have one : ∀ {c : Nat}, 1 ≤ ((c, 1) : Nat × Nat).2 ∧ pos + ((c, 1) : Nat × Nat).2 ≤ s.size ∧ (128 ≤ (s.get! pos).toNat → ∀ j, j < ((c, 1) : Nat × Nat).2 → 128 ≤ (s.get! (pos + j)).toNat) := by
    intro c
    refine ⟨Nat.le_refl _, h, fun h0 j hj => ?_⟩
    have : j = 0 := by have : j < 1 := hj; omega
    subst this; exact h0
  split
  · exact one
  · split
    · rename_i h1
      simp only [Bool.and_eq_true] at h1
      obtain ⟨a1, a2⟩ := key 1 (by simpa using h1.2)
      split
      · refine ⟨Nat.le_add_left 1 1, a1, fun h0 j hj => ?_⟩
        have hj : j < 2 := hj
        rcases (by omega : j = 0 ∨ j = 1) with rfl | rfl
        · exact h0
        · exact a2
      · exact one
    · split
      · rename_i h1
        simp only [Bool.and_eq_true] at h1
        obtain ⟨a1, a2⟩ := key 1 (by simpa using h1.1.2)
        obtain ⟨b1, b2⟩ := key 2 (by simpa using h1.2)
        split
        · refine ⟨Nat.le_add_left 1 2, b1, fun h0 j hj => ?_⟩
          have hj : j < 3 := hj
          rcases (by omega : j = 0 ∨ j = 1 ∨ j = 2) with rfl | rfl | rfl
          · exact h0
          · exact a2
          · exact b2
        · exact one
      · split
        · rename_i h1
          simp only [Bool.and_eq_true] at h1
          obtain ⟨a1, a2⟩ := key 1 (by simpa using h1.1.1.2)
          obtain ⟨b1, b2⟩ := key 2 (by simpa using h1.1.2)
          obtain ⟨c1, c2⟩ := key 3 (by simpa using h1.2)
          split
          · refine ⟨Nat.le_add_left 1 3, c1, fun h0 j hj => ?_⟩
            have hj : j < 4 := hj
            rcases (by omega : j = 0 ∨ j = 1 ∨ j = 2 ∨ j = 3) with rfl | rfl | rfl | rfl
            · exact h0
            · exact a2
            · exact b2
            · exact c2
          · exact one
        · exact one
theorem iter_below (w : World) (s : ByteArray) (p : Nat) : RowKit.Below w.heap.size w (w.iter s p) :=
  ⟨rfl, rfl, rfl, by show w.heap.size ≤ (w.heap.push _).size; simp, fun i hi => by
    show (w.heap.push _)[i]? = _
    rw [Array.getElem?_push_lt hi, Array.getElem?_eq_getElem hi]⟩
end Go.Pk
namespace Go.Proofs.YtnjadekngjgjcaaGreatDoor
open Go Go.Pk
section
variable {W w : World} {l : List Res} {K : Value → World → Prop}
theorem dotted_ok {n : List UInt8} (h : Sat W w l) (hK : ∀ w', Sat W w' l → K (.bool (decide (46 ∈ n))) w') : CallP P F_seglog_dotted [.string (vK n)] w K := by
  apply c_seglog_dotted
  unfold S_seglog_dotted
  have ht : P.underlying T_string = some .string := by kernel_rfl
  refine ⟨⟨w.heap.size, 0, none⟩, _, run_range_string w T_string (vK n) ht, ?_⟩
  have hg : ∀ j (hj : j < n.length), (vK n).get! j = n[j] := fun j hj => by
    show n.toArray[j]! = n[j]
    rw [getElem!_pos n.toArray j (by simpa using hj)]; simp
  have hsz : (vK n).size = n.length := by show n.toArray.size = _; simp
  refine ⟨fun _ w' => ∃ pos, pos ≤ n.length ∧ w' = w.iter (vK n) pos ∧ ∀ j, j < pos → (vK n).get! j ≠ 46, fun _ w' => n.length - w'.iterPos w.heap.size, ⟨0, Nat.zero_le _, rfl, fun j hj => absurd hj (by omega)⟩, ?_⟩
  rintro _ w4 ⟨pos, hp, rfl, hno⟩
  by_cases hlt : pos < n.length
  · have hlt' : pos < (vK n).size := by omega
    obtain ⟨d1, d2, d3⟩ := decode_step (vK n) pos hlt'
    refine ⟨_, _, run_next_any w (vK n) pos 0 hlt', .inr ⟨_, _, rfl, ?_⟩⟩
    refine ⟨(pos : Int), rfl, ((Utf8.decode (vK n) pos).1 : Int), rfl, ?_⟩
    refine ifB_beq (fun c => ?_) fun c => ?_
    · have h46 : (vK n).get! pos = 46 := by
        by_cases hh : ((vK n)[pos]'hlt').toNat < 128
        · rw [decode_ascii (vK n) pos hlt' hh] at c
          have e : (vK n).get! (pos + 0) = (vK n)[pos]'hlt' := get_at _ _ hlt'
          rw [Nat.add_zero] at e
          rw [e]
          apply UInt8.toNat_inj.1
          show ((vK n)[pos]'hlt').toNat = 46
          omega
        · have := (decode_high (vK n) pos hlt' (by omega)).1
          omega
      have hm : 46 ∈ n := by rw [hg pos hlt] at h46; rw [← h46]; exact List.getElem_mem hlt
      have := hK (w.iter (vK n) (pos + (Utf8.decode (vK n) pos).2)) (h.grownB (iter_below w _ _))
      rw [decide_eq_true hm] at this
      exact this
    · refine ⟨⟨pos + (Utf8.decode (vK n) pos).2, by omega, rfl, fun j hj => ?_⟩, ?_⟩
      · by_cases h0 : j < pos
        · exact hno j h0
        · by_cases hh : 128 ≤ ((vK n).get! pos).toNat
          · have := d3 hh (j - pos) (by omega)
            rw [show pos + (j - pos) = j from by omega] at this
            intro h46
            rw [h46] at this
            exact absurd this (by decide)
          · have e : (vK n).get! (pos + 0) = (vK n)[pos]'hlt' := get_at _ _ hlt'
            rw [Nat.add_zero] at e
            have hd := decode_ascii (vK n) pos hlt' (by rw [← e]; omega)
            rw [hd] at hj c
            simp only at hj c
            have : j = pos := by omega
            subst this
            intro h46
            rw [e] at h46
            rw [h46] at c
            exact c rfl
      · show n.length - (w.iter (vK n) (pos + (Utf8.decode (vK n) pos).2)).iterPos w.heap.size < n.length - (w.iter (vK n) pos).iterPos w.heap.size
        rw [World.iterPos_iter, World.iterPos_iter]; omega
  · refine ⟨_, _, run_next_end w (vK n) pos 0 (by omega), .inl ⟨rfl, ?_⟩⟩
    have hm : ¬ 46 ∈ n := by
      intro hm
      obtain ⟨j, hj, e⟩ := List.getElem_of_mem hm
      exact hno j (by omega) (by rw [hg j hj, e])
    have := hK (w.iter (vK n) pos) (h.grownB (iter_below w _ _))
    rw [decide_eq_false hm] at this
    exact this
end
end Go.Proofs.YtnjadekngjgjcaaGreatDoor

/- Layer 8: a log is read. -/
namespace Go.Proofs.YtnjadekngjgjcaaGreatDoor
open Go Go.Pk
/-- batches that end behind an offset -/
def behind (frm : Int) (bs : List Bd) : List Bd := bs.filter fun x => decide (frm < x.fin)
def segB (frm : Int) (ss : List Sg) : List Bd := (ss.filter fun s => decide (frm < s.fin)).flatMap fun s => behind frm s.bt
def Lg.read (g : Lg) (frm n : Int) : List Bd := (segB frm g.segs).take n.toNat
def LgC (g : Lg) : Prop := ∀ s ∈ g.segs, ∀ x ∈ s.bt, x.chk = 0
theorem segB_app (frm : Int) (x y : List Sg) : segB frm (x ++ y) = segB frm x ++ segB frm y := by simp [segB]
theorem behind_app (frm : Int) (x y : List Bd) : behind frm (x ++ y) = behind frm x ++ behind frm y := by simp [behind]
theorem take_next {α : Type} {xs : List α} {i : Nat} {x : α} (h : xs[i]? = some x) : xs.take (i + 1) = xs.take i ++ [x] := by
  rw [List.take_add_one, h]; rfl
theorem Bd.small {x : Bd} (h : x.chk = 0) : x.bs.length ≤ 16 ∧ ∀ v ∈ x.bs, v.length ≤ 64 := by
  have hsm := (chk0 (d := x.dc) h).2.2
  unfold bad2 at hsm
  have e : x.dc.bs = x.bs := rfl
  rw [e] at hsm
  refine ⟨?_, fun y hy => ?_⟩
  · rcases Nat.lt_or_ge 16 x.bs.length with h | h
    · exact absurd (.inl h) hsm
    · exact h
  · rcases Nat.lt_or_ge 64 y.length with h | h
    · exact absurd (.inr ⟨y, hy, h⟩) hsm
    · omega
section
variable {W w : World} {l : List Res} {K : Value → World → Prop} {a b : Nat} {g : Lg}
/-- a log, one of its segments opened -/
abbrev SgL (a b : Nat) (g : Lg) (p : LgP) (i : Nat) (x : Nat × Sg) (bs es : Sl) (ds : List Dc) (l : List Res) : List Res :=
  Blk x.1 (scells x.2 bs es) T_seglog_segment :: OwnS elB bs ds :: IsR es x.2.ends :: SlR elS.T elS.sz p.sl (elS.flat p.cs) :: All ((p.cs.map elS.own).eraseIdx i) :: Blk a (lcells b g p) T_seglog_Log :: FrR p.fr :: l
theorem sg_open {p : LgP} {i : Nat} {x : Nat × Sg} (hx : p.cs[i]? = some x) (h : Sat W w (LgL a b g p l)) : ∃ bs es ds, ds.map Dc.bd = x.2.bt ∧ Sat W w (SgL a b g p i x bs es ds l) := by
  have h1 := own_open hx (h.up 2)
  obtain ⟨bs, es, h2⟩ := sat_sg.1 (show Sat W _ (SgR x.1 x.2 :: _) from h1)
  obtain ⟨ds, hds, h3⟩ := sat_bt.1 (h2.up 1)
  exact ⟨bs, es, ds, hds, h3.swap⟩
theorem sg_close {p : LgP} {i : Nat} {x : Nat × Sg} {bs es : Sl} {ds : List Dc} (hx : p.cs[i]? = some x) (hds : ds.map Dc.bd = x.2.bt) (h : Sat W w (SgL a b g p i x bs es ds l)) : Sat W w (LgL a b g p l) := by
  have h1 := sat_bt.2 ⟨ds, hds, h.up 1⟩
  have h2 : Sat W w (SgR x.1 x.2 :: SlR elS.T elS.sz p.sl (elS.flat p.cs) :: All ((p.cs.map elS.own).eraseIdx i) :: Blk a (lcells b g p) T_seglog_Log :: FrR p.fr :: l) := sat_sg.2 ⟨bs, es, h1.swap⟩
  have h3 := own_back (E := elS) (y := x) hx rfl h2
  have hset : p.cs.set i x = p.cs := by
    obtain ⟨hlt, hxx⟩ := List.getElem?_eq_some_iff.1 hx
    rw [← hxx, List.set_getElem_self]
  rw [hset] at h3
  exact h3.sel 3 [1, 2, 0]
theorem bt_at {p : LgP} {i : Nat} {x : Nat × Sg} {bs es : Sl} {ds : List Dc} {j : Nat} {d : Dc} (hj : ds[j]? = some d) (h : Sat W w (SgL a b g p i x bs es ds l)) {K : Value → Prop} (hK : K (.agg d.cells.toArray)) :
    RunQ .addr P (Instr.indexAt T_sl_api_Batch bs.v (.int .i64 (j : Int))) w fun a => RunQ .val P (Instr.loadAt T_api_Batch (.pointer (some a))) w K := by
  have hol := own_len (h.up 1) (by decide : 0 < 9)
  have hlt := (List.getElem?_eq_some_iff.1 hj).1
  refine ixA et_batches (sat_own.1 (h.up 1)).rdc (by omega) (by omega) fun a1 ha1 => ?_
  refine ldAggC (cs := d.cells) ?_ hK
  intro k u hu
  refine ha1 k _ (by
    have := (List.getElem?_eq_some_iff.1 hu).1
    have e : d.cells.length = 9 := rfl
    omega) ?_
  have := flat_at (E := elB) (j := k) hj hu
  exact this
theorem read_ok {frm n : Int} (h : Sat W w (LgR a b g :: l)) (hb : LgB g) (hc : LgC g) (hs : g.segs.length ≤ 1073741824) (hn : (segB frm g.segs).length ≤ 1073741824) (hr : ∀ s ∈ g.segs, s.bt.length ≤ 1073741824)
    (hK : ∀ s w', Sat W w' (BtR s (g.read frm n) :: LgR a b g :: l) → K s.v w') : CallP P F_seglog_Log_Read [.pointer (some ⟨a, 0, none⟩), .int .i64 frm, .int .i64 n] w K := by
  apply c_seglog_Log_Read
  unfold S_seglog_Log_Read
  refine ifB_intro (fun c => absurd c (by simp)) fun _ => ?_
  obtain ⟨p, hp, h1⟩ := sat_lg.1 h
  have hol := own_len (h1.up 2) (by decide : 0 < 1)
  have hcl : p.cs.length = g.segs.length := by rw [← hp]; simp
  refine ldX h1 3 (x := p.sl) ?_
  refine ⟨fun t w' => ∃ i : Nat, t.2.1 = i ∧ i ≤ p.cs.length ∧ (segB frm (g.segs.take i)).length ≤ n.toNat ∧ Sat W w' (BtR t.1 (segB frm (g.segs.take i)) :: LgL a b g p l), fun t _ => p.cs.length - t.2.1.toNat, ⟨0, rfl, Nat.zero_le _, Nat.zero_le _, sat_bt.2 ⟨[], rfl, own_nil (E := elB) h1⟩⟩, ?_⟩
  rintro ⟨t1, ti, u⟩ w4 ⟨i, hi, hil, hlen, h2⟩
  simp only at hi h2 ⊢
  subst hi
  refine ifB_dec (fun hlt => ?_) fun hge => ?_
  · have hlt' : i < p.cs.length := by omega
    have hx : p.cs[i]? = some p.cs[i] := List.getElem?_eq_getElem hlt'
    generalize p.cs[i] = x at hx
    have hxs : g.segs[i]? = some x.2 := by rw [← hp, List.getElem?_map, hx]; rfl
    have hm : x.2 ∈ g.segs := List.mem_of_getElem? hxs
    refine sg_ptr (i := (i : Int)) (x := x) (by omega) hx (Sat.up (L := BtR t1 _ :: LgL a b g p l) h2 3) ?_
    have h3 : Sat W w4 (LgL a b g p (BtR t1 (segB frm (g.segs.take i)) :: l)) := h2.sel 4 [1, 2, 3, 0]
    have h4 := own_open hx (h3.up 2)
    have hset : p.cs.set i x = p.cs := by
      obtain ⟨hlt, hxx⟩ := List.getElem?_eq_some_iff.1 hx
      rw [← hxx, List.set_getElem_self]
    refine segEnd_ok (p := x.1) (s := x.2) h4 (hb x.2 hm) fun w8 h5 => tyI (k := .int .i64) ?_
    have h6 := own_back (E := elS) (y := x) hx rfl h5
    rw [hset] at h6
    have h7 : Sat W w8 (LgL a b g p (BtR t1 (segB frm (g.segs.take i)) :: l)) := h6.sel 3 [1, 2, 0]
    have hstep : segB frm (g.segs.take (i + 1)) = segB frm (g.segs.take i) ++ if frm < x.2.fin then behind frm x.2.bt else [] := by
      rw [take_next hxs, segB_app]
      congr 1
      unfold segB
      by_cases c : frm < x.2.fin
      · rw [List.filter_cons_of_pos (by simpa using c), if_pos c]; simp
      · rw [List.filter_cons_of_neg (by simpa using c), if_neg c]; rfl
    have hstep2 : ((i : Nat) : Int) + 1 = ((i + 1 : Nat) : Int) := by omega
    refine ifB_dec (fun c => ?_) fun c => ?_
    · rw [if_neg (by omega), List.append_nil] at hstep
      rw [w_i64 (n := (i : Int) + 1) (by omega) (by omega)]
      exact ⟨⟨i + 1, hstep2, by omega, by rw [hstep]; exact hlen, by rw [hstep]; exact h7.sel 4 [3, 0, 1, 2]⟩, by show p.cs.length - ((i : Int) + 1).toNat < p.cs.length - (i : Int).toNat; omega⟩
    · rw [if_pos (by omega)] at hstep
      obtain ⟨bs, es, ds, hds, h8⟩ := sg_open hx h7
      have hol2 := own_len (h8.up 1) (by decide : 0 < 9)
      refine ldX h8 3 (x := bs) ?_
      have hdl : ds.length = x.2.bt.length := by rw [← hds]; simp
      have hbl := hr x.2 hm
      -- a prefix of the whole
      have hpre : ∀ j, segB frm (g.segs.take i) ++ behind frm (x.2.bt.take j) <+: segB frm g.segs := by
        intro j
        have e1 : segB frm g.segs = segB frm (g.segs.take (i + 1)) ++ segB frm (g.segs.drop (i + 1)) := by rw [← segB_app, List.take_append_drop]
        have e2 : behind frm x.2.bt = behind frm (x.2.bt.take j) ++ behind frm (x.2.bt.drop j) := by rw [← behind_app, List.take_append_drop]
        rw [e1, hstep, e2]
        exact ⟨behind frm (x.2.bt.drop j) ++ segB frm (g.segs.drop (i + 1)), by simp only [List.append_assoc]⟩
      refine ⟨fun t w' => ∃ j : Nat, t.2.1 = j ∧ j ≤ ds.length ∧ (segB frm (g.segs.take i) ++ behind frm (x.2.bt.take j)).length ≤ n.toNat ∧ Sat W w' (SgL a b g p i x bs es ds (BtR t.1 (segB frm (g.segs.take i) ++ behind frm (x.2.bt.take j)) :: l)), fun t _ => ds.length - t.2.1.toNat, ⟨0, rfl, Nat.zero_le _, by simpa [behind] using hlen, by simpa [behind] using h8⟩, ?_⟩
      rintro ⟨t2, tj, u2⟩ w14 ⟨j, hj, hjl, hlen2, h9⟩
      simp only at hj h9 ⊢
      subst hj
      refine ifB_dec (fun hlt2 => ?_) fun hge2 => ?_
      · have hlt2' : j < ds.length := by omega
        have hd : ds[j]? = some ds[j] := List.getElem?_eq_getElem hlt2'
        generalize ds[j] = d at hd
        have hdb : x.2.bt[j]? = some d.bd := by rw [← hds, List.getElem?_map, hd]; rfl
        have hdm : d.bd ∈ x.2.bt := List.mem_of_getElem? hdb
        refine bt_at hd h9 ?_
        refine allocB h9 (z := .agg zeroDc.cells.toArray) (by kernel_rfl) fun a17 w18 h10 => ?_
        have h10 : Sat W w18 (Blk a17 zeroDc.cells T_api_Batch :: _) := h10
        refine stAggB (cs' := d.cells) h10 rfl d.ones (by kernel_rfl) fun w19 h11 => ?_
        have hbtl := Sat.btLen (h11.up 8)
        refine ifB_dec (fun c2 => ?_) fun c2 => ?_
        · have e : g.read frm n = segB frm (g.segs.take i) ++ behind frm (x.2.bt.take j) := by
            unfold Lg.read
            obtain ⟨r, hr⟩ := hpre j
            rw [← hr]
            exact List.take_left' (by omega)
          have h12 : Sat W w19 (SgL a b g p i x bs es ds (BtR t2 (segB frm (g.segs.take i) ++ behind frm (x.2.bt.take j)) :: l)) := h11.tail
          have h13 := sg_close hx hds h12
          refine hK t2 w19 ?_
          rw [e]
          have h14 := sat_lg.2 ⟨p, hp, h13⟩
          exact h14.swap
        · have h12 := h11.drew
          let S : World → Prop := fun w => ∃ L, Sat W w (Blk a17 d.cells T_api_Batch :: L)
          refine ⟨S, ⟨_, h12⟩, ?_⟩
          refine hldX (S := S) (fun w hw => hw) 0 (x := d.ba) ?_
          refine hldAggB (S := S) (cs := d.cells) (fun w hw => hw) (by kernel_rfl) ?_
          have hv : ∀ {w' : World}, Sat W w' (Blk a17 d.cells T_api_Batch :: SgL a b g p i x bs es ds (BtR t2 (segB frm (g.segs.take i) ++ behind frm (x.2.bt.take j)) :: l)) → VRd W (OwnS elB bs ds :: Blk a17 d.cells T_api_Batch :: Blk x.1 (scells x.2 bs es) T_seglog_segment :: IsR es x.2.ends :: SlR elS.T elS.sz p.sl (elS.flat p.cs) :: All ((p.cs.map elS.own).eraseIdx i) :: Blk a (lcells b g p) T_seglog_Log :: FrR p.fr :: BtR t2 (segB frm (g.segs.take i) ++ behind frm (x.2.bt.take j)) :: l) d ∧ d.num := fun h => bt_rd hd (h.sel 3 [2, 0, 1])
          have h13 : Sat W w19.drew (OwnS elB bs ds :: Blk a17 d.cells T_api_Batch :: Blk x.1 (scells x.2 bs es) T_seglog_segment :: IsR es x.2.ends :: SlR elS.T elS.sz p.sl (elS.flat p.cs) :: All ((p.cs.map elS.own).eraseIdx i) :: Blk a (lcells b g p) T_seglog_Log :: FrR p.fr :: BtR t2 (segB frm (g.segs.take i) ++ behind frm (x.2.bt.take j)) :: l) := h12.sel 3 [2, 0, 1]
          obtain ⟨hv0, hnum⟩ := hv h12
          refine size_ok (d := d) h13 hv0 fun w24 h14 => tyI (k := .int .i64) ⟨⟨_, h14.up 1⟩, ?_⟩
          have e1 : d.ba + (if d.ct then 1 else (d.bs.length : Int)) = d.bd.fin := rfl
          have hsz : 0 ≤ d.bd.size := by unfold Bd.size; split <;> omega
          have e2 : d.bd.fin = d.ba + d.bd.size := rfl
          have e3 : d.bd.ba = d.ba := rfl
          have hdf := hb x.2 hm d.bd hdm
          rw [e1, w_i64 (by omega) (by omega), w_i64 (n := (j : Int) + 1) (by omega) (by omega)]
          have hnx : behind frm (x.2.bt.take (j + 1)) = behind frm (x.2.bt.take j) ++ if frm < d.bd.fin then [d.bd] else [] := by
            rw [take_next hdb, behind_app]
            congr 1
            unfold behind
            by_cases c : frm < d.bd.fin
            · rw [List.filter_cons_of_pos (by simpa using c), if_pos c]; simp
            · rw [List.filter_cons_of_neg (by simpa using c), if_neg c]; rfl
          refine ifB_dec (fun c3 => ?_) fun c3 => ?_
          · rw [if_pos (by omega)] at hnx
            refine ldAggB (b := a17) (cs := d.cells) (h14.up 1) (by kernel_rfl) ?_
            have hsm := Bd.small (hc x.2 hm d.bd hdm)
            refine sown_ok h14 hv0 (by have : d.bd.bs = d.bs := rfl; rw [this] at hsm; omega) (fun y hy => by have := hsm.2 y hy; omega) fun vs ss w28 hss h15 => tyI (k := .val) ?_
            let d' : Dc := { d with vs := vs, ss := ss }
            have h15 : Sat W w28 (VsR vs ss d.bs :: OwnS elB bs ds :: Blk a17 d.cells T_api_Batch :: Blk x.1 (scells x.2 bs es) T_seglog_segment :: IsR es x.2.ends :: SlR elS.T elS.sz p.sl (elS.flat p.cs) :: All ((p.cs.map elS.own).eraseIdx i) :: Blk a (lcells b g p) T_seglog_Log :: FrR p.fr :: BtR t2 (segB frm (g.segs.take i) ++ behind frm (x.2.bt.take j)) :: l) := h15
            refine bsB h15 (cs := d'.cells) (e := T_api_Batch) (fun w => by kernel_rfl) fun gb w31 h16 => ?_
            obtain ⟨ds2, hds2, h17⟩ := sat_bt.1 (h16.up 10)
            have h18 : Sat W w31 (VsR vs ss d.bs :: OwnS elB t2 ds2 :: Blk gb d'.cells T_api_Batch :: SgL a b g p i x bs es ds l) := h17.sel 11 [2, 0, 1, 5, 3, 6, 7, 8, 9, 10]
            have h19 : Sat W w31 (elB.own d' :: OwnS elB t2 ds2 :: Blk gb d'.cells T_api_Batch :: SgL a b g p i x bs es ds l) := sat_all.2 (sat_pure.2 ⟨⟨hss, hnum⟩, h18⟩)
            have h20 : Sat W w31 (Blk gb (elB.cells d') T_api_Batch :: elB.own d' :: OwnS elB t2 ds2 :: SgL a b g p i x bs es ds l) := h19.sel 3 [2, 0, 1]
            have hd2l : ds2.length = (segB frm (g.segs.take i) ++ behind frm (x.2.bt.take j)).length := by rw [← hds2]; simp
            have hpl := (hpre (j + 1)).length_le
            rw [hnx, ← List.append_assoc] at hpl
            have hpl2 : (segB frm (g.segs.take i) ++ behind frm (x.2.bt.take j)).length + 1 ≤ (segB frm g.segs).length := by
              rw [List.length_append] at hpl; exact hpl
            refine own_push (E := elB) et_batches rfl rfl (by decide) h20 (by omega) (by omega) fun s32 w33 h21 => ?_
            have h22 := sat_bt.2 ⟨ds2 ++ [d'], by rw [List.map_append, hds2], h21⟩
            refine ⟨⟨j + 1, by show (j : Int) + 1 = _; omega, by omega, ?_, ?_⟩, by show ds.length - ((j : Int) + 1).toNat < ds.length - (j : Int).toNat; omega⟩
            · rw [hnx, ← List.append_assoc, List.length_append]; simp only [List.length_singleton]; omega
            · rw [hnx, ← List.append_assoc]
              exact h22.sel 8 [1, 2, 3, 4, 5, 6, 7, 0]
          · rw [if_neg (by omega), List.append_nil] at hnx
            refine ⟨⟨j + 1, by show (j : Int) + 1 = _; omega, by omega, by rw [hnx]; exact hlen2, ?_⟩, by show ds.length - ((j : Int) + 1).toNat < ds.length - (j : Int).toNat; omega⟩
            rw [hnx]
            exact h14.sel 9 [2, 0, 3, 4, 5, 6, 7, 8]
      · have hje : j = ds.length := by omega
        have e1 : x.2.bt.take j = x.2.bt := List.take_of_length_le (by omega)
        rw [e1] at h9 hlen2
        have h10 := sg_close hx hds h9
        rw [w_i64 (n := (i : Int) + 1) (by omega) (by omega)]
        exact ⟨⟨i + 1, hstep2, by omega, by rw [hstep]; exact hlen2, by rw [hstep]; exact h10.sel 4 [3, 0, 1, 2]⟩, by show p.cs.length - ((i : Int) + 1).toNat < p.cs.length - (i : Int).toNat; omega⟩
  · have hie : i = p.cs.length := by omega
    have e1 : g.segs.take i = g.segs := List.take_of_length_le (by omega)
    rw [e1] at h2 hlen
    have e2 : g.read frm n = segB frm g.segs := List.take_of_length_le hlen
    refine hK t1 w4 ?_
    rw [e2]
    have h3 : Sat W w4 (LgL a b g p (BtR t1 (segB frm g.segs) :: l)) := h2.sel 4 [1, 2, 3, 0]
    exact (sat_lg.2 ⟨p, hp, h3⟩).swap
end
end Go.Proofs.YtnjadekngjgjcaaGreatDoor

/- Layer 8: up to where a log lasts. -/
namespace Go.Pk
open Go
def Dk.syncOf (d : Dk) (n : List UInt8) : Int := match (d.find n).1 with | some f => f.sync | none => 0
end Go.Pk
namespace Go.Proofs.YtnjadekngjgjcaaGreatDoor
open Go Go.Pk
/-- the batches of a file that last, and whether all do -/
def lastB (sy : Int) : Int → List Bd → List Int → Int × Bool
  | tq, b :: bs, e :: es => if e > sy then (tq, true) else lastB sy b.fin bs es
  | tq, _, _ => (tq, false)
def lastG (d : Dk) : Int → List Sg → Int
  | tq, [] => tq
  | tq, s :: ss => if (lastB (d.syncOf s.name) tq s.bt s.ends).2 then (lastB (d.syncOf s.name) tq s.bt s.ends).1 else lastG d (lastB (d.syncOf s.name) tq s.bt s.ends).1 ss
def Lg.lasting (g : Lg) (d : Dk) : Int := lastG d g.start g.segs
theorem drop_at {α : Type} {xs : List α} {i : Nat} {x : α} (h : xs[i]? = some x) : xs.drop i = x :: xs.drop (i + 1) := by
  obtain ⟨hlt, rfl⟩ := List.getElem?_eq_some_iff.1 h
  exact List.drop_eq_getElem_cons hlt
/-- segments of which all ends are kept -/
def LgE (g : Lg) : Prop := ∀ s ∈ g.segs, s.ends.length = s.bt.length
section
variable {W w : World} {l : List Res} {K : Value → World → Prop} {a b : Nat} {g : Lg}
theorem is_at {P : Program} (et : ET P T_sl_int T_int 1 8) {s : Sl} {xs : List Int} {i : Nat} {v : Int} (hv : xs[i]? = some v) (h : Sat W w (IsR s xs :: l)) {K : Int → Prop} (hK : K v) (ht : oneT P T_int = true) :
    RunQ .addr P (Instr.indexAt T_sl_int s.v (.int .i64 (i : Int))) w fun a => RunQ (.int .i64) P (Instr.loadAt T_int (.pointer (some a))) w K := by
  have hl := Sat.isLen h
  have hlt := (List.getElem?_eq_some_iff.1 hv).1
  refine ixA et h.rdc (by omega) (by omega) fun a ha => ldC (k := .int .i64) (x := v) (ha 0 _ (by decide) ?_) hK ht
  have e : ((i : Int)).toNat * 1 + 0 = i := by omega
  rw [e, List.getElem?_map, hv]; rfl
theorem lasting_ok {d : Dk} (h : Sat W w (LgR a b g :: DkR b d :: l)) (hb : LgB g) (he : LgE g) (hs : g.segs.length ≤ 1073741824) (hr : ∀ s ∈ g.segs, s.bt.length ≤ 1073741824)
    (hK : ∀ w', Sat W w' (LgR a b g :: DkR b d :: l) → K (.int .i64 (g.lasting d)) w') : CallP P F_seglog_Log_lasting [.pointer (some ⟨a, 0, none⟩)] w K := by
  apply c_seglog_Log_lasting
  unfold S_seglog_Log_lasting
  refine start_ok h (tyI (k := .int .i64) ?_)
  obtain ⟨p, hp, h1⟩ := sat_lg.1 h
  have hol := own_len (h1.up 2) (by decide : 0 < 1)
  have hcl : p.cs.length = g.segs.length := by rw [← hp]; simp
  refine ldX h1 3 (x := p.sl) ?_
  refine ⟨fun t w' => ∃ i : Nat, t.2.1 = i ∧ i ≤ p.cs.length ∧ g.lasting d = lastG d t.1 (g.segs.drop i) ∧ Sat W w' (LgL a b g p (DkR b d :: l)), fun t _ => p.cs.length - t.2.1.toNat, ⟨0, rfl, Nat.zero_le _, rfl, h1⟩, ?_⟩
  rintro ⟨tq, ti, u⟩ w7 ⟨i, hi, hil, hlast, h2⟩
  simp only at hi hlast ⊢
  subst hi
  refine ifB_dec (fun hlt => ?_) fun hge => ?_
  · have hlt' : i < p.cs.length := by omega
    have hx : p.cs[i]? = some p.cs[i] := List.getElem?_eq_getElem hlt'
    generalize p.cs[i] = x at hx
    have hxs : g.segs[i]? = some x.2 := by rw [← hp, List.getElem?_map, hx]; rfl
    have hm : x.2 ∈ g.segs := List.mem_of_getElem? hxs
    refine sg_ptr (i := (i : Int)) (x := x) (by omega) hx (h2.up 2) ?_
    obtain ⟨bs, es, ds, hds, h3⟩ := sg_open hx h2.drew
    let R : List Res := SgL a b g p i x bs es ds []
    have h4 : Sat W w7.drew (DkR b d :: R ++ l) := Sat.sel (L := SgL a b g p i x bs es ds (DkR b d :: l)) h3 8 [7, 0, 1, 2, 3, 4, 5, 6]
    let S : World → Prop := fun w => Sat W w (DkR b d :: R ++ l)
    refine ⟨S, h4, ?_⟩
    refine hldX (S := S) (fun w hw => ⟨_, Sat.up (L := DkR b d :: R ++ l) hw 6⟩) 0 (x := some ⟨b, 0, none⟩) ?_
    refine hldX (S := S) (fun w hw => ⟨_, Sat.up (L := DkR b d :: R ++ l) hw 1⟩) 1 (x := vK x.2.name) ?_
    have rest : ∀ (e1 e3 : Int) (w16 : World), Sat W w16 (DkR b d :: R ++ l) →
        (S w16) ∧
                nilCk (some ⟨x.1, 0, none⟩) fun (a18 : Addr) =>
                RunQ .sl P (Instr.loadAt T_sl_api_Batch (.pointer (some (a18.add 3)))) w16 fun (s19 : Sl) =>
                LoopP (T := Int × Int × Unit) (some (tq, (0, ()))) w16 fun next20 t21 w22 =>
                ifB (decide (t21.snd.fst < (↑s19.len : Int)))
                (RunQ .addr P (Instr.indexAt T_sl_api_Batch s19.v (.int .i64 t21.snd.fst)) w22 fun (a23 : Addr) =>
                RunQ .val P (Instr.loadAt T_api_Batch (.pointer (some a23))) w22 fun (v24 : Value) =>
                RunK .addr P (Instr.alloc T_api_Batch true (.tuple #[])) w22 fun (a25 : Addr) w26 =>
                StoreP P T_api_Batch (.pointer (some a25)) v24 w26 fun w27 =>
                nilCk (some ⟨x.1, 0, none⟩) fun (a28 : Addr) =>
                RunQ .sl P (Instr.loadAt T_sl_int (.pointer (some (a28.add 4)))) w27 fun (s29 : Sl) =>
                RunQ .addr P (Instr.indexAt T_sl_int s29.v (.int .i64 t21.snd.fst)) w27 fun (a30 : Addr) =>
                RunQ (.int .i64) P (Instr.loadAt T_int (.pointer (some a30))) w27 fun (n31 : Int) =>
                ifB (decide (n31 > (d.syncOf x.2.name)))
                (K (.int .i64 t21.fst) w27)
                (∃ S32 : World → Prop, (S32 w27.drew) ∧
                HRun S32 (.int .i64) P (Instr.loadAt T_int (.pointer (some (Go.Addr.add a25 0)))) fun (n33 : Int) =>
                HRun S32 .val P (Instr.loadAt T_api_Batch (.pointer (some a25))) fun (v34 : Value) =>
                CallP P F_batch_Size [v34] w27.drew fun (v35 : Value) w36 =>
                TyP (.int .i64) v35 fun (n37 : Int) =>
                (S32 w36) ∧
                next20 (some ((IntKind.i64.wrap (n33 + n37)), ((IntKind.i64.wrap (t21.snd.fst + 1)), ()))) w36))
                ((fun t' w' => match t' with | some t' => (∃ i : Nat, t'.2.1 = i ∧ i ≤ p.cs.length ∧ g.lasting d = lastG d t'.1 (g.segs.drop i) ∧ Sat W w' (LgL a b g p (DkR b d :: l))) ∧ p.cs.length - t'.2.1.toNat < p.cs.length - (i : Int).toNat | none => False) (some (t21.fst, ((IntKind.i64.wrap ((i : Int) + 1)), ()))) w22) := by
      intro e1 e3 w16 h5
      refine ⟨h5, ?_⟩
      have hol2 := own_len (Sat.up (L := DkR b d :: R ++ l) h5 2) (by decide : 0 < 9)
      refine ldX (Sat.up (L := DkR b d :: R ++ l) h5 1) 3 (x := bs) ?_
      have hdl : ds.length = x.2.bt.length := by rw [← hds]; simp
      have hbl := hr x.2 hm
      have hel := he x.2 hm
      have hstep : lastG d tq (g.segs.drop i) = if (lastB (d.syncOf x.2.name) tq x.2.bt x.2.ends).2 then (lastB (d.syncOf x.2.name) tq x.2.bt x.2.ends).1 else lastG d (lastB (d.syncOf x.2.name) tq x.2.bt x.2.ends).1 (g.segs.drop (i + 1)) := by
        rw [drop_at hxs]; rfl
      refine ⟨fun t w' => ∃ j : Nat, t.2.1 = j ∧ j ≤ ds.length ∧ lastB (d.syncOf x.2.name) tq x.2.bt x.2.ends = lastB (d.syncOf x.2.name) t.1 (x.2.bt.drop j) (x.2.ends.drop j) ∧ Sat W w' (DkR b d :: R ++ l), fun t _ => ds.length - t.2.1.toNat, ⟨0, rfl, Nat.zero_le _, rfl, h5⟩, ?_⟩
      rintro ⟨t2, tj, u2⟩ w22 ⟨j, hj, hjl, hlb, h6⟩
      simp only at hj hlb ⊢
      subst hj
      have hcl2 : Sat W w22 (SgL a b g p i x bs es ds (DkR b d :: l)) := Sat.sel (L := DkR b d :: R ++ l) h6 8 [1, 2, 3, 4, 5, 6, 7, 0]
      refine ifB_dec (fun hlt2 => ?_) fun hge2 => ?_
      · have hlt2' : j < ds.length := by omega
        have hd : ds[j]? = some ds[j] := List.getElem?_eq_getElem hlt2'
        generalize ds[j] = q at hd
        have hdb : x.2.bt[j]? = some q.bd := by rw [← hds, List.getElem?_map, hd]; rfl
        have hdm : q.bd ∈ x.2.bt := List.mem_of_getElem? hdb
        have hev : x.2.ends[j]? = some x.2.ends[j] := List.getElem?_eq_getElem (by omega)
        generalize x.2.ends[j] = ev at hev
        have hnx : lastB (d.syncOf x.2.name) t2 (x.2.bt.drop j) (x.2.ends.drop j) = if ev > d.syncOf x.2.name then (t2, true) else lastB (d.syncOf x.2.name) q.bd.fin (x.2.bt.drop (j + 1)) (x.2.ends.drop (j + 1)) := by
          rw [drop_at hdb, drop_at hev]; rfl
        refine bt_at hd hcl2 ?_
        refine allocB hcl2 (z := .agg zeroDc.cells.toArray) (by kernel_rfl) fun a17 w18 h10 => ?_
        have h10 : Sat W w18 (Blk a17 zeroDc.cells T_api_Batch :: _) := h10
        refine stAggB (cs' := q.cells) h10 rfl q.ones (by kernel_rfl) fun w19 h11 => ?_
        refine ldX (h11.up 1) 4 (x := es) ?_
        refine is_at et_isl hev (h11.up 3) ?_ (by kernel_rfl)
        refine ifB_dec (fun c2 => ?_) fun c2 => ?_
        · rw [if_pos c2] at hnx
          have h12 : Sat W w19 (SgL a b g p i x bs es ds (DkR b d :: l)) := h11.tail
          have h13 := sg_close hx hds h12
          have e : g.lasting d = t2 := by rw [hlast, hstep, hlb, hnx]; rfl
          rw [e] at hK
          exact hK w19 (sat_lg.2 ⟨p, hp, h13⟩)
        · rw [if_neg c2] at hnx
          have h12 := h11.drew
          let S2 : World → Prop := fun w => ∃ L, Sat W w (Blk a17 q.cells T_api_Batch :: L)
          refine ⟨S2, ⟨_, h12⟩, ?_⟩
          refine hldX (S := S2) (fun w hw => hw) 0 (x := q.ba) ?_
          refine hldAggB (S := S2) (cs := q.cells) (fun w hw => hw) (by kernel_rfl) ?_
          have h13 : Sat W w19.drew (OwnS elB bs ds :: Blk a17 q.cells T_api_Batch :: Blk x.1 (scells x.2 bs es) T_seglog_segment :: IsR es x.2.ends :: SlR elS.T elS.sz p.sl (elS.flat p.cs) :: All ((p.cs.map elS.own).eraseIdx i) :: Blk a (lcells b g p) T_seglog_Log :: FrR p.fr :: DkR b d :: l) := h12.sel 3 [2, 0, 1]
          obtain ⟨hv0, hnum⟩ := bt_rd hd h13
          refine size_ok (d := q) h13 hv0 fun w24 h14 => tyI (k := .int .i64) ⟨⟨_, h14.up 1⟩, ?_⟩
          have e1 : q.ba + (if q.ct then 1 else (q.bs.length : Int)) = q.bd.fin := rfl
          have hsz : 0 ≤ q.bd.size := by unfold Bd.size; split <;> omega
          have e2 : q.bd.fin = q.ba + q.bd.size := rfl
          have e3 : q.bd.ba = q.ba := rfl
          have hdf := hb x.2 hm q.bd hdm
          rw [e1, w_i64 (n := (j : Int) + 1) (by omega) (by omega), w_i64 (n := q.bd.fin) (by omega) (by omega)]
          refine ⟨⟨j + 1, by show (j : Int) + 1 = _; omega, by omega, by rw [hlb, hnx], ?_⟩, by show ds.length - ((j : Int) + 1).toNat < ds.length - (j : Int).toNat; omega⟩
          exact h14.sel 9 [8, 2, 0, 3, 4, 5, 6, 7]
      · have hje : j = ds.length := by omega
        have e1 : x.2.bt.drop j = [] := List.drop_of_length_le (by omega)
        rw [e1] at hlb
        have h10 := sg_close hx hds hcl2
        rw [w_i64 (n := (i : Int) + 1) (by omega) (by omega)]
        refine ⟨⟨i + 1, by show (i : Int) + 1 = _; omega, by omega, ?_, h10⟩, by show p.cs.length - ((i : Int) + 1).toNat < p.cs.length - (i : Int).toNat; omega⟩
        rw [hlast, hstep, hlb]; rfl
    refine dsize_ok (n := x.2.name) h4 (fun e w16 hf he h5 => ⟨(0, 0, e, ()), rfl, ?_⟩) fun f w16 hf h5 => ⟨(f.data.length, f.sync, 0, ()), rfl, ?_⟩
    · have hsy : d.syncOf x.2.name = 0 := by unfold Dk.syncOf; rw [hf]
      have := rest 0 e w16 h5
      rw [hsy] at this
      exact this
    · have hsy : d.syncOf x.2.name = f.sync := by unfold Dk.syncOf; rw [hf]
      have := rest 0 0 w16 h5
      rw [hsy] at this
      exact this
  · have hie : i = p.cs.length := by omega
    have e1 : g.segs.drop i = [] := List.drop_of_length_le (by omega)
    rw [e1] at hlast
    have e2 : g.lasting d = tq := hlast
    rw [e2] at hK
    exact hK w7 (sat_lg.2 ⟨p, hp, h2⟩)
end
end Go.Proofs.YtnjadekngjgjcaaGreatDoor

/- Layer 8: a segment's batches are read from its file. -/
namespace Go.Pk
open Go
def Dk.dataOf (d : Dk) (n : List UInt8) : List UInt8 := match (d.find n).1 with | some f => f.data | none => []
theorem fdec_bounds {q : List UInt8} (h : (fdec q).2.2 = 0) : 8 ≤ (fdec q).2.1 ∧ (fdec q).2.1 ≤ q.length ∧ (fdec q).1.length ≤ 4096 := by
  unfold fdec at h ⊢
  dsimp only at h ⊢
  split
  · rename_i c; rw [if_pos c] at h; exact absurd h (by decide)
  · rename_i c
    rw [if_neg c] at h
    split
    · rename_i c; rw [if_pos c] at h; exact absurd h (by decide)
    · rename_i c
      rw [if_neg c] at h
      split
      · rename_i c; rw [if_pos c] at h; exact absurd h (by decide)
      · rename_i c
        rw [if_neg c] at h
        split
        · rename_i c; rw [if_pos c] at h; exact absurd h (by decide)
        · refine ⟨by simp only; omega, by simp only; omega, ?_⟩
          rw [List.length_take]; omega
end Go.Pk
namespace Go.Proofs.YtnjadekngjgjcaaGreatDoor
open Go Go.Pk
open Classical in
noncomputable def stepS (b : List UInt8) (s : Sg) : Option Sg :=
  if s.bytes < b.length ∧ (fdec (b.drop s.bytes.toNat)).2.2 = 0 ∧ decE (fdec (b.drop s.bytes.toNat)).1 = 0 ∧ (decD (fdec (b.drop s.bytes.toNat)).1).ba = s.fin then
    some (s.add (decD (fdec (b.drop s.bytes.toNat)).1).bd (fdec (b.drop s.bytes.toNat)).2.1) else none
noncomputable def loadS (b : List UInt8) : Nat → Sg → Sg
  | 0, s => s
  | k + 1, s => match stepS b s with | none => s | some s' => loadS b k s'
theorem loadS_none {b : List UInt8} {s : Sg} (h : stepS b s = none) : ∀ k, loadS b k s = s
  | 0 => rfl
  | k + 1 => by rw [loadS, h]
noncomputable def ldSg (s : Sg) (d : Dk) : Sg := loadS (d.dataOf s.name) ((d.dataOf s.name).length + 1) s
/-- a file is read into a segment -/
noncomputable def ldFl (s : Sg) (d : Dk) : Sg × Dk × Bool :=
  if (ldSg s d).bytes < (d.dataOf s.name).length then (ldSg s d, (d.cut s.name (ldSg s d).bytes).1, false) else (ldSg s d, d, true)
/-- what holds of a segment while it is read -/
structure LdI (s0 s : Sg) (n : Nat) : Prop where
  base : s.base = s0.base
  name : s.name = s0.name
  pos : 0 ≤ s.bytes ∧ s.bytes ≤ n
  ends : s.ends.length = s.bt.length
  few : (s.bt.length : Int) * 8 ≤ s.bytes
  bts : ∀ x ∈ s.bt, x.chk = 0 ∧ 0 ≤ x.ba ∧ x.fin ≤ s.base + 16 * s.bt.length
  fin : s.base ≤ s.fin ∧ s.fin ≤ s.base + 16 * s.bt.length
theorem Bd.size_le {x : Bd} (h : x.chk = 0) : 0 ≤ x.size ∧ x.size ≤ 16 := by
  have := (Bd.small h).1
  unfold Bd.size
  split <;> omega
theorem Bd.base_le {x : Bd} (h : x.chk = 0) : 0 ≤ x.ba := by
  have := (chk0 (d := x.dc) h).1
  unfold bad1 at this
  have e : x.dc.ba = x.ba := rfl
  rw [e] at this
  by_cases h : x.ba < 0
  · exact absurd (.inl h) this
  · omega
theorem Sg.add_fin (s : Sg) (b : Bd) (n : Int) : (s.add b n).fin = b.fin := by
  unfold Sg.fin Sg.add
  simp
theorem LdI.add {s0 s : Sg} {n : Nat} {b : Bd} {k : Int} (h : LdI s0 s n) (hk : 8 ≤ k) (hn : s.bytes + k ≤ n) (hc : b.chk = 0) (hb : b.ba = s.fin) : LdI s0 (s.add b k) n := by
  have hsz := Bd.size_le hc
  have hb0 := Bd.base_le hc
  have hl : (s.add b k).bt.length = s.bt.length + 1 := by simp [Sg.add]
  have hf := h.few
  have hfi := h.fin
  have e : b.fin = b.ba + b.size := rfl
  have hp := h.pos
  refine ⟨h.base, h.name, ⟨by show 0 ≤ s.bytes + k; omega, hn⟩, by simp [Sg.add, h.ends], ?_, fun x hx => ?_, ?_⟩
  · rw [hl]; show _ ≤ s.bytes + k; omega
  · rw [hl]
    show x.chk = 0 ∧ 0 ≤ x.ba ∧ x.fin ≤ s.base + _
    rcases List.mem_append.1 hx with hx | hx
    · have := h.bts x hx; refine ⟨this.1, this.2.1, by omega⟩
    · rw [List.mem_singleton.1 hx]; refine ⟨hc, hb0, by omega⟩
  · rw [Sg.add_fin, hl]
    show s.base ≤ _ ∧ _ ≤ s.base + _
    omega
section
variable {W w : World} {l : List Res} {K : Value → World → Prop} {a b : Nat} {g : Lg}
theorem dread_any {d : Dk} {n : List UInt8} (h : Sat W w (DkR b d :: l)) (hK : ∀ s e w', (d.dataOf n).length ≤ 4194304 → Sat W w' (BsR s (d.dataOf n) :: DkR b d :: l) → K (.tuple #[Sl.v s, .int .i64 e]) w') : CallP P F_disk_Disk_Read [.pointer (some ⟨b, 0, none⟩), .string (vK n)] w K := by
  refine dread_ok h (fun e w' hf _ h1 => ?_) fun f s w' hf hl h1 => ?_
  · have e1 : d.dataOf n = [] := by unfold Dk.dataOf; rw [hf]
    rw [e1] at hK
    exact hK ⟨none, 0, 0⟩ e w' (by decide) (Sat.nilSlr h1 T_uint8 1)
  · have e1 : d.dataOf n = f.data := by unfold Dk.dataOf; rw [hf]
    rw [e1] at hK
    exact hK s 0 w' hl h1
theorem load_ok {d : Dk} {q : Nat} {s : Sg} (h : Sat W w (SgR q s :: LgR a b g :: DkR b d :: l)) (h0 : s.bytes = 0 ∧ s.bt = [] ∧ s.ends = []) (hb : 0 ≤ s.base ∧ s.base ≤ 1099511627776)
    (hK : ∀ w', LdI s (ldSg s d) (d.dataOf s.name).length → (d.dataOf s.name).length ≤ 4194304 → Sat W w' (SgR q (ldFl s d).1 :: LgR a b g :: DkR b (ldFl s d).2.1 :: l) → K (.bool (ldFl s d).2.2) w') : CallP P F_seglog_Log_load [.pointer (some ⟨a, 0, none⟩), .pointer (some ⟨q, 0, none⟩)] w K := by
  apply c_seglog_Log_load
  unfold S_seglog_Log_load
  obtain ⟨bs, es, h1⟩ := sat_sg.1 h.drew
  obtain ⟨p, hp, h2⟩ := sat_lg.1 (show Sat W _ (LgR a b g :: Blk q (scells s bs es) T_seglog_segment :: BtR bs s.bt :: IsR es s.ends :: DkR b d :: l) from h1.up 3)
  let S : World → Prop := fun w => ∃ L, Sat W w (Blk a (lcells b g p) T_seglog_Log :: Blk q (scells s bs es) T_seglog_segment :: L)
  have h3 : Sat W w.drew (DkR b d :: Blk a (lcells b g p) T_seglog_Log :: Blk q (scells s bs es) T_seglog_segment :: FrR p.fr :: OwnS elS p.sl p.cs :: BtR bs s.bt :: IsR es s.ends :: l) := h2.sel 7 [6, 0, 3, 1, 2, 4, 5]
  refine ⟨S, ⟨_, h3.tail⟩, ?_⟩
  refine hldX (S := S) (fun w hw => by obtain ⟨L, hw⟩ := hw; exact ⟨_, hw⟩) 0 (x := some ⟨b, 0, none⟩) ?_
  refine hldX (S := S) (fun w hw => by obtain ⟨L, hw⟩ := hw; exact ⟨_, hw.up 1⟩) 1 (x := vK s.name) ?_
  refine dread_any (n := s.name) h3 fun sl e w6 hdl h4 => tup2 ⟨⟨_, (h4.up 2).cut 1 |>.swap |> fun _ => h4.tail.tail⟩, ?_⟩
  generalize hdt : d.dataOf s.name = dt at *
  have hsl := Sat.bsLen h4
  have hcl : ∀ {w' : World} {s' : Sg}, Sat W w' (SgR q s' :: Blk a (lcells b g p) T_seglog_Log :: FrR p.fr :: OwnS elS p.sl p.cs :: BsR sl dt :: DkR b d :: l) → Sat W w' (SgR q s' :: LgR a b g :: BsR sl dt :: DkR b d :: l) := fun {w' s'} h => by
    have h1 : Sat W w' (LgL a b g p (SgR q s' :: BsR sl dt :: DkR b d :: l)) := h.sel 4 [1, 2, 3, 0]
    exact (sat_lg.2 ⟨p, hp, h1⟩).swap
  have h5 : Sat W w6 (SgR q s :: Blk a (lcells b g p) T_seglog_Log :: FrR p.fr :: OwnS elS p.sl p.cs :: BsR sl dt :: DkR b d :: l) := sat_sg.2 ⟨bs, es, h4.sel 8 [3, 6, 7, 2, 4, 5, 0, 1]⟩
  have hi0 : LdI s s dt.length := by
    have ef : s.fin = s.base := by unfold Sg.fin; rw [h0.2.1]; rfl
    refine ⟨rfl, rfl, by rw [h0.1]; omega, by rw [h0.2.1, h0.2.2]; rfl, by rw [h0.1, h0.2.1]; simp, fun x hx => (by rw [h0.2.1] at hx; cases hx), by rw [ef, h0.2.1]; simp⟩
  refine ⟨fun _ w' => ∃ s', LdI s s' dt.length ∧ loadS dt (dt.length + 1) s = s' ∧ Sat W w' (SgR q s' :: Blk a (lcells b g p) T_seglog_Log :: FrR p.fr :: OwnS elS p.sl p.cs :: BsR sl dt :: DkR b d :: l), ?_, ?_⟩
  · rintro _ w10 ⟨s', hi, hs', h6⟩
    have hld : ldSg s d = s' := by unfold ldSg; rw [hdt]; exact hs'
    obtain ⟨bs2, es2, h7⟩ := sat_sg.1 h6
    refine ldX h7 2 (x := s'.bytes) ?_
    refine ifB_dec (fun c => ?_) fun c => ?_
    · have c' : s'.bytes < dt.length := by have : s'.bytes < ((sl.len : Nat) : Int) := c; omega
      have efl : ldFl s d = (s', (d.cut s.name s'.bytes).1, false) := by unfold ldFl; rw [hld, hdt, if_pos c']
      have h8 := h7.drew
      let S2 : World → Prop := fun w => ∃ L, Sat W w (Blk a (lcells b g p) T_seglog_Log :: Blk q (scells s' bs2 es2) T_seglog_segment :: L)
      have h9 : Sat W w10.drew (DkR b d :: Blk a (lcells b g p) T_seglog_Log :: Blk q (scells s' bs2 es2) T_seglog_segment :: FrR p.fr :: OwnS elS p.sl p.cs :: BtR bs2 s'.bt :: IsR es2 s'.ends :: l) := h8.sel 8 [7, 3, 0, 4, 5, 1, 2]
      refine ⟨S2, ⟨_, h9.tail⟩, ?_⟩
      refine hldX (S := S2) (fun w hw => by obtain ⟨L, hw⟩ := hw; exact ⟨_, hw⟩) 0 (x := some ⟨b, 0, none⟩) ?_
      refine hldX (S := S2) (fun w hw => by obtain ⟨L, hw⟩ := hw; exact ⟨_, hw.up 1⟩) 1 (x := vK s'.name) ?_
      refine hldX (S := S2) (fun w hw => by obtain ⟨L, hw⟩ := hw; exact ⟨_, hw.up 1⟩) 2 (x := s'.bytes) ?_
      have hpos := hi.pos
      rw [hi.name]
      refine dcut_ok (n := s.name) h9 (by omega) fun w53 h10 => tyI (k := .int .i64) ⟨⟨_, h10.tail⟩, ?_⟩
      have h11 : Sat W w53 (SgR q s' :: Blk a (lcells b g p) T_seglog_Log :: FrR p.fr :: OwnS elS p.sl p.cs :: DkR b (d.cut s.name s'.bytes).1 :: l) := sat_sg.2 ⟨bs2, es2, h10.sel 7 [2, 5, 6, 1, 3, 4, 0]⟩
      have h12 : Sat W w53 (LgL a b g p (SgR q s' :: DkR b (d.cut s.name s'.bytes).1 :: l)) := h11.sel 4 [1, 2, 3, 0]
      rw [efl, hld] at hK
      exact hK w53 hi hdl (sat_lg.2 ⟨p, hp, h12⟩).swap
    · have c' : ¬ s'.bytes < dt.length := by have : ¬ s'.bytes < ((sl.len : Nat) : Int) := c; omega
      have efl : ldFl s d = (s', d, true) := by unfold ldFl; rw [hld, hdt, if_neg c']
      rw [efl, hld] at hK
      have h8 := hcl h6
      exact hK w10 hi hdl (h8.sel 4 [0, 1, 3])
  · refine ⟨fun _ w' => ∃ s' k, LdI s s' dt.length ∧ loadS dt (dt.length + 1) s = loadS dt k s' ∧ (dt.length - s'.bytes).toNat < k ∧ Sat W w' (SgR q s' :: Blk a (lcells b g p) T_seglog_Log :: FrR p.fr :: OwnS elS p.sl p.cs :: BsR sl dt :: DkR b d :: l),
      fun _ w' => dt.length - ((w'.cell? ⟨q, 2, none⟩).bind fun v => match v with | .int _ n => some n.toNat | _ => none).getD 0, ⟨s, dt.length + 1, hi0, rfl, by rw [h0.1]; omega, h5⟩, ?_⟩
    rintro _ w13 ⟨s', k, hi, hld, hk, h6⟩
    obtain ⟨bs2, es2, h7⟩ := sat_sg.1 h6
    have hpos := hi.pos
    have hm13 : ((w13.cell? ⟨q, 2, none⟩).bind fun v => match v with | .int _ n => some n.toNat | _ => none).getD 0 = s'.bytes.toNat := by
      rw [show w13.cell? ⟨q, 2, none⟩ = some (.int .i64 s'.bytes) from h7.cell 2]; rfl
    have stop : stepS dt s' = none → loadS dt (dt.length + 1) s = s' := fun h => by rw [hld, loadS_none h]
    refine ldX h7 2 (x := s'.bytes) ?_
    refine ifB_dec (fun c => ?_) fun c => ?_
    · have c' : s'.bytes < dt.length := by have : s'.bytes < ((sl.len : Nat) : Int) := c; omega
      have h8 := h7.drew
      let S2 : World → Prop := fun w => ∃ L, Sat W w (Blk a (lcells b g p) T_seglog_Log :: Blk q (scells s' bs2 es2) T_seglog_segment :: L)
      have h9 : Sat W w13.drew (FrR p.fr :: Blk a (lcells b g p) T_seglog_Log :: Blk q (scells s' bs2 es2) T_seglog_segment :: BtR bs2 s'.bt :: IsR es2 s'.ends :: OwnS elS p.sl p.cs :: BsR sl dt :: DkR b d :: l) := h8.sel 8 [4, 3, 0, 1, 2, 5, 6, 7]
      refine ⟨S2, ⟨_, h9.tail⟩, ?_⟩
      refine hldX (S := S2) (fun w hw => by obtain ⟨L, hw⟩ := hw; exact ⟨_, hw⟩) 2 (x := some ⟨p.fr, 0, none⟩) ?_
      refine hldX (S := S2) (fun w hw => by obtain ⟨L, hw⟩ := hw; exact ⟨_, hw.up 1⟩) 2 (x := s'.bytes) ?_
      have hslr := (Sat.up h9 6).rdc
      have hcap := hslr.2.1
      refine ⟨subSl sl 1 s'.bytes.toNat sl.len, fun w _ => run_sliceLo et_bytes (by omega) (by omega) hcap w, ?_⟩
      have hrd : Rd W (Blk a (lcells b g p) T_seglog_Log :: Blk q (scells s' bs2 es2) T_seglog_segment :: BtR bs2 s'.bt :: IsR es2 s'.ends :: OwnS elS p.sl p.cs :: BsR sl dt :: DkR b d :: l) (subSl sl 1 s'.bytes.toNat sl.len) 1 ((dt.drop s'.bytes.toNat).map vB) := fun w hw => by
        have := (Sat.up hw 5).rdc.sub (lo := s'.bytes.toNat) (hi := sl.len) (by omega) (Nat.le_refl _)
        have e : ((dt.map vB).drop (s'.bytes.toNat * 1)).take ((sl.len - s'.bytes.toNat) * 1) = (dt.drop s'.bytes.toNat).map vB := by
          rw [Nat.mul_one, Nat.mul_one, ← List.map_drop, List.take_of_length_le (by simp; omega)]
        rw [e] at this
        exact this
      have hql : (dt.drop s'.bytes.toNat).length = dt.length - s'.bytes.toNat := by simp
      refine fdecode_ok h9 hrd (by omega) (fun hc w23 h10 => ⟨(⟨none, 0, 0⟩, 0, _, ()), rfl, ?_⟩) fun hc s24 w23 h10 => ⟨(s24, _, 0, ()), rfl, ?_⟩
      · refine ⟨⟨_, h10.tail⟩, ?_⟩
        have hno : stepS dt s' = none := by unfold stepS; rw [if_neg (fun h => hc h.2.1)]
        refine ifB_bne (fun _ => ?_) fun c => absurd c hc
        exact ⟨s', hi, stop hno, sat_sg.2 ⟨bs2, es2, h10.sel 8 [2, 3, 4, 1, 0, 5, 6, 7]⟩⟩
      · refine ⟨⟨_, h10.tail.tail⟩, ?_⟩
        refine ifB_bne (fun c => absurd rfl c) fun _ => ?_
        obtain ⟨b1, b2, b3⟩ := fdec_bounds hc
        generalize hfd : fdec (dt.drop s'.bytes.toNat) = fd at *
        have hx24 : Rd W (BsR s24 fd.1 :: FrR p.fr :: Blk a (lcells b g p) T_seglog_Log :: Blk q (scells s' bs2 es2) T_seglog_segment :: BtR bs2 s'.bt :: IsR es2 s'.ends :: OwnS elS p.sl p.cs :: BsR sl dt :: DkR b d :: l) s24 1 (fd.1.map vB) := Rd.own
        refine decode_ok (t := fd.1) h10 hx24 (by omega) (fun hd w26 h11 => tup2v ?_) fun hd vs ss w26 hss h11 => tup2v ?_
        · refine allocB h11 (z := .agg zeroDc.cells.toArray) (by kernel_rfl) fun a28 w29 h12 => ?_
          have h12 : Sat W w29 (Blk a28 zeroDc.cells T_api_Batch :: _) := h12
          refine stAggB (cs' := zeroDc.cells) h12 rfl zeroDc.ones (by kernel_rfl) fun w30 h13 => ?_
          refine ⟨fun _ _ => False, fun _ _ hf => hf.elim, fun _ => True, trivial, ?_⟩
          refine ifB_bne (fun _ => ?_) fun c => absurd c hd
          have hno : stepS dt s' = none := by unfold stepS; rw [hfd, if_neg (fun h => hd h.2.2.1)]
          have h14 := h13.drew.tail.tail
          exact ⟨s', hi, stop hno, sat_sg.2 ⟨bs2, es2, h14.sel 8 [2, 3, 4, 1, 0, 5, 6, 7]⟩⟩
        · let x : Dc := decV fd.1 vs ss
          have hbd : x.bd = (decD fd.1).bd := rfl
          obtain ⟨he1, hnum, hck⟩ := enc_dec hd
          have hck2 : x.bd.chk = 0 := hck
          refine allocB h11 (z := .agg zeroDc.cells.toArray) (by kernel_rfl) fun a28 w29 h12 => ?_
          have h12 : Sat W w29 (Blk a28 zeroDc.cells T_api_Batch :: _) := h12
          refine stAggB (cs' := x.cells) h12 rfl x.ones (by kernel_rfl) fun w30 h13 => ?_
          have h14 : Sat W w30.drew (SgR q s' :: Blk a28 x.cells T_api_Batch :: VsR vs ss (decD fd.1).bs :: Blk a (lcells b g p) T_seglog_Log :: FrR p.fr :: OwnS elS p.sl p.cs :: BsR sl dt :: DkR b d :: l) := by
            have := h13.drew
            exact sat_sg.2 ⟨bs2, es2, this.sel 11 [5, 6, 7, 0, 1, 4, 3, 8, 9, 10]⟩
          refine ⟨fun _ w' => (decD fd.1).ba = s'.fin ∧ Sat W w' (SgR q s' :: Blk a28 x.cells T_api_Batch :: VsR vs ss (decD fd.1).bs :: Blk a (lcells b g p) T_seglog_Log :: FrR p.fr :: OwnS elS p.sl p.cs :: BsR sl dt :: DkR b d :: l), ?_, ?_⟩
          · rintro _ w33 ⟨hbe, h15⟩
            refine ldAggB (b := a28) (cs := x.cells) (h15.up 1) (by kernel_rfl) ?_
            have h16 : Sat W w33 (VsR vs ss (decD fd.1).bs :: SgR q s' :: Blk a (lcells b g p) T_seglog_Log :: FrR p.fr :: OwnS elS p.sl p.cs :: BsR sl dt :: DkR b d :: l) := h15.sel 3 [2, 0]
            have h17 : Sat W w33 (elB.own x :: SgR q s' :: Blk a (lcells b g p) T_seglog_Log :: FrR p.fr :: OwnS elS p.sl p.cs :: BsR sl dt :: DkR b d :: l) := sat_all.2 (sat_pure.2 ⟨⟨hss, hnum⟩, h16⟩)
            have hfw := hi.few
            have hen := hi.ends
            refine add_ok (d := x) (n := fd.2.1) h17 (by omega) (by omega) (by omega) (by omega) fun w41 h18 => tupU rfl ?_
            have hst : stepS dt s' = some (s'.add x.bd fd.2.1) := by
              unfold stepS; rw [hfd, if_pos ⟨c', hc, hd, hbe⟩]; rfl
            have hi2 : LdI s (s'.add x.bd fd.2.1) dt.length := hi.add b1 (by rw [hql] at b2; omega) hck2 hbe
            obtain ⟨k', rfl⟩ : ∃ k', k = k' + 1 := ⟨k - 1, by omega⟩
            have hbb : (s'.add x.bd fd.2.1).bytes = s'.bytes + fd.2.1 := rfl
            obtain ⟨bs3, es3, h19⟩ := sat_sg.1 h18
            have hm41 : ((w41.cell? ⟨q, 2, none⟩).bind fun v => match v with | .int _ n => some n.toNat | _ => none).getD 0 = (s'.bytes + fd.2.1).toNat := by
              rw [show w41.cell? ⟨q, 2, none⟩ = some (.int .i64 (s'.bytes + fd.2.1)) from h19.cell 2]; rfl
            refine ⟨⟨s'.add x.bd fd.2.1, k', hi2, by rw [hld, loadS, hst], by rw [hbb]; omega, h18⟩, ?_⟩
            show dt.length - _ < dt.length - _
            rw [hm13, hm41]; omega
          · refine ⟨fun w => ∃ L, Sat W w (Blk a28 x.cells T_api_Batch :: L), ⟨_, h14.up 1⟩, ?_⟩
            refine ifB_bne (fun c => absurd rfl c) fun _ => ?_
            refine hldX (b := a28) (cs := x.cells) (fun w hw => hw) 0 (x := x.ba) ?_
            have hbts := hi.bts
            have hfw := hi.few
            have hbase := hi.base
            refine segEnd_ok (p := q) (s := s') h14 (fun y hy => by
              have := hbts y hy
              omega) fun w37 h15 => tyI (k := .int .i64) ⟨⟨_, h15.up 1⟩, ?_⟩
            refine ifB_bne (fun c => ?_) fun c => ?_
            · have hno : stepS dt s' = none := by unfold stepS; rw [hfd, if_neg (fun h => c h.2.2.2)]
              exact ⟨s', hi, stop hno, h15.sel 4 [0, 3]⟩
            · exact ⟨c, h15⟩
    · have hno : stepS dt s' = none := by
        unfold stepS
        rw [if_neg (fun h => c (by have := h.1; show s'.bytes < ((sl.len : Nat) : Int); omega))]
      exact ⟨s', hi, stop hno, h6⟩
end
end Go.Proofs.YtnjadekngjgjcaaGreatDoor

/- Layer 8: a log is opened. -/
namespace Go.Proofs.YtnjadekngjgjcaaGreatDoor
open Go Go.Pk
/-- a log while it is opened -/
structure OpS where
  g : Lg
  d : Dk
  whole : Bool
/-- the offset that a file's name tells -/
def fileBase (g : Lg) (f : List UInt8) : Option Int := if Lib.hasPrefix f (g.name ++ [46]) then match Lib.atoiAll (Lib.trimPrefix f (g.name ++ [46])) with
    | .ok v => if f = g.file v then some v else none
    | _ => none
  else none
noncomputable def OpS.file (o : OpS) (f : List UInt8) : OpS := match fileBase o.g f with
  | none => o
  | some v => if o.whole = false ∨ (o.g.segs ≠ [] ∧ v ≠ o.g.fin) then ⟨o.g, (o.d.remove f).1, false⟩
    else ⟨{ o.g with segs := o.g.segs ++ [(ldFl ⟨v, f, 0, [], []⟩ o.d).1] }, (ldFl ⟨v, f, 0, [], []⟩ o.d).2.1, (ldFl ⟨v, f, 0, [], []⟩ o.d).2.2⟩
noncomputable def opAll (n : List UInt8) (d : Dk) : OpS := (srt d.names).foldl OpS.file ⟨⟨n, [], 0⟩, d, true⟩
noncomputable def opLg (n : List UInt8) (d : Dk) : Lg := { (opAll n d).g with sync := (opAll n d).g.lasting (opAll n d).d }
noncomputable def opDk (n : List UInt8) (d : Dk) : Dk := (opAll n d).d
/-- what holds of an opened log's segments -/
structure SgI (s : Sg) : Prop where
  base : 0 ≤ s.base ∧ s.base ≤ 1099511627776
  pos : 0 ≤ s.bytes ∧ s.bytes ≤ 4194304
  ends : s.ends.length = s.bt.length
  few : (s.bt.length : Int) * 8 ≤ s.bytes
  bts : ∀ x ∈ s.bt, x.chk = 0 ∧ 0 ≤ x.ba ∧ x.fin ≤ s.base + 16 * s.bt.length
  fin : s.base ≤ s.fin ∧ s.fin ≤ s.base + 16 * s.bt.length
def LgI (g : Lg) : Prop := ∀ s ∈ g.segs, SgI s
theorem LdI.sgI {s0 s : Sg} {n : Nat} (h : LdI s0 s n) (hn : n ≤ 4194304) (hb : 0 ≤ s0.base ∧ s0.base ≤ 1099511627776) : SgI s := ⟨by rw [h.base]; exact hb, by have := h.pos; omega, h.ends, h.few, h.bts, h.fin⟩
theorem LgI.b {g : Lg} (h : LgI g) : LgB g := fun s hs x hx => by
  have h1 := h s hs
  have h2 := h1.bts x hx
  have h3 := h1.base
  have h4 := h1.few
  have h5 := h1.pos
  omega
theorem LgI.c {g : Lg} (h : LgI g) : LgC g := fun s hs x hx => ((h s hs).bts x hx).1
theorem LgI.e {g : Lg} (h : LgI g) : LgE g := fun s hs => (h s hs).ends
theorem LgI.r {g : Lg} (h : LgI g) : ∀ s ∈ g.segs, s.bt.length ≤ 1073741824 := fun s hs => by
  have h4 := (h s hs).few
  have h5 := (h s hs).pos
  omega
theorem LgI.f {g : Lg} (h : LgI g) : LgF g := fun s hs => by
  have h1 := (h s hs).ends
  have h4 := (h s hs).few
  have h5 := (h s hs).pos
  unfold SgF
  omega
theorem LgI.fin {g : Lg} (h : LgI g) : 0 ≤ g.fin ∧ g.fin ≤ 1099520016384 := by
  unfold Lg.fin
  cases hl : g.segs.getLast? with
  | none => simp
  | some s =>
    have h1 := h s (List.mem_of_getLast? hl)
    have h2 := h1.base
    have h3 := h1.fin
    have h4 := h1.few
    have h5 := h1.pos
    simp only
    omega
theorem strAddN {w : World} {t : TypeId} {x y : List UInt8} {o1 o2 : Operand} {K : ByteArray → World → Prop} (hs : x.length + y.length ≤ 1000000) (hK : K (vK (x ++ y)) w) :
    RunK .str P (do eqGuard .add t o1 o2 (.string (vK x)) (.string (vK y)); binOp .add t (.string (vK x)) (.string (vK y))) w K := strAddK hs hK
theorem errIs {w : World} {o1 o2 : Operand} {te : TypeId} {pe : Value} {K : Bool → Prop} (hK : K true) : RunQ .bool P (do (eqGuard .neq T_error o1 o2 (.iface te pe) .nilIface); (binOp .neq T_error (.iface te pe) .nilIface)) w K := ⟨true, by kernel_rfl, hK⟩
theorem errNo {w : World} {K : Bool → Prop} (hK : K false) : RunQ .bool P (do (eqGuard .neq T_error (.tmp 0) (.const .nilIface) .nilIface .nilIface); (binOp .neq T_error .nilIface .nilIface)) w K := ⟨false, by
  have h1 := run_neq_nil_nil_at (P := P) (w := w) T_error (by kernel_rfl)
  simp only [eqGuard, Kd.v]
  exact h1, hK⟩
section
variable {W w : World} {l : List Res} {K : Value → World → Prop} {a b : Nat} {g : Lg}
/-- the names of a log's files tell small offsets -/
def NmOk (n : List UInt8) (d : Dk) : Prop := ∀ f ∈ d.names, ∀ v, fileBase ⟨n, [], 0⟩ f = some v → 0 ≤ v ∧ v ≤ 1099511627776
theorem fileBase_g {g : Lg} {n f : List UInt8} (h : g.name = n) : fileBase g f = fileBase ⟨n, [], 0⟩ f := by
  unfold fileBase Lg.file
  rw [h]
theorem ldFl_fst (s : Sg) (d : Dk) : (ldFl s d).1 = ldSg s d := by unfold ldFl; split <;> rfl
set_option maxHeartbeats 1000000 in
theorem open_ok {d : Dk} {n : List UInt8} (h : Sat W w (DkR b d :: l)) (hl : Lai W l) (hd : d.dead = false) (hn : n ≠ [] ∧ n.length ≤ 8 ∧ ¬ 46 ∈ n) (hm : NmOk n d) (hfs : d.files.length ≤ 4096) (hfl0 : ∀ f ∈ d.names, f.length ≤ 1000000)
    (hK : ∀ a w', LgI (opLg n d) → (opLg n d).segs.length ≤ 4096 → Sat W w' (LgR a b (opLg n d) :: DkR b (opDk n d) :: l) → K (.tuple #[.pointer (some ⟨a, 0, none⟩), .int .i64 0]) w') : CallP P F_seglog_Open [.pointer (some ⟨b, 0, none⟩), .string (vK n)] w K := by
  apply c_seglog_Open
  unfold S_seglog_Open
  refine ⟨fun _ w' => Sat W w' (DkR b d :: l), ?_, ?_⟩
  · rintro _ w2 h2
    refine fnew_ok h2 fun fr w10 h3 => tyI (k := .ptr) ?_
    refine boxB h3 fun a w13 h4 => ?_
    let g0 : Lg := ⟨n, [], 0⟩
    let p0 : LgP := ⟨fr, ⟨none, 0, 0⟩, []⟩
    have h4 : Sat W w13 (Blk a (lcells b g0 p0) T_seglog_Log :: FrR fr :: DkR b d :: l) := h4
    have h5 : Sat W w13 (LgR a b g0 :: DkR b d :: l) := by
      have := own_nil (E := elS) h4
      exact sat_lg.2 ⟨p0, rfl, this.sel 3 [1, 2, 0]⟩
    refine names_ok h5.swap fun s w15 h6 => tyI (k := .sl) ?_
    generalize hns : srt d.names = ns at *
    have hnsl : ns.length ≤ 4096 := by
      rw [← hns]
      have : (srt d.names).length = d.names.length := by simp [srt]
      rw [this]; simpa [Dk.names] using hfs
    have hnsm : ∀ f ∈ ns, f ∈ d.names := fun f hf => by rw [← hns] at hf; exact (List.mergeSort_perm _ _).mem_iff.1 hf
    let St : Nat → OpS := fun i => (ns.take i).foldl OpS.file ⟨g0, d, true⟩
    have hsl := h6.slLen
    simp only [List.length_map, Nat.mul_one] at hsl
    refine ⟨fun t w' => ∃ i : Nat, t.2.1 = i ∧ i ≤ ns.length ∧ (St i).whole = t.1 ∧ (St i).g.name = n ∧ LgI (St i).g ∧ (St i).g.segs.length ≤ i ∧ Sat W w' (LgR a b (St i).g :: DkR b (St i).d :: SlR T_string 1 s (ns.map vStr) :: l), fun t _ => ns.length - t.2.1.toNat,
      ⟨0, rfl, Nat.zero_le _, rfl, rfl, fun s hs => (by cases hs), Nat.le_refl _, h6.sel 3 [2, 1, 0]⟩, ?_⟩
    rintro ⟨tw, ti, u⟩ w19 ⟨i, hi, hil, hwh, hnm, hI, hsg, h7⟩
    simp only at hi hwh ⊢
    subst hi
    refine ifB_dec (fun hlt => ?_) fun hge => ?_
    · have hlt' : i < ns.length := by omega
      have hf : ns[i]? = some ns[i] := List.getElem?_eq_getElem hlt'
      have hfm := hnsm _ (List.getElem_mem hlt')
      generalize ns[i] = f at hf hfm
      have hSt : St (i + 1) = OpS.file (St i) f := by
        show (ns.take (i + 1)).foldl _ _ = _
        rw [take_next hf, List.foldl_append]; rfl
      have et_str : ET P T_sl_string T_string 1 16 := et_strs
      refine ixA et_str (h7.up 2).rdc (by omega) (by omega) fun a1 ha1 => ?_
      refine ldC (k := .str) (x := vK f) (ha1 0 _ (by decide) (by
        have e : ((i : Int)).toNat * 1 + 0 = i := by omega
        rw [e, List.getElem?_map, hf]; rfl)) ?_
      have e46 : (ByteArray.mk #[46]) = vK [46] := rfl
      rw [e46]
      generalize hO : St i = o at *
      refine strAddN (x := n) (y := [46]) (by simp; omega) ?_
      refine trimPrefix_ok (a := f) (p := n ++ [46]) (tyI (k := .str) ?_)
      have hw1 : IntKind.i64.wrap ((i : Int) + 1) = ((i + 1 : Nat) : Int) := by rw [w_i64 (n := (i : Int) + 1) (by omega) (by omega)]; omega
      have hdec : ns.length - ((i + 1 : Nat) : Int).toNat < ns.length - (i : Int).toNat := by omega
      have hfb := fileBase_g (g := o.g) (n := n) (f := f) hnm
      have hfb1 : fileBase o.g f = if Lib.hasPrefix f (n ++ [46]) then match Lib.atoiAll (Lib.trimPrefix f (n ++ [46])) with
          | .ok v => if f = o.g.file v then some v else none
          | _ => none
        else none := by unfold fileBase; rw [hnm]
      -- the file isn't one of the log's
      have skip : ∀ w', fileBase o.g f = none → Sat W w' (LgR a b o.g :: DkR b o.d :: SlR T_string 1 s (ns.map vStr) :: l) →
          (fun (t' : Option (Bool × Int × Unit)) w' => match t' with | some t' => (∃ i : Nat, t'.2.1 = i ∧ i ≤ ns.length ∧ (St i).whole = t'.1 ∧ (St i).g.name = n ∧ LgI (St i).g ∧ (St i).g.segs.length ≤ i ∧ Sat W w' (LgR a b (St i).g :: DkR b (St i).d :: SlR T_string 1 s (ns.map vStr) :: l)) ∧ ns.length - t'.2.1.toNat < ns.length - (i : Int).toNat | none => False) (some (tw, (IntKind.i64.wrap ((i : Int) + 1), ()))) w' := by
        intro w' hno h8
        have e : St (i + 1) = o := by rw [hSt]; unfold OpS.file; rw [hno]
        rw [hw1]
        refine ⟨⟨i + 1, rfl, by omega, ?_⟩, hdec⟩
        rw [e]
        exact ⟨hwh, hnm, hI, by omega, h8⟩
      have hfl : f.length ≤ 1000000 ∨ True := .inr trivial
      have hl7 : Lai W (LgR a b o.g :: DkR b o.d :: SlR T_string 1 s (ns.map vStr) :: l) := hl.cons.cons.cons
      have tail : ∀ (v : Int) (er : Value) (w28 : World), (er = .nilIface ∧ Lib.atoiAll (Lib.trimPrefix f (n ++ [46])) = .ok v ∨ (∃ te pe, er = .iface te pe) ∧ ∀ u, Lib.atoiAll (Lib.trimPrefix f (n ++ [46])) ≠ .ok u) →
          Sat W w28 (LgR a b o.g :: DkR b o.d :: SlR T_string 1 s (ns.map vStr) :: l) →
               JoinP (T := Unit) (fun J30 =>
                RunK .str P (do (eqGuard .add T_string (.tmp 0) (.const (.string (vK [46]))) (.string (vK n)) (.string (vK [46]))); (binOp .add T_string (.string (vK n)) (.string (vK [46])))) w28 fun (t33 : ByteArray) w34 =>
                CallP P F_strings_HasPrefix [(.string (vK f)), (.string t33)] w34 fun (v35 : Value) w36 =>
                TyP .bool v35 fun (b37 : Bool) =>
                ifB (!b37)
                ((fun (t' : Option (Bool × Int × Unit)) w' => match t' with | some t' => (∃ i : Nat, t'.2.1 = i ∧ i ≤ ns.length ∧ (St i).whole = t'.1 ∧ (St i).g.name = n ∧ LgI (St i).g ∧ (St i).g.segs.length ≤ i ∧ Sat W w' (LgR a b (St i).g :: DkR b (St i).d :: SlR T_string 1 s (ns.map vStr) :: l)) ∧ ns.length - t'.2.1.toNat < ns.length - (i : Int).toNat | none => False) (some (tw, ((IntKind.i64.wrap ((i : Int) + 1)), ()))) w36)
                (RunQ .bool P (do (eqGuard .neq T_error (.tmp 0) (.const .nilIface) er .nilIface); (binOp .neq T_error er .nilIface)) w36 fun (b38 : Bool) =>
                ifB b38
                ((fun (t' : Option (Bool × Int × Unit)) w' => match t' with | some t' => (∃ i : Nat, t'.2.1 = i ∧ i ≤ ns.length ∧ (St i).whole = t'.1 ∧ (St i).g.name = n ∧ LgI (St i).g ∧ (St i).g.segs.length ≤ i ∧ Sat W w' (LgR a b (St i).g :: DkR b (St i).d :: SlR T_string 1 s (ns.map vStr) :: l)) ∧ ns.length - t'.2.1.toNat < ns.length - (i : Int).toNat | none => False) (some (tw, ((IntKind.i64.wrap ((i : Int) + 1)), ()))) w36)
                (CallP P F_seglog_Log_file [(.pointer (some ⟨a, 0, none⟩)), (.int .i64 v)] w36 fun (v39 : Value) w40 =>
                TyP .str v39 fun (t41 : ByteArray) =>
                ifB (!ByteArray.toList (vK f) == ByteArray.toList t41)
                ((fun (t' : Option (Bool × Int × Unit)) w' => match t' with | some t' => (∃ i : Nat, t'.2.1 = i ∧ i ≤ ns.length ∧ (St i).whole = t'.1 ∧ (St i).g.name = n ∧ LgI (St i).g ∧ (St i).g.segs.length ≤ i ∧ Sat W w' (LgR a b (St i).g :: DkR b (St i).d :: SlR T_string 1 s (ns.map vStr) :: l)) ∧ ns.length - t'.2.1.toNat < ns.length - (i : Int).toNat | none => False) (some (tw, ((IntKind.i64.wrap ((i : Int) + 1)), ()))) w40)
                (J30 (some ()) w40))))
                fun t31 w32 =>
                JoinP (T := Unit) (fun J42 =>
                ifB (!tw)
                (CallP P F_disk_Disk_Remove [(.pointer (some ⟨b, 0, none⟩)), (.string (vK f))] w32 fun (v45 : Value) w46 =>
                TyP (.int .i64) v45 fun (n47 : Int) =>
                ((fun (t' : Option (Bool × Int × Unit)) w' => match t' with | some t' => (∃ i : Nat, t'.2.1 = i ∧ i ≤ ns.length ∧ (St i).whole = t'.1 ∧ (St i).g.name = n ∧ LgI (St i).g ∧ (St i).g.segs.length ≤ i ∧ Sat W w' (LgR a b (St i).g :: DkR b (St i).d :: SlR T_string 1 s (ns.map vStr) :: l)) ∧ ns.length - t'.2.1.toNat < ns.length - (i : Int).toNat | none => False) (some (false, ((IntKind.i64.wrap ((i : Int) + 1)), ()))) w46))
                (RunQ .sl P (Instr.loadAt T_sl_p_seglog_segment (.pointer (some (Go.Addr.add ⟨a, 0, none⟩ 3)))) w32 fun (s48 : Sl) =>
                ifB (decide ((↑s48.len : Int) > 0))
                (CallP P F_seglog_Log_End [(.pointer (some ⟨a, 0, none⟩))] w32 fun (v49 : Value) w50 =>
                TyP (.int .i64) v49 fun (n51 : Int) =>
                ifB (v != n51)
                (CallP P F_disk_Disk_Remove [(.pointer (some ⟨b, 0, none⟩)), (.string (vK f))] w50 fun (v52 : Value) w53 =>
                TyP (.int .i64) v52 fun (n54 : Int) =>
                ((fun (t' : Option (Bool × Int × Unit)) w' => match t' with | some t' => (∃ i : Nat, t'.2.1 = i ∧ i ≤ ns.length ∧ (St i).whole = t'.1 ∧ (St i).g.name = n ∧ LgI (St i).g ∧ (St i).g.segs.length ≤ i ∧ Sat W w' (LgR a b (St i).g :: DkR b (St i).d :: SlR T_string 1 s (ns.map vStr) :: l)) ∧ ns.length - t'.2.1.toNat < ns.length - (i : Int).toNat | none => False) (some (false, ((IntKind.i64.wrap ((i : Int) + 1)), ()))) w53))
                (J42 (some ()) w50))
                (J42 (some ()) w32)))
                fun t43 w44 =>
                RunK .addr P (Instr.box T_seglog_segment (.agg #[(.int .i64 v), (.string (vK f)), (.int .i64 0), (.slice none 0 0), (.slice none 0 0)])) w44 fun (a55 : Addr) w56 =>
                CallP P F_seglog_Log_load [(.pointer (some ⟨a, 0, none⟩)), (.pointer (some a55))] w56 fun (v57 : Value) w58 =>
                TyP .bool v57 fun (b59 : Bool) =>
                RunQ .sl P (Instr.loadAt T_sl_p_seglog_segment (.pointer (some (Go.Addr.add ⟨a, 0, none⟩ 3)))) w58 fun (s60 : Sl) =>
                RunK .sl P (Instr.buildSlice T_sl_p_seglog_segment 1 #[(0, (.pointer (some a55)))]) w58 fun (s61 : Sl) w62 =>
                RunK .sl P (Builtin.append_ #[T_sl_p_seglog_segment, T_sl_p_seglog_segment] T_sl_p_seglog_segment #[s60.v, s61.v]) w62 fun (s63 : Sl) w64 =>
                StoreP P T_sl_p_seglog_segment (.pointer (some (Go.Addr.add ⟨a, 0, none⟩ 3))) s63.v w64 fun w65 =>
                ((fun (t' : Option (Bool × Int × Unit)) w' => match t' with | some t' => (∃ i : Nat, t'.2.1 = i ∧ i ≤ ns.length ∧ (St i).whole = t'.1 ∧ (St i).g.name = n ∧ LgI (St i).g ∧ (St i).g.segs.length ≤ i ∧ Sat W w' (LgR a b (St i).g :: DkR b (St i).d :: SlR T_string 1 s (ns.map vStr) :: l)) ∧ ns.length - t'.2.1.toNat < ns.length - (i : Int).toNat | none => False) (some (b59, ((IntKind.i64.wrap ((i : Int) + 1)), ()))) w65) := by
        intro v er w28 her h8
        refine ⟨fun _ w' => fileBase o.g f = some v ∧ Sat W w' (LgR a b o.g :: DkR b o.d :: SlR T_string 1 s (ns.map vStr) :: l), ?_, ?_⟩
        · rintro _ w32 ⟨hv, h9⟩
          have hvb := hm f hfm v (by rw [← hfb]; exact hv)
          have hrem : ∀ w', (o.whole = false ∨ (o.g.segs ≠ [] ∧ v ≠ o.g.fin)) → Sat W w' (LgR a b o.g :: DkR b (o.d.remove f).1 :: SlR T_string 1 s (ns.map vStr) :: l) → ((fun (t' : Option (Bool × Int × Unit)) w' => match t' with | some t' => (∃ i : Nat, t'.2.1 = i ∧ i ≤ ns.length ∧ (St i).whole = t'.1 ∧ (St i).g.name = n ∧ LgI (St i).g ∧ (St i).g.segs.length ≤ i ∧ Sat W w' (LgR a b (St i).g :: DkR b (St i).d :: SlR T_string 1 s (ns.map vStr) :: l)) ∧ ns.length - t'.2.1.toNat < ns.length - (i : Int).toNat | none => False) (some (false, ((IntKind.i64.wrap ((i : Int) + 1)), ()))) w') := by
            intro w' hc h10
            have e : St (i + 1) = ⟨o.g, (o.d.remove f).1, false⟩ := by rw [hSt]; unfold OpS.file; rw [hv]; exact if_pos hc
            rw [hw1]
            refine ⟨⟨i + 1, rfl, by omega, ?_⟩, hdec⟩
            rw [e]
            exact ⟨rfl, hnm, hI, by show o.g.segs.length ≤ i + 1; omega, h10⟩
          refine ⟨fun _ w' => ¬ (o.whole = false ∨ (o.g.segs ≠ [] ∧ v ≠ o.g.fin)) ∧ Sat W w' (LgR a b o.g :: DkR b o.d :: SlR T_string 1 s (ns.map vStr) :: l), ?_, ?_⟩
          · rintro _ w44 ⟨hc, h10⟩
            let s0 : Sg := ⟨v, f, 0, [], []⟩
            refine boxB h10 fun q w56 h11 => ?_
            have h11 : Sat W w56 (Blk q (scells s0 ⟨none, 0, 0⟩ ⟨none, 0, 0⟩) T_seglog_segment :: LgR a b o.g :: DkR b o.d :: SlR T_string 1 s (ns.map vStr) :: l) := h11
            have h12 : Sat W w56 (BtR ⟨none, 0, 0⟩ [] :: _) := sat_bt.2 ⟨[], rfl, own_nil (E := elB) h11⟩
            have h13 : Sat W w56 (IsR ⟨none, 0, 0⟩ [] :: _) := Sat.nilSlr h12 T_int 1
            have h14 : Sat W w56 (SgR q s0 :: LgR a b o.g :: DkR b o.d :: SlR T_string 1 s (ns.map vStr) :: l) := sat_sg.2 ⟨_, _, h13.sel 3 [2, 1, 0]⟩
            refine load_ok (s := s0) h14 ⟨rfl, rfl, rfl⟩ hvb fun w58 hld hdl h15 => tyI (k := .bool) ?_
            have e : St (i + 1) = ⟨{ o.g with segs := o.g.segs ++ [(ldFl s0 o.d).1] }, (ldFl s0 o.d).2.1, (ldFl s0 o.d).2.2⟩ := by rw [hSt]; unfold OpS.file; rw [hv]; exact if_neg hc
            obtain ⟨p, hp, h16⟩ := sat_lg.1 h15.swap
            have hol := own_len (h16.up 2) (by decide : 0 < 1)
            have hcl : p.cs.length = o.g.segs.length := by rw [← hp]; simp
            refine ldX h16 3 (x := p.sl) ?_
            refine bsB h16 (cs := [.pointer (some ⟨q, 0, none⟩)]) (e := T_p_seglog_segment) (fun w => by kernel_rfl) fun gb w62 h17 => ?_
            have h18 : Sat W w62 (Blk gb (elS.cells (q, (ldFl s0 o.d).1)) T_p_seglog_segment :: elS.own (q, (ldFl s0 o.d).1) :: OwnS elS p.sl p.cs :: Blk a (lcells b o.g p) T_seglog_Log :: FrR p.fr :: DkR b (ldFl s0 o.d).2.1 :: SlR T_string 1 s (ns.map vStr) :: l) := h17.sel 5 [0, 4, 3, 1, 2]
            refine own_push (E := elS) (x := (q, (ldFl s0 o.d).1)) et_segs rfl rfl (by decide) h18 (by omega) (by omega) fun s63 w64 h19 => ?_
            have h20 : Sat W w64 (Blk a (lcells b o.g p) T_seglog_Log :: FrR p.fr :: OwnS elS s63 (p.cs ++ [(q, (ldFl s0 o.d).1)]) :: DkR b (ldFl s0 o.d).2.1 :: SlR T_string 1 s (ns.map vStr) :: l) := h19.sel 3 [1, 2, 0]
            refine stX h20 3 (v := s63.v) (hi := (by show 3 < 5; decide)) fun w65 h21 => ?_
            rw [hw1]
            refine ⟨⟨i + 1, rfl, by omega, ?_⟩, hdec⟩
            rw [e]
            refine ⟨rfl, hnm, ?_, by show (o.g.segs ++ [_]).length ≤ _; simp; omega, sat_lg.2 ⟨⟨p.fr, s63, p.cs ++ [(q, (ldFl s0 o.d).1)]⟩, by rw [List.map_append, hp]; rfl, h21⟩⟩
            intro y hy
            rcases List.mem_append.1 hy with hy | hy
            · exact hI y hy
            · rw [List.mem_singleton.1 hy, ldFl_fst]
              exact hld.sgI hdl hvb
          · refine ifB_not ?_
            refine ifB_intro (fun ct => ?_) fun ct => ?_
            · obtain ⟨p, hp, h10⟩ := sat_lg.1 h9
              have hol := own_len (h10.up 2) (by decide : 0 < 1)
              have hcl : p.cs.length = o.g.segs.length := by rw [← hp]; simp
              refine ldX h10 3 (x := p.sl) ?_
              have hwt : o.whole = true := by rw [hwh]; exact ct
              refine ifB_dec (fun c2 => ?_) fun c2 => ?_
              · have hne : o.g.segs ≠ [] := by
                  intro h0
                  rw [h0] at hcl
                  have : p.cs.length = 0 := hcl
                  omega
                refine fin_ok h9 hI.b fun w50 h11 => tyI (k := .int .i64) ?_
                refine ifB_bne (fun c3 => ?_) fun c3 => ?_
                · refine dremove_ok (n := f) h11.swap fun w53 h12 => tyI (k := .int .i64) ?_
                  exact hrem w53 (.inr ⟨hne, c3⟩) h12.swap
                · refine ⟨fun hc => ?_, h11⟩
                  rcases hc with hc | hc
                  · rw [hwt] at hc; cases hc
                  · exact hc.2 c3
              · have hne : o.g.segs = [] := List.length_eq_zero_iff.1 (by omega)
                refine ⟨fun hc => ?_, h9⟩
                rcases hc with hc | hc
                · rw [hwt] at hc; cases hc
                · exact hc.1 hne
            · have hwf : o.whole = false := by rw [hwh]; exact ct
              refine dremove_ok (n := f) h9.swap fun w53 h12 => tyI (k := .int .i64) ?_
              exact hrem w53 (.inl hwf) h12.swap
        · refine strAddN (x := n) (y := [46]) (by simp; omega) ?_
          refine hasPrefix_ok (a := f) (p := n ++ [46]) (tyI (k := .bool) ?_)
          refine ifB_not ?_
          refine ifB_intro (fun c => ?_) fun c => ?_
          · have hfb2 : fileBase o.g f = match Lib.atoiAll (Lib.trimPrefix f (n ++ [46])) with
              | .ok v => if f = o.g.file v then some v else none
              | _ => none := by rw [hfb1, if_pos c]
            rcases her with ⟨rfl, hat⟩ | ⟨⟨te, pe, rfl⟩, hno⟩
            · rw [hat] at hfb2
              simp only at hfb2
              refine errNo ?_
              refine ifB_intro (fun c => absurd c (by simp)) fun _ => ?_
              have hvr := Lib.atoiAll_bounds hat
              refine file_ok (g := o.g) (n := v) h8 hl.cons.cons (by omega) (by have := Lib.itoa_length_le v hvr.1 hvr.2; omega) (by rw [hnm]; omega) fun w40 h9 => tyI (k := .str) ?_
              rw [str_eq]
              refine ifB_not ?_
              refine ifB_dec (fun c3 => ?_) fun c3 => ?_
              · exact ⟨by rw [hfb2, if_pos c3], h9⟩
              · exact skip w40 (by rw [hfb2, if_neg c3]) h9
            · refine errIs ?_
              refine ifB_intro (fun _ => ?_) fun c => absurd c (by simp)
              refine skip w28 ?_ h8
              rw [hfb2]
              cases hat : Lib.atoiAll (Lib.trimPrefix f (n ++ [46])) with
              | ok u => exact absurd hat (hno u)
              | range => rfl
              | _ => rfl
          · exact skip w28 (by rw [hfb1, if_neg (by rw [c]; simp)]) h8
      have hfl2 : f.length ≤ 1000000 := hfl0 f hfm
      have htl := Lib.trimPrefix_le f (n ++ [46])
      refine atoi_ok (a := Lib.trimPrefix f (n ++ [46])) h7 hl7 (by omega) (fun v w28 hat h8 => ⟨(v, .nilIface, ()), rfl, tail v _ w28 (.inl ⟨rfl, hat⟩) h8⟩) fun v N w28 hno h8 => ⟨(v, .iface T_p_strconv_NumError (.pointer (some ⟨N, 0, none⟩)), ()), rfl, tail v _ w28 (.inr ⟨⟨_, _, rfl⟩, hno⟩) h8⟩
    · have hie : i = ns.length := by omega
      have e1 : ns.take i = ns := List.take_of_length_le (by omega)
      have e2 : St i = opAll n d := by show (ns.take i).foldl _ _ = _; rw [e1]; unfold opAll; rw [hns]
      rw [e2] at hI h7 hsg
      have hsg2 : (opAll n d).g.segs.length ≤ 4096 := by omega
      refine lasting_ok (h7.cut 2) hI.b hI.e (by omega) hI.r fun w67 h8 => tyI (k := .int .i64) ?_
      obtain ⟨p, hp, h9⟩ := sat_lg.1 h8
      refine stX h9 4 (v := .int .i64 ((opAll n d).g.lasting (opAll n d).d)) (hi := (by show 4 < 5; decide)) fun w69 h10 => ?_
      exact hK a w69 hI hsg2 (sat_lg.2 ⟨p, hp, h10⟩)
  · refine ifB_intro (fun c => absurd c (by simp)) fun _ => ?_
    rw [str_nil]
    refine ifB_dec (fun c => absurd c hn.1) fun c1 => ?_
    have hsz : (((vK n).size : Nat) : Int) = n.length := by show ((n.toArray.size : Nat) : Int) = _; simp
    rw [hsz]
    refine ifB_dec (fun _ => by omega) fun c2 => ?_
    refine dotted_ok h fun w4 h4 => tyI (k := .bool) ?_
    refine ifB_intro (fun c => absurd (of_decide_eq_true c) hn.2.2) fun c3 => ?_
    refine dead_ok h4 (tyI (k := .bool) ?_)
    exact ifB_intro (fun c => absurd c (by rw [hd]; simp)) fun _ => h4
end
end Go.Proofs.YtnjadekngjgjcaaGreatDoor
