/- Layer 8: the reference's log in memory; lists of batches are compared. -/
import Derived.Test.YtbpcichakchpkaaGreatDoorSW
namespace Go.Proofs.YtbpcichakchpkaaGreatDoor
open Go Go.Pk
structure Rl where
  list : List Bd
  bases : List Int
  sync : Int
namespace Rl
def start (r : Rl) : Int := match r.bases with | b :: _ => b | [] => 0
def fin (r : Rl) : Int := match r.list.getLast? with | some b => b.fin | none => r.start
def bytes (r : Rl) (n : Int) : Int := ((fsOf (r.list.filter fun x => decide (n ≤ x.ba))).length : Nat)
def read (r : Rl) (n k : Int) : List Bd := (behind n r.list).take k.toNat
noncomputable def put (r : Rl) (b : Bd) : Rl × Int :=
  if b.chk ≠ 0 then (r, b.chk) else if b.ba ≠ r.fin then (r, 13) else match r.bases.getLast? with
  | none => ({ r with list := r.list ++ [b], bases := [0] }, 0)
  | some n => if r.bytes n ≥ 512 then (⟨r.list ++ [b], r.bases ++ [b.ba], r.fin⟩, 0) else ({ r with list := r.list ++ [b] }, 0)
end Rl
theorem et_isl2 : ET P T_sl_int T_int 1 8 := et_isl
abbrev rlcells (r : Rl) (ls bs : Sl) : List Value := [ls.v, bs.v, .int .i64 r.sync]
abbrev RlL (a : Nat) (r : Rl) (ls bs : Sl) (ds : List Dc) (l : List Res) : List Res := Blk a (rlcells r ls bs) T_penstockref08_Log :: OwnS elB ls ds :: IsR bs r.bases :: l
def RlR (a : Nat) (r : Rl) : Res := Ex fun x : Sl × Sl × List Dc => All [Pure (x.2.2.map Dc.bd = r.list), Blk a (rlcells r x.1 x.2.1) T_penstockref08_Log, OwnS elB x.1 x.2.2, IsR x.2.1 r.bases]
section
variable {W w : World} {l : List Res} {K : Value → World → Prop} {a : Nat} {r : Rl} {ls bs : Sl} {ds : List Dc}
theorem sat_rl : Sat W w (RlR a r :: l) ↔ ∃ ls bs ds, ds.map Dc.bd = r.list ∧ Sat W w (RlL a r ls bs ds l) := by
  unfold RlR
  rw [sat_ex]
  constructor
  · rintro ⟨⟨ls, bs, ds⟩, h⟩
    obtain ⟨h1, h2⟩ := sat_pure.1 (sat_all.1 h)
    exact ⟨ls, bs, ds, h1, h2⟩
  · rintro ⟨ls, bs, ds, h1, h2⟩
    exact ⟨(ls, bs, ds), sat_all.2 (sat_pure.2 ⟨h1, h2⟩)⟩
/-- batches whose numbers fit -/
def RlB (r : Rl) : Prop := ∀ x ∈ r.list, x.fin < 9223372036854775808 ∧ 0 ≤ x.ba
/-- one of several batches is read -/
theorem own_at {S : World → Prop} {s : Sl} {ds : List Dc} {j : Nat} {d : Dc} (hj : ds[j]? = some d) (hw : S w) (hS : ∀ w, S w → ∃ L, Sat W w (OwnS elB s ds :: L)) {K : Value → Prop} (hK : K (.agg d.cells.toArray)) :
    HRun S .addr P (Instr.indexAt T_sl_api_Batch s.v (.int .i64 (j : Int))) fun a => HRun S .val P (Instr.loadAt T_api_Batch (.pointer (some a))) K := by
  obtain ⟨L, h⟩ := hS w hw
  have hol := own_len h (by decide : 0 < 9)
  have hlt := (List.getElem?_eq_some_iff.1 hj).1
  refine hixEl et_batches (E := elB) rfl (fun w hw => by obtain ⟨L, h⟩ := hS w hw; exact (sat_own.1 h).rdc) hw (by omega) (x := d) (by rw [show ((j : Int)).toNat = j by omega]; exact hj) (by omega) fun a1 ha1 => ?_
  exact hldAggC (cs := elB.cells d) ha1 hK
theorem own_atR {s : Sl} {ds : List Dc} {j : Nat} {d : Dc} (hj : ds[j]? = some d) (h : Sat W w (OwnS elB s ds :: l)) {K : Value → Prop} (hK : K (.agg d.cells.toArray)) :
    RunQ .addr P (Instr.indexAt T_sl_api_Batch s.v (.int .i64 (j : Int))) w fun a => RunQ .val P (Instr.loadAt T_api_Batch (.pointer (some a))) w K := by
  have hol := own_len h (by decide : 0 < 9)
  have hlt := (List.getElem?_eq_some_iff.1 hj).1
  refine ixA et_batches (sat_own.1 h).rdc (by omega) (by omega) fun a1 ha1 => ?_
  refine ldAggC (cs := d.cells) ?_ hK
  intro k u hu
  refine ha1 k _ (by
    have := (List.getElem?_eq_some_iff.1 hu).1
    have e : d.cells.length = 9 := rfl
    omega) ?_
  exact flat_at (E := elB) (j := k) hj hu
theorem rstart_ok (h : Sat W w (RlL a r ls bs ds l)) (hK : K (.int .i64 r.start) w) : CallP P F_ref08_Log_Start [.pointer (some ⟨a, 0, none⟩)] w K := by
  apply c_ref08_Log_Start
  unfold S_ref08_Log_Start
  have hl := Sat.isLen (h.up 2)
  refine ldX h 1 (x := bs) ?_
  refine ifB_beq (fun c => ?_) fun c => ?_
  · have hn : r.bases = [] := List.length_eq_zero_iff.1 (by omega)
    have e : r.start = 0 := by unfold Rl.start; rw [hn]
    rw [e] at hK
    exact hK
  · refine ldX h 1 (x := bs) ?_
    obtain ⟨v, t, hv⟩ : ∃ v t, r.bases = v :: t := by cases hh : r.bases with | nil => rw [hh] at hl; simp at hl; omega | cons v t => exact ⟨v, t, rfl⟩
    have e : r.start = v := by unfold Rl.start; rw [hv]
    rw [e] at hK
    exact is_at (i := 0) (v := v) et_isl (by rw [hv]; rfl) (h.up 2) hK (by kernel_rfl)
theorem rfin_ok (hds : ds.map Dc.bd = r.list) (h : Sat W w (RlL a r ls bs ds l)) (hb : RlB r) (hK : ∀ w', Sat W w' (RlL a r ls bs ds l) → K (.int .i64 r.fin) w') : CallP P F_ref08_Log_End [.pointer (some ⟨a, 0, none⟩)] w K := by
  apply c_ref08_Log_End
  unfold S_ref08_Log_End
  have hol := own_len (h.up 1) (by decide : 0 < 9)
  refine ldX h 0 (x := ls) ?_
  refine ifB_beq (fun c => ?_) fun c => ?_
  · have hn : ds = [] := List.length_eq_zero_iff.1 (by omega)
    have e : r.fin = r.start := by unfold Rl.fin; rw [← hds, hn]; rfl
    rw [e] at hK
    exact rstart_ok h (tyI (k := .int .i64) (hK w h))
  · have hlt : ds.length - 1 < ds.length := by omega
    have hx : ds[ds.length - 1]? = some ds[ds.length - 1] := List.getElem?_eq_getElem hlt
    have hlast : ds.getLast? = some ds[ds.length - 1] := by rw [List.getLast?_eq_getElem?]; exact hx
    generalize ds[ds.length - 1] = d at hx hlast
    have hbl : r.list.getLast? = some d.bd := by rw [← hds, List.getLast?_map, hlast]; rfl
    have hf : r.fin = d.bd.fin := by unfold Rl.fin; rw [hbl]
    have hdm := hb d.bd (by rw [← hds]; exact List.mem_map.2 ⟨d, List.mem_of_getElem? hx, rfl⟩)
    have h4 := h.drew
    let S : World → Prop := fun w => ∃ L, Sat W w (RlL a r ls bs ds L)
    have hS : ∀ w, S w → ∃ L, Sat W w (Blk a (rlcells r ls bs) T_penstockref08_Log :: L) := fun w hw => by obtain ⟨L, hw⟩ := hw; exact ⟨_, hw⟩
    refine ⟨S, ⟨_, h4⟩, ?_⟩
    refine hldX hS 0 (x := ls) ?_
    refine hldX hS 0 (x := ls) ?_
    rw [w_i64 (n := (ls.len : Int) - 1) (by omega) (by omega)]
    have ei : (ls.len : Int) - 1 = ((ds.length - 1 : Nat) : Int) := by omega
    rw [ei]
    refine own_at (W := W) (w := w.drew) hx ⟨_, h4⟩ (fun w hw => by obtain ⟨L, hw⟩ := hw; exact ⟨_, hw.up 1⟩) ?_
    refine allocB h4 (z := .agg zeroDc.cells.toArray) (by kernel_rfl) fun a12 w13 h5 => ?_
    have h5 : Sat W w13 (Blk a12 zeroDc.cells T_api_Batch :: RlL a r ls bs ds l) := h5
    refine ⟨⟨_, h5.tail⟩, ?_⟩
    refine stAggB (cs' := d.cells) h5 rfl d.ones (by kernel_rfl) fun w14 h6 => ?_
    have h6 : Sat W w14 (Blk a12 d.cells T_api_Batch :: RlL a r ls bs ds l) := h6
    refine ⟨⟨_, h6.tail⟩, ?_⟩
    have h7 := h6.drew
    let S2 : World → Prop := fun w => ∃ L, Sat W w (Blk a12 d.cells T_api_Batch :: L)
    refine ⟨S2, ⟨_, h7⟩, ?_⟩
    refine hldX (S := S2) (fun w hw => hw) 0 (x := d.ba) ?_
    refine hldAggB (S := S2) (cs := d.cells) (fun w hw => hw) (by kernel_rfl) ?_
    have h8 : Sat W w14.drew (OwnS elB ls ds :: Blk a12 d.cells T_api_Batch :: Blk a (rlcells r ls bs) T_penstockref08_Log :: IsR bs r.bases :: l) := h7.sel 3 [2, 0, 1]
    obtain ⟨hv, hnum⟩ := bt_rd hx h8
    refine rsize_ok (d := d) h8 hv fun w19 h9 => tyI (k := .int .i64) ⟨⟨_, h9.up 1⟩, ?_⟩
    have e1 : d.ba + (if d.ct then 1 else (d.bs.length : Int)) = d.bd.fin := rfl
    have hsz : 0 ≤ d.bd.size := by unfold Bd.size; split <;> omega
    have e2 : d.bd.fin = d.ba + d.bd.size := rfl
    have e3 : d.bd.ba = d.ba := rfl
    rw [e1, w_i64 (by omega) (by omega), ← hf]
    exact hK w19 (h9.sel 4 [2, 0, 3])
theorem bytes_step (ds : List Dc) (n : Int) {j : Nat} {d : Dc} (hj : ds[j]? = some d) :
    fsOf (((ds.take (j + 1)).map Dc.bd).filter fun x => decide (n ≤ x.ba)) = fsOf (((ds.take j).map Dc.bd).filter fun x => decide (n ≤ x.ba)) ++ if n ≤ d.ba then frm (encB d) else [] := by
  rw [take_next hj, List.map_append, List.filter_append, fsOf_app]
  congr 1
  by_cases c : n ≤ d.ba
  · rw [if_pos c]
    have : List.filter (fun x => decide (n ≤ x.ba)) (List.map Dc.bd [d]) = [d.bd] := by
      show List.filter _ [d.bd] = _
      rw [List.filter_cons_of_pos (p := fun x : Bd => decide (n ≤ x.ba)) (show decide (n ≤ d.bd.ba) = true from decide_eq_true c)]; rfl
    rw [this, fsOf_one]; rfl
  · rw [if_neg c]
    have : List.filter (fun x => decide (n ≤ x.ba)) (List.map Dc.bd [d]) = [] := by
      show List.filter _ [d.bd] = _
      rw [List.filter_cons_of_neg (p := fun x : Bd => decide (n ≤ x.ba)) (show ¬ decide (n ≤ d.bd.ba) = true from fun h => c (of_decide_eq_true h))]; rfl
    rw [this]; rfl
theorem fsOf_le (bs : List Bd) (h : ∀ x ∈ bs, x.ok) : (fsOf bs).length ≤ 2008 * bs.length := by
  induction bs with
  | nil => simp [fsOf]
  | cons x bs ih =>
    have e : fsOf (x :: bs) = frm x.enc ++ fsOf bs := by simp [fsOf]
    have h1 := enc_small (h x (by simp))
    have h2 := ih fun y hy => h y (by simp [hy])
    rw [e, List.length_append, frm_len, List.length_cons]; omega
theorem rbytes_ok {n : Int} (hds : ds.map Dc.bd = r.list) (h : Sat W w (RlL a r ls bs ds l)) (hc : ∀ x ∈ r.list, x.chk = 0) (hlen : r.list.length ≤ 1073741824) (hK : ∀ w', Sat W w' (RlL a r ls bs ds l) → K (.int .i64 (r.bytes n)) w') :
    CallP P F_ref08_Log_bytes [.pointer (some ⟨a, 0, none⟩), .int .i64 n] w K := by
  apply c_ref08_Log_bytes
  unfold S_ref08_Log_bytes
  have hol := own_len (h.up 1) (by decide : 0 < 9)
  have hdl : ds.length = r.list.length := by rw [← hds]; simp
  let F : Nat → List UInt8 := fun j => fsOf (((ds.take j).map Dc.bd).filter fun x => decide (n ≤ x.ba))
  refine ⟨fun t w' => ∃ j : Nat, t.2.1 = j ∧ j ≤ ds.length ∧ t.1 = (F j).length ∧ (F j).length ≤ 2008 * j ∧ Sat W w' (RlL a r ls bs ds l), fun t _ => ds.length - t.2.1.toNat, ⟨0, rfl, Nat.zero_le _, rfl, Nat.zero_le _, h⟩, ?_⟩
  rintro ⟨t1, tj, u⟩ w2 ⟨j, hj, hjl, ht1, hFl, h1⟩
  simp only at hj ht1 ⊢
  subst hj; subst ht1
  refine ldX h1 0 (x := ls) ?_
  refine ifB_dec (fun hlt => ?_) fun hge => ?_
  · have hlt' : j < ds.length := by omega
    have hd : ds[j]? = some ds[j] := List.getElem?_eq_getElem hlt'
    generalize ds[j] = d at hd
    have hst : F (j + 1) = F j ++ if n ≤ d.ba then frm (encB d) else [] := bytes_step ds n hd
    refine ldX h1 0 (x := ls) ?_
    refine ixA et_batches (sat_own.1 (h1.up 1)).rdc (by omega) (by omega) fun a1 ha1 => ?_
    refine ldC (k := .int .i64) (x := d.ba) (by
      have := ha1 0 _ (by decide) (by
        rw [show ((j : Int)).toNat = j by omega]
        exact flat_at (E := elB) (j := 0) hd rfl)
      exact this) ?_
    rw [w_i64 (n := (j : Int) + 1) (by omega) (by omega)]
    refine ifB_dec (fun c => ?_) fun c => ?_
    · rw [if_pos (by omega)] at hst
      refine ldX h1 0 (x := ls) ?_
      refine own_atR hd (h1.up 1) ?_
      have h2 : Sat W w2 (OwnS elB ls ds :: Blk a (rlcells r ls bs) T_penstockref08_Log :: IsR bs r.bases :: l) := h1.swap
      obtain ⟨hv, hnum⟩ := bt_rd hd h2
      have hck : chk d = 0 := hc d.bd (by rw [← hds]; exact List.mem_map.2 ⟨d, List.mem_of_getElem? hd, rfl⟩)
      have hel := encB_len hnum hck
      refine rencode_ok h2 hnum hv (fun hne => absurd hck hne) fun _ s w14 h3 => tup2 ?_
      refine rframe_ok (p := encB d) h3 Rd.own (by omega) fun s2 w17 h4 => tup2 ?_
      have hl2 := Sat.bsLen h4
      have hfl : (frm (encB d)).length ≤ 2008 := by rw [frm_len]; omega
      show _ ∧ _
      have e5 : IntKind.i64.wrap (((F j).length : Int) + ((s2.len : Nat) : Int)) = ((F j).length : Int) + ((s2.len : Nat) : Int) := w_i64 (by omega) (by omega)
      simp only [e5]
      refine ⟨⟨j + 1, by show (j : Int) + 1 = _; omega, by omega, ?_, ?_, h4.sel 4 [3, 2]⟩, by show ds.length - ((j : Int) + 1).toNat < ds.length - (j : Int).toNat; omega⟩
      · rw [hst, List.length_append]; show ((F j).length : Int) + ((s2.len : Nat) : Int) = _; omega
      · rw [hst, List.length_append]; omega
    · rw [if_neg (by omega), List.append_nil] at hst
      refine ⟨⟨j + 1, by show (j : Int) + 1 = _; omega, by omega, by rw [hst], by rw [hst]; omega, h1⟩, by show ds.length - ((j : Int) + 1).toNat < ds.length - (j : Int).toNat; omega⟩
  · have e : F j = fsOf (r.list.filter fun x => decide (n ≤ x.ba)) := by
      show fsOf (((ds.take j).map Dc.bd).filter _) = _
      rw [List.take_of_length_le (by omega), hds]
    have := hK w2 h1
    unfold Rl.bytes at this
    rw [← e] at this
    exact this
end
end Go.Proofs.YtbpcichakchpkaaGreatDoor
