/- Texts of mine, put together: SJ, SK, SL, SM, SN, SO. -/
import Derived.Test.YtnjadekngjgjcaaGreatDoorE6
import Derived.Test.YtnjadekngjgjcaaGreatDoorE5
import Derived.Test.YtnjadekngjgjcaaGreatDoorPkO
import Derived.Test.YtnjadekngjgjcaaGreatDoorFSc
import Derived.Lib.ItoaLen
/- Layer 8: a log of batches in memory. -/
namespace Go.Proofs.YtnjadekngjgjcaaGreatDoor
open Go Go.Pk
/-- a batch -/
structure Bd where
  ba : Int
  ep : Int
  pid : Int
  pe : Int
  sq : Int
  tx : Bool
  ct : Bool
  cm : Bool
  bs : List (List UInt8)
def Dc.bd (d : Dc) : Bd := ⟨d.ba, d.ep, d.pid, d.pe, d.sq, d.tx, d.ct, d.cm, d.bs⟩
def Bd.dc (b : Bd) : Dc := ⟨b.ba, b.ep, b.pid, b.pe, b.sq, b.tx, b.ct, b.cm, ⟨none, 0, 0⟩, [], b.bs⟩
def Bd.size (b : Bd) : Int := if b.ct then 1 else b.bs.length
def Bd.fin (b : Bd) : Int := b.ba + b.size
noncomputable def Bd.chk (b : Bd) : Int := Go.Proofs.YtnjadekngjgjcaaGreatDoor.chk b.dc
def Bd.enc (b : Bd) : List UInt8 := encB b.dc
theorem chk_bd (d : Dc) : d.bd.chk = chk d := rfl
/-- a segment -/
structure Sg where
  base : Int
  name : List UInt8
  bytes : Int
  bt : List Bd
  ends : List Int
structure Lg where
  name : List UInt8
  segs : List Sg
  sync : Int
def Sg.fin (s : Sg) : Int := match s.bt.getLast? with | some b => b.fin | none => s.base
def Lg.start (l : Lg) : Int := match l.segs with | s :: _ => s.base | [] => 0
def Lg.fin (l : Lg) : Int := match l.segs.getLast? with | some s => s.fin | none => 0
/-- a batch whose values are one's own -/
def elB : El Dc := ⟨T_api_Batch, 9, Dc.cells, fun d => All [Pure (d.ss.length = d.bs.length ∧ d.num), VsR d.vs d.ss d.bs], fun _ => rfl, Dc.ones⟩
theorem et_batches : ET P T_sl_api_Batch T_api_Batch 9 72 := ET.of (by kernel_rfl)
theorem et_segs : ET P T_sl_p_seglog_segment T_p_seglog_segment 1 8 := ET.of (by kernel_rfl)
/-- batches of one's own -/
def BtR (s : Sl) (bs : List Bd) : Res := Ex fun ds : List Dc => All [Pure (ds.map Dc.bd = bs), OwnS elB s ds]
def scells (g : Sg) (bs es : Sl) : List Value := [.int .i64 g.base, vStr g.name, .int .i64 g.bytes, bs.v, es.v]
def SgR (p : Nat) (g : Sg) : Res := Ex fun x : Sl × Sl => All [Blk p (scells g x.1 x.2) T_seglog_segment, BtR x.1 g.bt, IsR x.2 g.ends]
def elS : El (Nat × Sg) := ⟨T_p_seglog_segment, 1, fun p => [.pointer (some ⟨p.1, 0, none⟩)], fun p => SgR p.1 p.2, fun _ => rfl, fun _ u hu => by
  simp only [List.mem_cons, List.not_mem_nil, or_false] at hu
  subst hu; rfl⟩
structure LgP where
  fr : Nat
  sl : Sl
  cs : List (Nat × Sg)
def lcells (b : Nat) (g : Lg) (p : LgP) : List Value := [.pointer (some ⟨b, 0, none⟩), vStr g.name, .pointer (some ⟨p.fr, 0, none⟩), p.sl.v, .int .i64 g.sync]
/-- a log on the disk at b -/
def LgR (a b : Nat) (g : Lg) : Res := Ex fun p : LgP => All [Pure (p.cs.map Prod.snd = g.segs), Blk a (lcells b g p) T_seglog_Log, FrR p.fr, OwnS elS p.sl p.cs]
abbrev LgL (a b : Nat) (g : Lg) (p : LgP) (l : List Res) : List Res := Blk a (lcells b g p) T_seglog_Log :: FrR p.fr :: OwnS elS p.sl p.cs :: l
section
variable {W w : World} {l : List Res} {K : Value → World → Prop} {a b : Nat} {g : Lg}
theorem sat_lg : Sat W w (LgR a b g :: l) ↔ ∃ p, p.cs.map Prod.snd = g.segs ∧ Sat W w (LgL a b g p l) := by
  unfold LgR
  rw [sat_ex]
  constructor
  · rintro ⟨p, h⟩
    obtain ⟨h1, h2⟩ := sat_pure.1 (sat_all.1 h)
    exact ⟨p, h1, h2⟩
  · rintro ⟨p, h1, h2⟩
    exact ⟨p, sat_all.2 (sat_pure.2 ⟨h1, h2⟩)⟩
theorem sat_sg {p : Nat} {s : Sg} : Sat W w (SgR p s :: l) ↔ ∃ bs es, Sat W w (Blk p (scells s bs es) T_seglog_segment :: BtR bs s.bt :: IsR es s.ends :: l) := by
  unfold SgR
  rw [sat_ex]
  constructor
  · rintro ⟨⟨bs, es⟩, h⟩; exact ⟨bs, es, sat_all.1 h⟩
  · rintro ⟨bs, es, h⟩; exact ⟨(bs, es), sat_all.2 h⟩
theorem sat_bt {s : Sl} {bs : List Bd} : Sat W w (BtR s bs :: l) ↔ ∃ ds : List Dc, ds.map Dc.bd = bs ∧ Sat W w (OwnS elB s ds :: l) := by
  unfold BtR
  rw [sat_ex]
  constructor
  · rintro ⟨ds, h⟩
    obtain ⟨h1, h2⟩ := sat_pure.1 (sat_all.1 h)
    exact ⟨ds, h1, h2⟩
  · rintro ⟨ds, h1, h2⟩
    exact ⟨ds, sat_all.2 (sat_pure.2 ⟨h1, h2⟩)⟩
theorem Sat.btLen {s : Sl} {bs : List Bd} (h : Sat W w (BtR s bs :: l)) : s.len = bs.length ∧ s.len < 2 ^ 63 := by
  obtain ⟨ds, rfl, h1⟩ := sat_bt.1 h
  have := own_len h1 (by decide : 0 < 9)
  simp; omega
/-- a batch among others, how it reads -/
theorem bt_rd {s : Sl} {ds : List Dc} {i : Nat} {d : Dc} (hi : ds[i]? = some d) (h : Sat W w (OwnS elB s ds :: l)) : VRd W (OwnS elB s ds :: l) d ∧ d.num := by
  have h1 := own_open hi h
  have h2 : Sat W w (All [Pure (d.ss.length = d.bs.length ∧ d.num), VsR d.vs d.ss d.bs] :: _) := h1
  have h3 := (sat_pure.1 (sat_all.1 h2)).1
  have key : ∀ w', Sat W w' (OwnS elB s ds :: l) → ∃ l', Sat W w' (VsR d.vs d.ss d.bs :: l') := fun w' h' => by
    have g1 := own_open hi h'
    have g2 : Sat W w' (All [Pure (d.ss.length = d.bs.length ∧ d.num), VsR d.vs d.ss d.bs] :: _) := g1
    exact ⟨_, (sat_pure.1 (sat_all.1 g2)).2⟩
  refine ⟨⟨fun w' h' => ?_, h3.1, fun j sj bj e1 e2 w' h' => ?_⟩, h3.2⟩
  · obtain ⟨l', g⟩ := key w' h'
    exact Rd.vsHead w' g
  · obtain ⟨l', g⟩ := key w' h'
    exact Rd.vsOne e1 e2 w' g
/-- the offset behind a segment's last batch -/
theorem segEnd_ok {p : Nat} {s : Sg} (h : Sat W w (SgR p s :: l)) (hb : ∀ x ∈ s.bt, x.fin < 9223372036854775808 ∧ 0 ≤ x.ba) (hK : ∀ w', Sat W w' (SgR p s :: l) → K (.int .i64 s.fin) w') : CallP P F_seglog_segment_end [.pointer (some ⟨p, 0, none⟩)] w K := by
  apply c_seglog_segment_end
  unfold S_seglog_segment_end
  obtain ⟨bs, es, h1⟩ := sat_sg.1 h
  obtain ⟨ds, hds, h2⟩ := sat_bt.1 (h1.up 1)
  have hol := own_len h2 (by decide : 0 < 9)
  have h3 : Sat W w (Blk p (scells s bs es) T_seglog_segment :: OwnS elB bs ds :: IsR es s.ends :: l) := h2.swap
  refine ldX h3 3 (x := bs) ?_
  refine ifB_dec (fun c => ?_) fun c => ?_
  · have hlt : ds.length - 1 < ds.length := by omega
    have hx : ds[ds.length - 1]? = some ds[ds.length - 1] := List.getElem?_eq_getElem hlt
    have hlast : ds.getLast? = some ds[ds.length - 1] := by rw [List.getLast?_eq_getElem?]; exact hx
    generalize ds[ds.length - 1] = d at hx hlast
    have hbl : s.bt.getLast? = some d.bd := by rw [← hds, List.getLast?_map, hlast]; rfl
    have hf : s.fin = d.bd.fin := by unfold Sg.fin; rw [hbl]
    have hdm := hb d.bd (by rw [← hds]; exact List.mem_map.2 ⟨d, List.mem_of_getElem? hx, rfl⟩)
    have h4 := h3.drew
    let S : World → Prop := fun w => Sat W w (Blk p (scells s bs es) T_seglog_segment :: OwnS elB bs ds :: IsR es s.ends :: l)
    have hS1 : ∀ w, S w → ∃ L, Sat W w (Blk p (scells s bs es) T_seglog_segment :: L) := fun w hw => ⟨_, hw⟩
    have hS2 : ∀ w, S w → RdC w bs 9 (elB.flat ds) := fun w hw => (sat_own.1 (Sat.up hw 1)).rdc
    refine ⟨S, h4, ?_⟩
    refine hldX hS1 3 (x := bs) ?_
    rw [w_i64 (n := (bs.len : Int) - 1) (by omega) (by omega)]
    have ei : ((bs.len : Int) - 1).toNat = ds.length - 1 := by omega
    refine hixEl et_batches (E := elB) rfl hS2 h4 (by omega) (x := d) (by rw [ei]; exact hx) (by omega) fun a1 ha1 => ?_
    refine ⟨d.ba, fun w hw => run_load1 (by kernel_rfl) (ha1 w hw 0 _ rfl), ?_⟩
    refine hldX hS1 3 (x := bs) ?_
    refine hixEl et_batches (E := elB) rfl hS2 h4 (by omega) (x := d) (by rw [ei]; exact hx) (by omega) fun a2 ha2 => ?_
    refine hldAggC (cs := elB.cells d) ha2 ?_
    have hv := (bt_rd hx (h4.up 1)).1
    refine size_ok (d := d) (h4.up 1) hv fun w12 h5 => tyI (k := .int .i64) ?_
    have h6 : Sat W w12 (Blk p (scells s bs es) T_seglog_segment :: OwnS elB bs ds :: IsR es s.ends :: l) := h5.swap
    refine ⟨h6, ?_⟩
    have e1 : d.ba + (if d.ct then 1 else (d.bs.length : Int)) = d.bd.fin := rfl
    have hsz : 0 ≤ d.bd.size := by unfold Bd.size; split <;> omega
    have e2 : d.bd.fin = d.ba + d.bd.size := rfl
    have e3 : d.bd.ba = d.ba := rfl
    rw [e1, w_i64 (by omega) (by omega), ← hf]
    exact hK w12 (sat_sg.2 ⟨bs, es, (sat_bt.2 ⟨ds, hds, h5⟩).swap⟩)
  · have hn : ds = [] := List.length_eq_zero_iff.1 (by omega)
    refine ldX h3 0 (x := s.base) ?_
    have hf : s.fin = s.base := by unfold Sg.fin; rw [← hds, hn]; rfl
    rw [hf] at hK
    exact hK w h
end
end Go.Proofs.YtnjadekngjgjcaaGreatDoor

/- Layer 8: small calls of a log. -/
namespace Go.Proofs.YtnjadekngjgjcaaGreatDoor
open Go Go.Pk
/-- batches whose offsets fit -/
def SgB (s : Sg) : Prop := ∀ x ∈ s.bt, x.fin < 9223372036854775808 ∧ 0 ≤ x.ba
def LgB (g : Lg) : Prop := ∀ s ∈ g.segs, SgB s
section
variable {W w : World} {l : List Res} {K : Value → World → Prop} {a b : Nat} {g : Lg}
/-- the pointer to a segment is read -/
theorem sg_ptr {s : Sl} {cs : List (Nat × Sg)} {i : Int} {x : Nat × Sg} (h0 : 0 ≤ i) (hi : cs[i.toNat]? = some x) (h : Sat W w (OwnS elS s cs :: l)) {K : Option Addr → Prop} (hK : K (some ⟨x.1, 0, none⟩)) :
    RunQ .addr P (Instr.indexAt T_sl_p_seglog_segment s.v (.int .i64 i)) w fun a => RunQ .ptr P (Instr.loadAt T_p_seglog_segment (.pointer (some a))) w K := by
  have hol := own_len h (by decide : 0 < 1)
  have hlt := (List.getElem?_eq_some_iff.1 hi).1
  refine ixA et_segs (sat_own.1 h).rdc h0 (by omega) fun a ha => ldC (k := .ptr) (x := some ⟨x.1, 0, none⟩) ?_ hK
  exact ha 0 _ (by decide) (flat_at (E := elS) (j := 0) hi rfl)
theorem hsg_ptr {S : World → Prop} {s : Sl} {cs : List (Nat × Sg)} {i : Int} {x : Nat × Sg} (h0 : 0 ≤ i) (hi : cs[i.toNat]? = some x) (hw : S w) (hS : ∀ w, S w → ∃ L, Sat W w (OwnS elS s cs :: L)) {K : Option Addr → Prop} (hK : K (some ⟨x.1, 0, none⟩)) :
    HRun S .addr P (Instr.indexAt T_sl_p_seglog_segment s.v (.int .i64 i)) fun a => HRun S .ptr P (Instr.loadAt T_p_seglog_segment (.pointer (some a))) K := by
  obtain ⟨L, h⟩ := hS w hw
  have hol := own_len h (by decide : 0 < 1)
  have hlt := (List.getElem?_eq_some_iff.1 hi).1
  refine hixEl et_segs (E := elS) rfl (fun w hw => by obtain ⟨L, h⟩ := hS w hw; exact (sat_own.1 h).rdc) hw h0 (x := x) hi (by omega) fun a ha => ?_
  exact ⟨some ⟨x.1, 0, none⟩, fun w hw => run_load1 (by kernel_rfl) (by have := ha w hw 0 _ rfl; exact this), hK⟩
theorem last_at {cs : List (Nat × Sg)} (h : 0 < cs.length) : ∃ x, cs[cs.length - 1]? = some x ∧ (cs.map Prod.snd).getLast? = some x.2 := by
  have hlt : cs.length - 1 < cs.length := by omega
  refine ⟨cs[cs.length - 1], List.getElem?_eq_getElem hlt, ?_⟩
  rw [List.getLast?_map, List.getLast?_eq_getElem?, List.getElem?_eq_getElem hlt]; rfl
theorem start_ok (h : Sat W w (LgR a b g :: l)) (hK : K (.int .i64 g.start) w) : CallP P F_seglog_Log_Start [.pointer (some ⟨a, 0, none⟩)] w K := by
  apply c_seglog_Log_Start
  unfold S_seglog_Log_Start
  obtain ⟨p, hp, h1⟩ := sat_lg.1 h
  have hol := own_len (h1.up 2) (by decide : 0 < 1)
  refine ⟨fun _ w' => w' = w ∧ 0 < p.cs.length, ?_, ?_⟩
  · rintro _ _ ⟨rfl, hc⟩
    refine ldX h1 3 (x := p.sl) ?_
    obtain ⟨x, cs, hcs⟩ : ∃ x cs, p.cs = x :: cs := by cases hh : p.cs with | nil => rw [hh] at hc; simp at hc | cons x cs => exact ⟨x, cs, rfl⟩
    refine sg_ptr (i := 0) (x := x) (Int.le_refl _) (by rw [hcs]; rfl) (h1.up 2) ?_
    have h2 := own_open (i := 0) (x := x) (by rw [hcs]; rfl) (h1.up 2)
    obtain ⟨bs, es, h3⟩ := sat_sg.1 (show Sat W _ (SgR x.1 x.2 :: _) from h2)
    refine ldX h3 0 (x := x.2.base) ?_
    have e : g.start = x.2.base := by unfold Lg.start; rw [← hp, hcs]; rfl
    rw [e] at hK
    exact hK
  · refine ifB_intro (fun c => absurd c (by simp)) fun _ => ?_
    refine ldX h1 3 (x := p.sl) ?_
    refine ifB_beq (fun c => ?_) fun c => ?_
    · have hn : p.cs = [] := List.length_eq_zero_iff.1 (by omega)
      have e : g.start = 0 := by unfold Lg.start; rw [← hp, hn]; rfl
      rw [e] at hK
      exact hK
    · exact ⟨rfl, by omega⟩
theorem fin_ok (h : Sat W w (LgR a b g :: l)) (hb : LgB g) (hK : ∀ w', Sat W w' (LgR a b g :: l) → K (.int .i64 g.fin) w') : CallP P F_seglog_Log_End [.pointer (some ⟨a, 0, none⟩)] w K := by
  apply c_seglog_Log_End
  unfold S_seglog_Log_End
  obtain ⟨p, hp, h1⟩ := sat_lg.1 h
  have hol := own_len (h1.up 2) (by decide : 0 < 1)
  refine ⟨fun _ w' => w' = w ∧ 0 < p.cs.length, ?_, ?_⟩
  · rintro _ _ ⟨rfl, hc⟩
    obtain ⟨x, hx, hlast⟩ := last_at hc
    have h2 := h1.drew
    let S : World → Prop := fun w => Sat W w (LgL a b g p l)
    have hS1 : ∀ w, S w → ∃ L, Sat W w (Blk a (lcells b g p) T_seglog_Log :: L) := fun w hw => ⟨_, hw⟩
    have ei : ((p.sl.len : Int) - 1).toNat = p.cs.length - 1 := by omega
    refine ⟨S, h2, ?_⟩
    refine hldX hS1 3 (x := p.sl) ?_
    refine hldX hS1 3 (x := p.sl) ?_
    rw [w_i64 (n := (p.sl.len : Int) - 1) (by omega) (by omega)]
    refine hsg_ptr (x := x) (by omega) (by rw [ei]; exact hx) h2 (fun w hw => ⟨_, Sat.up (L := LgL a b g p l) hw 2⟩) ?_
    have h3 := own_open hx (h2.up 2)
    have hm : x.2 ∈ g.segs := by rw [← hp]; exact List.mem_map.2 ⟨x, List.mem_of_getElem? hx, rfl⟩
    refine segEnd_ok (p := x.1) (s := x.2) h3 (hb x.2 hm) fun w13 h4 => tyI (k := .int .i64) ?_
    have h5 := own_back (E := elS) (y := x) hx rfl h4
    have hset : p.cs.set (p.cs.length - 1) x = p.cs := by
      obtain ⟨hlt, hxx⟩ := List.getElem?_eq_some_iff.1 hx
      rw [← hxx, List.set_getElem_self]
    rw [hset] at h5
    have h6 : Sat W w13 (LgL a b g p l) := h5.sel 3 [1, 2, 0]
    refine ⟨h6, ?_⟩
    have e : g.fin = x.2.fin := by unfold Lg.fin; rw [← hp, hlast]
    rw [e] at hK
    exact hK w13 (sat_lg.2 ⟨p, hp, h6⟩)
  · refine ifB_intro (fun c => absurd c (by simp)) fun _ => ?_
    refine ldX h1 3 (x := p.sl) ?_
    refine ifB_beq (fun c => ?_) fun c => ?_
    · have hn : p.cs = [] := List.length_eq_zero_iff.1 (by omega)
      have e : g.fin = 0 := by unfold Lg.fin; rw [← hp, hn]; rfl
      rw [e] at hK
      exact hK w h
    · exact ⟨rfl, by omega⟩
theorem synced_ok (h : Sat W w (LgR a b g :: l)) (hK : K (.int .i64 g.sync) w) : CallP P F_seglog_Log_Synced [.pointer (some ⟨a, 0, none⟩)] w K := by
  apply c_seglog_Log_Synced
  unfold S_seglog_Log_Synced
  obtain ⟨p, hp, h1⟩ := sat_lg.1 h
  refine ifB_intro (fun c => absurd c (by simp)) fun _ => ?_
  exact ldX h1 4 (x := g.sync) hK
/-- all of a log lasts: what the disk says, and what the log then has -/
def Lg.flush (g : Lg) (d : Dk) : Lg × Dk × Int := match g.segs.getLast? with
  | none => (g, d, 0)
  | some s => if (d.sync s.name).2 = 0 then ({ g with sync := g.fin }, (d.sync s.name).1, 0) else (g, (d.sync s.name).1, (d.sync s.name).2)
theorem flush_ok {d : Dk} (h : Sat W w (LgR a b g :: DkR b d :: l)) (hb : LgB g) (hK : ∀ w', Sat W w' (LgR a b (g.flush d).1 :: DkR b (g.flush d).2.1 :: l) → K (.int .i64 (g.flush d).2.2) w') : CallP P F_seglog_Log_Flush [.pointer (some ⟨a, 0, none⟩)] w K := by
  apply c_seglog_Log_Flush
  unfold S_seglog_Log_Flush
  obtain ⟨p, hp, h1⟩ := sat_lg.1 h
  have hol := own_len (h1.up 2) (by decide : 0 < 1)
  refine ifB_intro (fun c => absurd c (by simp)) fun _ => ?_
  refine ldX h1 3 (x := p.sl) ?_
  refine ifB_beq (fun c => ?_) fun c => ?_
  · have hn : p.cs = [] := List.length_eq_zero_iff.1 (by omega)
    have e : g.flush d = (g, d, 0) := by unfold Lg.flush; rw [← hp, hn]; rfl
    rw [e] at hK
    exact hK w h
  · obtain ⟨x, hx, hlast⟩ := last_at (cs := p.cs) (by omega)
    have h2 := h1.drew
    have hset : p.cs.set (p.cs.length - 1) x = p.cs := by
      obtain ⟨hlt, hxx⟩ := List.getElem?_eq_some_iff.1 hx
      rw [← hxx, List.set_getElem_self]
    have ei : ((p.sl.len : Int) - 1).toNat = p.cs.length - 1 := by omega
    have h3 := own_open hx (h2.up 2)
    obtain ⟨bs, es, h4⟩ := sat_sg.1 (show Sat W _ (SgR x.1 x.2 :: _) from h3)
    let R : List Res := [Blk x.1 (scells x.2 bs es) T_seglog_segment, BtR bs x.2.bt, IsR es x.2.ends, SlR elS.T elS.sz p.sl (elS.flat p.cs), All ((p.cs.map elS.own).eraseIdx (p.cs.length - 1)), Blk a (lcells b g p) T_seglog_Log, FrR p.fr]
    have h5 : Sat W w.drew (R ++ (DkR b d :: l)) := h4
    let S : World → Prop := fun w => ∃ L, Sat W w (R ++ L)
    refine ⟨S, ⟨_, h5⟩, ?_⟩
    have hS1 : ∀ w, S w → ∃ L, Sat W w (Blk a (lcells b g p) T_seglog_Log :: L) := fun w hw => by obtain ⟨L, hw⟩ := hw; exact ⟨_, Sat.up (L := R ++ L) hw 5⟩
    have hS2 : ∀ w, S w → ∃ L, Sat W w (Blk x.1 (scells x.2 bs es) T_seglog_segment :: L) := fun w hw => by obtain ⟨L, hw⟩ := hw; exact ⟨_, hw⟩
    have hS3 : ∀ w, S w → RdC w p.sl 1 (elS.flat p.cs) := fun w hw => by obtain ⟨L, hw⟩ := hw; exact (Sat.up (L := R ++ L) hw 3).rdc
    refine hldX hS1 0 (x := some ⟨b, 0, none⟩) ?_
    refine hldX hS1 3 (x := p.sl) ?_
    refine hldX hS1 3 (x := p.sl) ?_
    rw [w_i64 (n := (p.sl.len : Int) - 1) (by omega) (by omega)]
    refine hixEl et_segs (E := elS) rfl hS3 ⟨_, h5⟩ (by omega) (x := x) (by rw [ei]; exact hx) (by omega) fun a1 ha1 => ?_
    refine ⟨some ⟨x.1, 0, none⟩, fun w hw => run_load1 (by kernel_rfl) (by have := ha1 w hw 0 _ rfl; exact this), ?_⟩
    refine hldX hS2 1 (x := vK x.2.name) ?_
    have h6 : Sat W w.drew (DkR b d :: R ++ l) := Sat.sel (L := R ++ (DkR b d :: l)) h5 8 [7, 0, 1, 2, 3, 4, 5, 6]
    refine dsync_ok (n := x.2.name) h6 fun w14 h7 => tyI (k := .int .i64) ?_
    have h8 : Sat W w14 (R ++ (DkR b (d.sync x.2.name).1 :: l)) := Sat.sel (L := DkR b (d.sync x.2.name).1 :: R ++ l) h7 8 [1, 2, 3, 4, 5, 6, 7, 0]
    refine ⟨⟨_, h8⟩, ?_⟩
    have h9 : Sat W w14 (SgR x.1 x.2 :: SlR elS.T elS.sz p.sl (elS.flat p.cs) :: All ((p.cs.map elS.own).eraseIdx (p.cs.length - 1)) :: Blk a (lcells b g p) T_seglog_Log :: FrR p.fr :: DkR b (d.sync x.2.name).1 :: l) := sat_sg.2 ⟨bs, es, h8⟩
    have h10 := own_back (E := elS) (y := x) hx rfl h9
    rw [hset] at h10
    have h11 : Sat W w14 (LgL a b g p (DkR b (d.sync x.2.name).1 :: l)) := h10.sel 3 [1, 2, 0]
    have ef : g.flush d = if (d.sync x.2.name).2 = 0 then ({ g with sync := g.fin }, (d.sync x.2.name).1, 0) else (g, (d.sync x.2.name).1, (d.sync x.2.name).2) := by
      unfold Lg.flush; rw [← hp, hlast]
    refine ifB_beq (fun c2 => ?_) fun c2 => ?_
    · rw [if_pos c2] at ef
      rw [ef] at hK
      refine fin_ok (sat_lg.2 ⟨p, hp, h11⟩) hb fun w17 h12 => tyI (k := .int .i64) ?_
      obtain ⟨p2, hp2, h13⟩ := sat_lg.1 h12
      refine stX h13 4 (v := .int .i64 g.fin) (hi := (by show 4 < 5; decide)) fun w20 h14 => ?_
      have := hK w20 (sat_lg.2 ⟨p2, hp2, h14⟩)
      rw [c2]; exact this
    · rw [if_neg c2] at ef
      rw [ef] at hK
      exact hK w14 (sat_lg.2 ⟨p, hp, h11⟩)
end
end Go.Proofs.YtnjadekngjgjcaaGreatDoor

/- Layer 8: names of files; batches of one's own; a segment grows. -/
namespace Go.Pk
open Go
theorem strAdd {P : Program} {w : World} {t : TypeId} {x y : ByteArray} {o1 o2 : Operand} {K : ByteArray → World → Prop} (hs : x.size + y.size ≤ 9223372036854775807) (hK : K (x ++ y) w) :
    RunK .str P (do eqGuard .add t o1 o2 (.string x) (.string y); binOp .add t (.string x) (.string y)) w K := by
  refine ⟨_, w, ?_, hK⟩
  simp [eqGuard, binOp, Op.stringOp, Sem.run, Kd.v]
  omega
end Go.Pk
namespace Go.Proofs.YtnjadekngjgjcaaGreatDoor
open Go Go.Pk
theorem vK_app (x y : List UInt8) : vK x ++ vK y = vK (x ++ y) := by
  apply ByteArray.ext
  simp [vK]
theorem strAddK {w : World} {t : TypeId} {x y : List UInt8} {o1 o2 : Operand} {K : ByteArray → World → Prop} (hs : x.length + y.length ≤ 1000000) (hK : K (vK (x ++ y)) w) :
    RunK .str P (do eqGuard .add t o1 o2 (.string (vK x)) (.string (vK y)); binOp .add t (.string (vK x)) (.string (vK y))) w K := by
  refine strAdd ?_ (by rw [vK_app]; exact hK)
  show x.toArray.size + y.toArray.size ≤ _
  simp only [List.size_toArray]; omega
def Lg.file (g : Lg) (base : Int) : List UInt8 := g.name ++ [46] ++ Lib.repeatL [48] (8 - (Lib.itoa base).length) ++ Lib.itoa base
section
variable {W w : World} {l : List Res} {K : Value → World → Prop} {a b : Nat} {g : Lg}
theorem file_ok {n : Int} (h : Sat W w (LgR a b g :: l)) (hl : Lai W l) (h0 : -9223372036854775808 ≤ n ∧ n < 9223372036854775808) (hi : (Lib.itoa n).length ≤ 1000) (hn : g.name.length ≤ 1000) (hK : ∀ w', Sat W w' (LgR a b g :: l) → K (.string (vK (g.file n))) w') :
    CallP P F_seglog_Log_file [.pointer (some ⟨a, 0, none⟩), .int .i64 n] w K := by
  apply c_seglog_Log_file
  unfold S_seglog_Log_file
  refine itoa_ok h hl.cons h0.1 (by omega) fun w1 h1 => tyI (k := .str) ?_
  obtain ⟨p, hp, h2⟩ := sat_lg.1 h1.drew
  refine ⟨fun w => ∃ L, Sat W w (Blk a (lcells b g p) T_seglog_Log :: L), ⟨_, h2⟩, ?_⟩
  refine hldX (fun w hw => hw) 1 (x := vK g.name) ?_
  have e46 : (ByteArray.mk #[46]) = vK [46] := rfl
  have esz : ((ByteArray.size ⟨(Lib.itoa n).toArray⟩ : Nat) : Int) = (Lib.itoa n).length := by show (((Lib.itoa n).toArray.size : Nat) : Int) = _; simp
  have ec : (if 0 > IntKind.i64.wrap (8 - ((ByteArray.size ⟨(Lib.itoa n).toArray⟩ : Nat) : Int)) then 0 else IntKind.i64.wrap (8 - ((ByteArray.size ⟨(Lib.itoa n).toArray⟩ : Nat) : Int))) = ((8 - (Lib.itoa n).length : Nat) : Int) := by
    rw [esz, w_i64 (by omega) (by omega)]; split <;> omega
  have fin : g.file n = g.name ++ [46] ++ Lib.repeatL [48] (8 - (Lib.itoa n).length) ++ Lib.itoa n := rfl
  have hrl : (Lib.repeatL [48] (8 - (Lib.itoa n).length)).length ≤ 8 := by rw [Lib.repeatL_length]; simp
  have fl : ∀ {w' : World}, Sat W w' (LgL a b g p l) → K (.string (vK (g.name ++ [46] ++ Lib.repeatL [48] (8 - (Lib.itoa n).length) ++ Lib.itoa n))) w' := fun h => hK _ (sat_lg.2 ⟨p, hp, h⟩)
  have l1 : (g.name ++ [46]).length = g.name.length + 1 := by simp
  have l2 : (g.name ++ [46] ++ Lib.repeatL [48] (8 - (Lib.itoa n).length)).length ≤ 1100 := by rw [List.length_append, l1]; omega
  refine ⟨?_, ?_, trivial⟩
  · refine strAddK (x := g.name) (y := [46]) (by simp; omega) ⟨⟨_, h2⟩, ?_⟩
    rw [ec]
    refine repeat_ok (a := [48]) h2 (by omega) (by decide) fun w9 h3 => tyI (k := .str) ⟨⟨_, h3⟩, ?_⟩
    refine strAddK (x := g.name ++ [46]) (y := Lib.repeatL [48] (8 - (Lib.itoa n).length)) (by omega) ⟨⟨_, h3⟩, ?_⟩
    exact strAddK (x := g.name ++ [46] ++ Lib.repeatL [48] (8 - (Lib.itoa n).length)) (y := Lib.itoa n) (by omega) ⟨⟨_, h3⟩, fl h3⟩
  · rw [ec]
    refine repeat_ok (a := [48]) h2 (by omega) (by decide) fun w9 h3 => tyI (k := .str) ⟨⟨_, h3⟩, ?_⟩
    refine strAddK (x := g.name) (y := [46]) (by simp; omega) ⟨⟨_, h3⟩, ?_⟩
    refine strAddK (x := g.name ++ [46]) (y := Lib.repeatL [48] (8 - (Lib.itoa n).length)) (by omega) ⟨⟨_, h3⟩, ?_⟩
    exact strAddK (x := g.name ++ [46] ++ Lib.repeatL [48] (8 - (Lib.itoa n).length)) (y := Lib.itoa n) (by omega) ⟨⟨_, h3⟩, fl h3⟩
/-- slices that aren't yet -/
theorem mkSls {n : Nat} (h : Sat W w l) (h1 : n < 1099511627776) {K : Sl → World → Prop} (hK : ∀ s w', Sat W w' (SlR T_sl_uint8 1 s (List.replicate n (Sl.v ⟨none, 0, 0⟩)) :: l) → K s w') :
    RunK .sl P (Instr.makeSlice T_sl_sl_uint8 (.int .i64 (n : Int)) (.int .i64 (n : Int))) w K := by
  obtain ⟨ht, i, z, hi, hz, hsz, hzs, hby, _⟩ := et_vs
  have hz' : z = Sl.v ⟨none, 0, 0⟩ := by
    have e : (P.info? T_sl_uint8).map (·.zero) = some (some (Sl.v ⟨none, 0, 0⟩)) := by kernel_rfl
    rw [hi] at e
    simp only [Option.map_some, Option.some.injEq] at e
    rw [hz] at e
    exact Option.some.inj e
  subst hz'
  have hrun := run_make (P := P) w T_sl_sl_uint8 T_sl_uint8 i (Sl.v ⟨none, 0, 0⟩) ht hi hz .i64 .i64 n n (by omega) (Int.le_refl _) (by rw [hby]; omega) (by omega)
  refine ⟨⟨some ⟨w.heap.size, 0, none⟩, (n : Int).toNat, (n : Int).toNat⟩, _, hrun, hK _ _ ?_⟩
  have hc : (madeCells (Sl.v ⟨none, 0, 0⟩).cells ((n : Int).toNat * i.size)) = (List.replicate n (Sl.v ⟨none, 0, 0⟩)).toArray := by
    rw [hsz, Nat.mul_one]
    apply Array.toList_inj.1
    unfold madeCells
    apply List.ext_getElem
    · simp
    · intro k h1 h2
      simp [Value.cells, Nat.mod_one, Sl.v]
  rw [hc]
  refine (h.newBlk (List.replicate n (Sl.v ⟨none, 0, 0⟩)) T_sl_uint8).mkSlr rfl (Nat.le_refl _) (by show (n : Int).toNat < 2 ^ 63; omega) (by simp) ?_ ?_
  · simp
  · intro u hu
    rw [List.eq_of_mem_replicate hu]; rfl
theorem sown_ok {d : Dc} (h : Sat W w l) (hv : VRd W l d) (hb : d.bs.length < 1099511627776) (hb2 : ∀ x ∈ d.bs, x.length ≤ 140737488355328)
    (hK : ∀ vs ss w', ss.length = d.bs.length → Sat W w' (VsR vs ss d.bs :: l) → K (.agg (Dc.cells { d with vs := vs, ss := ss }).toArray) w') : CallP P F_seglog_own [.agg d.cells.toArray] w K := by
  apply c_seglog_own
  unfold S_seglog_own
  have hvl := hv.len h
  refine boxB h fun a0 w1 h1 => ?_
  have h1 : Sat W w1 (Blk a0 d.cells T_api_Batch :: l) := h1
  refine allocB h1 (z := .agg zeroDc.cells.toArray) (by kernel_rfl) fun a2 w3 h2 => ?_
  have h2 : Sat W w3 (Blk a2 zeroDc.cells T_api_Batch :: Blk a0 d.cells T_api_Batch :: l) := h2
  refine ldX (h2.up 1) 8 (x := d.vs) ?_
  rw [hvl.1]
  refine mkSls h2 hb fun s5 w6 h3 => ?_
  refine ldX (h3.up 2) 8 (x := d.vs) ?_
  rw [hvl.1]
  have hv3 : ∀ {R1 R2 R3 R4 : Res}, VRd W (R1 :: R2 :: R3 :: R4 :: l) d := fun {R1 R2 R3 R4} => hv.cons.cons.cons.cons
  refine ⟨fun t w' => ∃ (j : Nat) (ss : List Sl), t.1 = j ∧ j ≤ d.bs.length ∧ ss.length = j ∧ Sat W w' (SlR T_sl_uint8 1 s5 (ss.map Sl.v ++ List.replicate (d.bs.length - j) (Sl.v ⟨none, 0, 0⟩)) :: All (vals ss (d.bs.take j)) :: Blk a2 zeroDc.cells T_api_Batch :: Blk a0 d.cells T_api_Batch :: l), fun t _ => d.bs.length - t.1.toNat, ⟨0, [], rfl, Nat.zero_le _, rfl, ?_⟩, ?_⟩
  · have : Sat W w6 (All [] :: _) := sat_alln.2 h3
    exact this.swap
  rintro ⟨j', u⟩ w10 ⟨j, ss, hj, hjl, hss, h4⟩
  simp only at hj ⊢
  subst hj
  have hsl5 := h4.slLen.1
  simp only [List.length_append, List.length_map, List.length_replicate, hss, Nat.mul_one] at hsl5
  refine ifB_dec (fun hlt => ?_) fun hge => ?_
  · have hj2 : j < d.bs.length := by omega
    refine hv3.ld h4 hj2 fun s hs1 hs2 hr => ?_
    have hm := hb2 _ (List.getElem_mem hj2)
    refine cpBytes0 h4 (hr w10 h4) hm fun s13 w14 h5 => ?_
    have h6 : Sat W w14 (SlR T_sl_uint8 1 s5 (ss.map Sl.v ++ List.replicate (d.bs.length - j) (Sl.v ⟨none, 0, 0⟩)) :: BsR s13 d.bs[j] :: All (vals ss (d.bs.take j)) :: Blk a2 zeroDc.cells T_api_Batch :: Blk a0 d.cells T_api_Batch :: l) := h5.swap
    refine ixst et_vs h6 (by omega) (by omega) fun w16 h7 => ?_
    have e1 : (ss.map Sl.v ++ List.replicate (d.bs.length - j) (Sl.v ⟨none, 0, 0⟩)).set (j : Int).toNat s13.v = (ss ++ [s13]).map Sl.v ++ List.replicate (d.bs.length - (j + 1)) (Sl.v ⟨none, 0, 0⟩) := by
      have e2 : (j : Int).toNat = j := by omega
      rw [e2, List.set_append, if_neg (by simp [hss]), List.length_map, hss, Nat.sub_self]
      have e3 : d.bs.length - j = (d.bs.length - (j + 1)) + 1 := by omega
      rw [e3, List.replicate_succ, List.set_cons_zero, List.map_append, List.append_assoc]
      rfl
    rw [e1] at h7
    rw [w_i64 (n := (j : Int) + 1) (by omega) (by omega)]
    refine ⟨⟨j + 1, ss ++ [s13], by omega, by omega, by simp [hss], ?_⟩, by omega⟩
    have h7' : Sat W w16 (BsR s13 d.bs[j] :: All (vals ss (d.bs.take j)) :: SlR T_sl_uint8 1 s5 ((ss ++ [s13]).map Sl.v ++ List.replicate (d.bs.length - (j + 1)) (Sl.v ⟨none, 0, 0⟩)) :: Blk a2 zeroDc.cells T_api_Batch :: Blk a0 d.cells T_api_Batch :: l) := h7.sel 5 [1, 2, 0, 3, 4]
    have h8 := vals_snoc (by simp [hss]; omega) h7'
    have e4 : d.bs.take j ++ [d.bs[j]] = d.bs.take (j + 1) := by rw [List.take_add_one, List.getElem?_eq_getElem hj2]; rfl
    rw [e4] at h8
    exact h8.swap
  · have hje : j = d.bs.length := by omega
    subst hje
    rw [Nat.sub_self, List.replicate_zero, List.append_nil, List.take_of_length_le (Nat.le_refl _)] at h4
    refine stX (h4.up 3) 8 (v := s5.v) (hi := (by show 8 < 9; decide)) fun w17 h5 => ?_
    let d' : Dc := { d with vs := s5, ss := ss }
    have h5 : Sat W w17 (Blk a0 d'.cells T_api_Batch :: SlR T_sl_uint8 1 s5 (ss.map Sl.v) :: All (vals ss d.bs) :: Blk a2 zeroDc.cells T_api_Batch :: l) := h5
    refine ldAggX 0 9 h5 ?_ (by show 0 + 9 ≤ 9; decide)
    refine stAggB (cs' := d'.cells) (h5.up 3) rfl d'.ones (by kernel_rfl) fun w19 h6 => ?_
    refine ldAggB h6 (by kernel_rfl) ?_
    refine hK s5 ss w19 hss ?_
    exact sat_vs.2 (h6.sel 4 [2, 3])
end
end Go.Proofs.YtnjadekngjgjcaaGreatDoor

/- Layer 8: a batch is laid behind a segment's others. -/
namespace Go.Proofs.YtnjadekngjgjcaaGreatDoor
open Go Go.Pk
def Sg.add (s : Sg) (b : Bd) (n : Int) : Sg := ⟨s.base, s.name, s.bytes + n, s.bt ++ [b], s.ends ++ [s.bytes + n]⟩
section
variable {W w : World} {l : List Res} {K : Value → World → Prop} {a b : Nat} {g : Lg}
theorem et_isl : ET P T_sl_int T_int 1 8 := ET.of (by kernel_rfl)
theorem add_ok {p : Nat} {s : Sg} {d : Dc} {n : Int} (h : Sat W w (elB.own d :: SgR p s :: l)) (hb : s.bt.length ≤ 1073741824) (he : s.ends.length ≤ 1073741824) (hs : 0 ≤ s.bytes ∧ s.bytes ≤ 1099511627776) (hn : 0 ≤ n ∧ n ≤ 1099511627776)
    (hK : ∀ w', Sat W w' (SgR p (s.add d.bd n) :: l) → K (.tuple #[]) w') : CallP P F_seglog_segment_add [.pointer (some ⟨p, 0, none⟩), .agg d.cells.toArray, .int .i64 n] w K := by
  apply c_seglog_segment_add
  unfold S_seglog_segment_add
  obtain ⟨bs, es, h1⟩ := sat_sg.1 h.swap
  obtain ⟨ds, hds, h2⟩ := sat_bt.1 (h1.up 1)
  have hdl : ds.length = s.bt.length := by rw [← hds]; simp
  have h3 : Sat W w (Blk p (scells s bs es) T_seglog_segment :: OwnS elB bs ds :: IsR es s.ends :: elB.own d :: l) := h2.swap
  refine boxB h3 fun a0 w1 h4 => ?_
  have h4 : Sat W w1 (Blk a0 d.cells T_api_Batch :: Blk p (scells s bs es) T_seglog_segment :: OwnS elB bs ds :: IsR es s.ends :: elB.own d :: l) := h4
  refine ldX (h4.up 1) 2 (x := s.bytes) ?_
  rw [w_i64 (n := s.bytes + n) (by omega) (by omega)]
  refine stX (h4.up 1) 2 (v := .int .i64 (s.bytes + n)) (hi := (by show 2 < 5; decide)) fun w5 h5 => ?_
  let s1 : Sg := { s with bytes := s.bytes + n }
  have h5 : Sat W w5 (Blk p (scells s1 bs es) T_seglog_segment :: Blk a0 d.cells T_api_Batch :: OwnS elB bs ds :: IsR es s.ends :: elB.own d :: l) := h5
  refine ⟨fun _ w' => ∃ bs', Sat W w' (Blk p (scells s1 bs' es) T_seglog_segment :: OwnS elB bs' (ds ++ [d]) :: IsR es s.ends :: l), ?_, ?_⟩
  · rintro _ w8 ⟨bs', h6⟩
    have h7 := h6.drew
    let S : World → Prop := fun w => ∃ L, Sat W w (Blk p (scells s1 bs' es) T_seglog_segment :: L)
    have S4 : ∀ w, (∃ es' L, Sat W w (Blk p (scells s1 bs' es') T_seglog_segment :: L)) → ∃ a L, Sat W w (Blk p (scells s1 bs' a) T_seglog_segment :: L) := fun w h => h
    refine ⟨fun w => ∃ es' L, Sat W w (Blk p (scells s1 bs' es') T_seglog_segment :: L), ⟨_, _, h7⟩, ?_⟩
    refine ⟨s1.bytes, fun w hw => ?_, ?_⟩
    · obtain ⟨es', L, hw⟩ := hw
      exact run_load1 (by kernel_rfl) (hw.cell 2)
    have fin : ∀ {s33 : Sl} {w36 : World}, Sat W w36 (Blk p (scells s1 bs' s33) T_seglog_segment :: IsR s33 (s.ends ++ [s.bytes + n]) :: OwnS elB bs' (ds ++ [d]) :: l) → K (.tuple #[]) w36 := fun {s33 w36} h => by
      refine hK w36 (sat_sg.2 ⟨bs', s33, ?_⟩)
      have e : s.bt ++ [d.bd] = (ds ++ [d]).map Dc.bd := by rw [List.map_append, hds]; rfl
      have := sat_bt.2 ⟨ds ++ [d], e.symm, h.up 2⟩
      exact this.sel 3 [1, 0, 2]
    have hil := Sat.isLen (h7.up 2)
    refine ⟨?_, ?_, trivial⟩
    · refine ldX h7 4 (x := es) ⟨⟨_, _, h7⟩, ?_⟩
      refine bsB h7 (cs := [.int .i64 s1.bytes]) (e := T_int) (fun w => by kernel_rfl) fun gb w10 h8 => ⟨⟨_, _, h8.up 1⟩, ?_⟩
      refine appB et_isl (by decide) (s := es) (x := ⟨some ⟨gb, 0, none⟩, 1, 1⟩) (news := [.int .i64 s1.bytes]) (h8.up 3) (rdBlk (h8.up 3 |>.up 1) rfl) (by simp [Value.oneCell']) (by simp; omega) (by simp; omega) fun s33 w34 h9 _ => ?_
      have h10 : Sat W w34 (Blk p (scells s1 bs' es) T_seglog_segment :: IsR s33 (s.ends ++ [s.bytes + n]) :: OwnS elB bs' (ds ++ [d]) :: l) := by
        have e : s.ends.map vI ++ [Value.int .i64 s1.bytes] = (s.ends ++ [s.bytes + n]).map vI := by rw [List.map_append]; rfl
        rw [e] at h9
        exact h9.sel 4 [2, 0, 3]
      refine ⟨⟨_, _, h10⟩, ?_⟩
      refine stX h10 4 (v := s33.v) (hi := (by show 4 < 5; decide)) fun w36 h11 => ⟨⟨s33, _, h11⟩, fin h11⟩
    · refine bsB h7 (cs := [.int .i64 s1.bytes]) (e := T_int) (fun w => by kernel_rfl) fun gb w10 h8 => ⟨⟨_, _, h8.up 1⟩, ?_⟩
      refine ldX (h8.up 1) 4 (x := es) ⟨⟨_, _, h8.up 1⟩, ?_⟩
      refine appB et_isl (by decide) (s := es) (x := ⟨some ⟨gb, 0, none⟩, 1, 1⟩) (news := [.int .i64 s1.bytes]) (h8.up 3) (rdBlk (h8.up 3 |>.up 1) rfl) (by simp [Value.oneCell']) (by simp; omega) (by simp; omega) fun s33 w34 h9 _ => ?_
      have h10 : Sat W w34 (Blk p (scells s1 bs' es) T_seglog_segment :: IsR s33 (s.ends ++ [s.bytes + n]) :: OwnS elB bs' (ds ++ [d]) :: l) := by
        have e : s.ends.map vI ++ [Value.int .i64 s1.bytes] = (s.ends ++ [s.bytes + n]).map vI := by rw [List.map_append]; rfl
        rw [e] at h9
        exact h9.sel 4 [2, 0, 3]
      refine ⟨⟨_, _, h10⟩, ?_⟩
      refine stX h10 4 (v := s33.v) (hi := (by show 4 < 5; decide)) fun w36 h11 => ⟨⟨s33, _, h11⟩, fin h11⟩
  · have h6 := h5.drew
    refine ⟨fun w => ∃ L, Sat W w (Blk a0 d.cells T_api_Batch :: L), ⟨_, h6.up 1⟩, ?_⟩
    refine hldAggB (cs := d.cells) (fun w h => h) (by kernel_rfl) ?_
    have lay : ∀ {gb : Nat} {w14 : World}, Sat W w14 (Blk gb d.cells T_api_Batch :: Blk p (scells s1 bs es) T_seglog_segment :: Blk a0 d.cells T_api_Batch :: OwnS elB bs ds :: IsR es s.ends :: elB.own d :: l) →
        RunK .sl P (Builtin.append_ #[T_sl_api_Batch, T_sl_api_Batch] T_sl_api_Batch #[bs.v, Sl.v ⟨some ⟨gb, 0, none⟩, 1, 1⟩]) w14 fun (s15 : Sl) w16 =>
                ((fun w => ∃ L, Sat W w (Blk a0 d.cells T_api_Batch :: L)) w16) ∧ StoreP P T_sl_api_Batch (.pointer (some ((⟨p, 0, none⟩ : Addr).add 3))) s15.v w16 fun w18 =>
                ((fun w => ∃ L, Sat W w (Blk a0 d.cells T_api_Batch :: L)) w18) ∧ ∃ bs', Sat W w18 (Blk p (scells s1 bs' es) T_seglog_segment :: OwnS elB bs' (ds ++ [d]) :: IsR es s.ends :: l) := by
      intro gb w14 h7
      have h8 : Sat W w14 (Blk gb (elB.cells d) T_api_Batch :: elB.own d :: OwnS elB bs ds :: Blk p (scells s1 bs es) T_seglog_segment :: Blk a0 d.cells T_api_Batch :: IsR es s.ends :: l) := h7.sel 6 [0, 5, 3, 1, 2, 4]
      refine own_push (E := elB) et_batches rfl rfl (by decide) h8 (by omega) (by omega) fun s15 w16 h9 => ⟨⟨_, h9.up 2⟩, ?_⟩
      have h10 : Sat W w16 (Blk p (scells s1 bs es) T_seglog_segment :: OwnS elB s15 (ds ++ [d]) :: Blk a0 d.cells T_api_Batch :: IsR es s.ends :: l) := h9.sel 3 [1, 0, 2]
      refine stX h10 3 (v := s15.v) (hi := (by show 3 < 5; decide)) fun w18 h11 => ?_
      have h11 : Sat W w18 (Blk p (scells s1 s15 es) T_seglog_segment :: OwnS elB s15 (ds ++ [d]) :: Blk a0 d.cells T_api_Batch :: IsR es s.ends :: l) := h11
      exact ⟨⟨_, h11.up 2⟩, s15, h11.cut 2⟩
    refine ⟨?_, ?_, trivial⟩
    · refine ldX h6 3 (x := bs) ⟨⟨_, h6.up 1⟩, ?_⟩
      refine bsB h6 (cs := d.cells) (e := T_api_Batch) (fun w => by kernel_rfl) fun gb w10 h7 => ⟨⟨_, h7.up 2⟩, ?_⟩
      exact lay h7
    · refine bsB h6 (cs := d.cells) (e := T_api_Batch) (fun w => by kernel_rfl) fun gb w10 h7 => ⟨⟨_, h7.up 2⟩, ?_⟩
      refine ldX (h7.up 1) 3 (x := bs) ⟨⟨_, h7.up 2⟩, ?_⟩
      exact lay h7
end
end Go.Proofs.YtnjadekngjgjcaaGreatDoor

/- Layer 8: a new segment is begun. -/
namespace Go.Proofs.YtnjadekngjgjcaaGreatDoor
open Go Go.Pk
/-- a new segment -/
def Lg.grow (g : Lg) (d : Dk) : Lg × Dk × Int :=
  if (d.append (g.file g.fin) []).2 = 0 then ({ g with segs := g.segs ++ [⟨g.fin, g.file g.fin, 0, [], []⟩] }, (d.append (g.file g.fin) []).1, 0) else (g, (d.append (g.file g.fin) []).1, (d.append (g.file g.fin) []).2)
def Lg.roll (g : Lg) (d : Dk) : Lg × Dk × Int := match g.segs.getLast? with
  | none => g.grow d
  | some s => if s.bytes < 512 then (g, d, 0) else if (g.flush d).2.2 = 0 then (g.flush d).1.grow (g.flush d).2.1 else g.flush d
theorem Lg.flush_name (g : Lg) (d : Dk) : (g.flush d).1.name = g.name := by
  unfold Lg.flush
  split
  · rfl
  · split <;> rfl
theorem Lg.flush_segs (g : Lg) (d : Dk) : (g.flush d).1.segs = g.segs := by
  unfold Lg.flush
  split
  · rfl
  · split <;> rfl
theorem Lg.flush_fin (g : Lg) (d : Dk) : (g.flush d).1.fin = g.fin := by unfold Lg.fin; rw [Lg.flush_segs]
section
variable {W w : World} {l : List Res} {K : Value → World → Prop} {a b : Nat} {g : Lg}
theorem grow_ok {d : Dk} (h : Sat W w (LgR a b g :: DkR b d :: l)) (hl : Lai W l) (hb : LgB g) (hf : -9223372036854775808 ≤ g.fin ∧ g.fin < 9223372036854775808) (hn : g.name.length ≤ 8) (hs : g.segs.length ≤ 1073741824)
    (hK : ∀ w', Sat W w' (LgR a b (g.grow d).1 :: DkR b (g.grow d).2.1 :: l) → K (.int .i64 (g.grow d).2.2) w') :
    CallP P F_seglog_Log_End [(.pointer (some ⟨a, 0, none⟩))] w fun (v14 : Value) w15 =>
  TyP (.int .i64) v14 fun (n16 : Int) =>
   RunK .addr P (Instr.box T_seglog_segment (.agg #[(.int .i64 n16), (.string (ByteArray.mk #[])), (.int .i64 0), (.slice none 0 0), (.slice none 0 0)])) w15 fun (a17 : Addr) w18 =>
    RunQ (.int .i64) P (Instr.loadAt T_int (.pointer (some (Go.Addr.add a17 0)))) w18 fun (n19 : Int) =>
     CallP P F_seglog_Log_file [(.pointer (some ⟨a, 0, none⟩)), (.int .i64 n19)] w18 fun (v20 : Value) w21 =>
      TyP .str v20 fun (t22 : ByteArray) =>
       StoreP P T_string (.pointer (some (Go.Addr.add a17 1))) (.string t22) w21 fun w23 =>
        ∃ S24 : World → Prop, (S24 w23.drew) ∧
          nilCk (some ⟨a, 0, none⟩) fun (a25 : Addr) =>
           HRun S24 .ptr P (Instr.loadAt T_p_disk_Disk (.pointer (some (a25.add 0)))) fun (p26 : Option Addr) =>
            HRun S24 .str P (Instr.loadAt T_string (.pointer (some (Go.Addr.add a17 1)))) fun (t27 : ByteArray) =>
             CallP P F_disk_Disk_Append [(.pointer p26), (.string t27), (.slice none 0 0)] w23.drew fun (v28 : Value) w29 =>
              TyP (.int .i64) v28 fun (n30 : Int) =>
               (S24 w29) ∧
                ifB (n30 != 0)
                (K (.int .i64 n30) w29)
                (nilCk (some ⟨a, 0, none⟩) fun (a31 : Addr) =>
                RunQ .sl P (Instr.loadAt T_sl_p_seglog_segment (.pointer (some (a31.add 3)))) w29 fun (s32 : Sl) =>
                RunK .sl P (Instr.buildSlice T_sl_p_seglog_segment 1 #[(0, (.pointer (some a17)))]) w29 fun (s33 : Sl) w34 =>
                RunK .sl P (Builtin.append_ #[T_sl_p_seglog_segment, T_sl_p_seglog_segment] T_sl_p_seglog_segment #[s32.v, s33.v]) w34 fun (s35 : Sl) w36 =>
                nilCk (some ⟨a, 0, none⟩) fun (a37 : Addr) =>
                StoreP P T_sl_p_seglog_segment (.pointer (some (a37.add 3))) s35.v w36 fun w38 =>
                K (.int .i64 0) w38) := by
  refine fin_ok h hb fun w15 h1 => tyI (k := .int .i64) ?_
  refine boxB h1 fun x w18 h2 => ?_
  let s0 : Sg := ⟨g.fin, [], 0, [], []⟩
  have h2 : Sat W w18 (Blk x (scells s0 ⟨none, 0, 0⟩ ⟨none, 0, 0⟩) T_seglog_segment :: LgR a b g :: DkR b d :: l) := h2
  refine ldX h2 0 (x := g.fin) ?_
  refine file_ok (g := g) (n := g.fin) h2.swap hl.cons.cons hf (by have := Lib.itoa_length_le g.fin hf.1 (by omega); omega) (by omega) fun w21 h3 => tyI (k := .str) ?_
  refine stX h3.swap 1 (v := .string (vK (g.file g.fin))) (hi := (by show 1 < 5; decide)) fun w23 h4 => ?_
  let s1 : Sg := ⟨g.fin, g.file g.fin, 0, [], []⟩
  have h4 : Sat W w23.drew (Blk x (scells s1 ⟨none, 0, 0⟩ ⟨none, 0, 0⟩) T_seglog_segment :: LgR a b g :: DkR b d :: l) := Sat.drew h4
  obtain ⟨p, hp, h5⟩ := sat_lg.1 h4.swap
  have h6 : Sat W w23.drew (DkR b d :: Blk x (scells s1 ⟨none, 0, 0⟩ ⟨none, 0, 0⟩) T_seglog_segment :: LgL a b g p l) := h5.sel 5 [4, 3, 0, 1, 2]
  let S : World → Prop := fun w => ∃ d', Sat W w (DkR b d' :: Blk x (scells s1 ⟨none, 0, 0⟩ ⟨none, 0, 0⟩) T_seglog_segment :: LgL a b g p l)
  refine ⟨S, ⟨_, h6⟩, ?_⟩
  refine hldX (fun w hw => by obtain ⟨d', hw⟩ := hw; exact ⟨_, hw.up 2⟩) 0 (x := some ⟨b, 0, none⟩) ?_
  refine hldX (b := x) (cs := scells s1 ⟨none, 0, 0⟩ ⟨none, 0, 0⟩) (fun w hw => by obtain ⟨d', hw⟩ := hw; exact ⟨_, hw.up 1⟩) 1 (x := vK (g.file g.fin)) ?_
  refine dappend_ok (n := g.file g.fin) (bs := []) (x := ⟨none, 0, 0⟩) h6 (Rd.nil rfl) (by decide) fun w29 h7 => tyI (k := .int .i64) ⟨⟨_, h7⟩, ?_⟩
  have fl : Sat W w29 (LgR a b g :: DkR b (d.append (g.file g.fin) []).1 :: Blk x (scells s1 ⟨none, 0, 0⟩ ⟨none, 0, 0⟩) T_seglog_segment :: l) := sat_lg.2 ⟨p, hp, h7.sel 5 [2, 3, 4, 0, 1]⟩
  unfold Lg.grow at hK
  refine ifB_bne (fun c => ?_) fun c => ?_
  · rw [if_neg c] at hK
    exact hK w29 (fl.cut 2)
  · rw [if_pos c] at hK
    have h8 : Sat W w29 (Blk a (lcells b g p) T_seglog_Log :: FrR p.fr :: OwnS elS p.sl p.cs :: Blk x (scells s1 ⟨none, 0, 0⟩ ⟨none, 0, 0⟩) T_seglog_segment :: DkR b (d.append (g.file g.fin) []).1 :: l) := h7.sel 5 [2, 3, 4, 1, 0]
    have hol := own_len (h8.up 2) (by decide : 0 < 1)
    have hcl : p.cs.length = g.segs.length := by rw [← hp]; simp
    refine ldX h8 3 (x := p.sl) ?_
    refine bsB h8 (cs := [.pointer (some ⟨x, 0, none⟩)]) (e := T_p_seglog_segment) (fun w => by kernel_rfl) fun gb w34 h9 => ?_
    have h10 : Sat W w34 (BtR ⟨none, 0, 0⟩ [] :: _) := sat_bt.2 ⟨[], rfl, own_nil (E := elB) h9⟩
    have h11 : Sat W w34 (IsR ⟨none, 0, 0⟩ [] :: _) := Sat.nilSlr h10 T_int 1
    have h12 : Sat W w34 (elS.own (x, s1) :: Blk gb [.pointer (some ⟨x, 0, none⟩)] T_p_seglog_segment :: Blk a (lcells b g p) T_seglog_Log :: FrR p.fr :: OwnS elS p.sl p.cs :: DkR b (d.append (g.file g.fin) []).1 :: l) :=
      sat_sg.2 ⟨_, _, h11.sel 8 [6, 1, 0, 2, 3, 4, 5, 7]⟩
    have h13 : Sat W w34 (Blk gb (elS.cells (x, s1)) T_p_seglog_segment :: elS.own (x, s1) :: OwnS elS p.sl p.cs :: Blk a (lcells b g p) T_seglog_Log :: FrR p.fr :: DkR b (d.append (g.file g.fin) []).1 :: l) := h12.sel 6 [1, 0, 4, 2, 3, 5]
    refine own_push (E := elS) (x := (x, s1)) et_segs rfl rfl (by decide) h13 (by omega) (by omega) fun s35 w36 h14 => ?_
    have h15 : Sat W w36 (Blk a (lcells b g p) T_seglog_Log :: FrR p.fr :: OwnS elS s35 (p.cs ++ [(x, s1)]) :: DkR b (d.append (g.file g.fin) []).1 :: l) := h14.sel 4 [1, 2, 0, 3]
    refine stX h15 3 (v := s35.v) (hi := (by show 3 < 5; decide)) fun w38 h16 => ?_
    exact hK w38 (sat_lg.2 ⟨⟨p.fr, s35, p.cs ++ [(x, s1)]⟩, by rw [List.map_append, hp]; rfl, h16⟩)
theorem roll_ok {d : Dk} (h : Sat W w (LgR a b g :: DkR b d :: l)) (hl : Lai W l) (hb : LgB g) (hf : -9223372036854775808 ≤ g.fin ∧ g.fin < 9223372036854775808) (hn : g.name.length ≤ 8) (hs : g.segs.length ≤ 1073741824)
    (hK : ∀ w', Sat W w' (LgR a b (g.roll d).1 :: DkR b (g.roll d).2.1 :: l) → K (.int .i64 (g.roll d).2.2) w') : CallP P F_seglog_Log_roll [.pointer (some ⟨a, 0, none⟩)] w K := by
  apply c_seglog_Log_roll
  unfold S_seglog_Log_roll
  obtain ⟨p, hp, h1⟩ := sat_lg.1 h
  have hol := own_len (h1.up 2) (by decide : 0 < 1)
  refine ⟨fun _ w' => ∃ g' d', Sat W w' (LgR a b g' :: DkR b d' :: l) ∧ g.roll d = g'.grow d' ∧ LgB g' ∧ g'.fin = g.fin ∧ g'.name = g.name ∧ g'.segs = g.segs, ?_, ?_⟩
  · rintro _ w2 ⟨g', d', h2, e1, hb', ef, en, es⟩
    rw [e1] at hK
    exact grow_ok h2 hl hb' (by rw [ef]; exact hf) (by rw [en]; exact hn) (by rw [es]; exact hs) hK
  · refine ldX h1 3 (x := p.sl) ?_
    refine ifB_dec (fun c => ?_) fun c => ?_
    · obtain ⟨x, hx, hlast⟩ := last_at (cs := p.cs) (by omega)
      have ei : ((p.sl.len : Int) - 1).toNat = p.cs.length - 1 := by omega
      refine ldX h1 3 (x := p.sl) ?_
      rw [w_i64 (n := (p.sl.len : Int) - 1) (by omega) (by omega)]
      refine sg_ptr (x := x) (by omega) (by rw [ei]; exact hx) (h1.up 2) ?_
      have h2 := own_open (i := p.cs.length - 1) (x := x) hx (h1.up 2)
      obtain ⟨bs, es, h3⟩ := sat_sg.1 (show Sat W _ (SgR x.1 x.2 :: _) from h2)
      refine ldX h3 2 (x := x.2.bytes) ?_
      have er : g.roll d = if x.2.bytes < 512 then (g, d, 0) else if (g.flush d).2.2 = 0 then (g.flush d).1.grow (g.flush d).2.1 else g.flush d := by
        unfold Lg.roll; rw [← hp, hlast]
      refine ifB_dec (fun c2 => ?_) fun c2 => ?_
      · rw [er, if_pos c2] at hK
        exact hK w h
      · rw [if_neg c2] at er
        refine flush_ok h hb fun w12 h4 => tyI (k := .int .i64) ?_
        refine ifB_bne (fun c3 => ?_) fun c3 => ?_
        · rw [er, if_neg c3] at hK
          exact hK w12 h4
        · rw [if_pos c3] at er
          exact ⟨_, _, h4, er, by unfold LgB; rw [Lg.flush_segs]; exact hb, Lg.flush_fin g d, Lg.flush_name g d, Lg.flush_segs g d⟩
    · have hn0 : p.cs = [] := List.length_eq_zero_iff.1 (by omega)
      refine ⟨g, d, h, ?_, hb, rfl, rfl, rfl⟩
      unfold Lg.roll; rw [← hp, hn0]; rfl
end
end Go.Proofs.YtnjadekngjgjcaaGreatDoor

/- Layer 8: a batch is put. -/
namespace Go.Proofs.YtnjadekngjgjcaaGreatDoor
open Go Go.Pk
/-- a segment whose sizes are small -/
def SgF (s : Sg) : Prop := (0 ≤ s.bytes ∧ s.bytes ≤ 1099511627776) ∧ s.bt.length ≤ 1073741824 ∧ s.ends.length ≤ 1073741824
def LgF (g : Lg) : Prop := ∀ s ∈ g.segs, SgF s
def Lg.last (g : Lg) (s : Sg) : Lg := { g with segs := g.segs.set (g.segs.length - 1) s }
noncomputable def Lg.put (g : Lg) (d : Dk) (b : Bd) : Lg × Dk × Int :=
  if b.chk ≠ 0 then (g, d, b.chk) else if b.ba ≠ g.fin then (g, d, 13) else if (g.roll d).2.2 ≠ 0 then g.roll d else
  match (g.roll d).1.segs.getLast? with
  | none => g.roll d
  | some s => if ((g.roll d).2.1.append s.name (frm b.enc)).2 = 0 then ((g.roll d).1.last (s.add b (frm b.enc).length), ((g.roll d).2.1.append s.name (frm b.enc)).1, 0)
    else ((g.roll d).1, ((g.roll d).2.1.append s.name (frm b.enc)).1, ((g.roll d).2.1.append s.name (frm b.enc)).2)
theorem Lg.roll_mem {g : Lg} {d : Dk} {s : Sg} (h : s ∈ (g.roll d).1.segs) : s ∈ g.segs ∨ (s.bytes = 0 ∧ s.bt = [] ∧ s.ends = [] ∧ s.base = g.fin) := by
  have hg : ∀ {g' : Lg} {d' : Dk}, s ∈ (g'.grow d').1.segs → s ∈ g'.segs ∨ (s.bytes = 0 ∧ s.bt = [] ∧ s.ends = [] ∧ s.base = g'.fin) := by
    intro g' d' hs
    unfold Lg.grow at hs
    split at hs
    · rcases List.mem_append.1 hs with hs | hs
      · exact .inl hs
      · rw [List.mem_singleton.1 hs]; exact .inr ⟨rfl, rfl, rfl, rfl⟩
    · exact .inl hs
  unfold Lg.roll at h
  split at h
  · exact hg h
  · split at h
    · exact .inl h
    · split at h
      · have := hg h
        rw [Lg.flush_segs, Lg.flush_fin] at this
        exact this
      · rw [Lg.flush_segs] at h
        exact .inl h
theorem Lg.roll_fit {g : Lg} {d : Dk} (h : LgF g) : LgF (g.roll d).1 := by
  intro s hs
  rcases Lg.roll_mem hs with h1 | ⟨h1, h2, h3, _⟩
  · exact h s h1
  · refine ⟨?_, ?_, ?_⟩
    · rw [h1]; decide
    · rw [h2]; decide
    · rw [h3]; decide
theorem Lg.grow_some {g : Lg} {d : Dk} (h : (g.grow d).2.2 = 0) : (g.grow d).1.segs.getLast? = some ⟨g.fin, g.file g.fin, 0, [], []⟩ := by
  unfold Lg.grow at h ⊢
  split
  · simp
  · rename_i c; rw [if_neg c] at h; exact absurd h c
theorem Lg.roll_some {g : Lg} {d : Dk} (h : (g.roll d).2.2 = 0) : ∃ s, (g.roll d).1.segs.getLast? = some s := by
  unfold Lg.roll at h ⊢
  split
  · rename_i e; rw [e] at h; exact ⟨_, Lg.grow_some h⟩
  · rename_i s e
    rw [e] at h
    simp only at h
    split
    · exact ⟨s, e⟩
    · rename_i c
      rw [if_neg c] at h
      split
      · rename_i c2; rw [if_pos c2] at h; exact ⟨_, Lg.grow_some h⟩
      · rw [Lg.flush_segs]; exact ⟨s, e⟩
section
variable {W w : World} {l : List Res} {K : Value → World → Prop} {a b : Nat} {g : Lg}
theorem put_ok {dk : Dk} {d : Dc} (h : Sat W w (LgR a b g :: DkR b dk :: l)) (hl : Lai W l) (hnum : d.num) (hv : VRd W l d) (hb : LgB g) (hfi : LgF g) (hf : -9223372036854775808 ≤ g.fin ∧ g.fin < 9223372036854775808) (hn : g.name.length ≤ 8) (hs : g.segs.length ≤ 1073741824)
    (hK : ∀ w', Sat W w' (LgR a b (g.put dk d.bd).1 :: DkR b (g.put dk d.bd).2.1 :: l) → K (.int .i64 (g.put dk d.bd).2.2) w') : CallP P F_seglog_Log_Put [.pointer (some ⟨a, 0, none⟩), .agg d.cells.toArray] w K := by
  apply c_seglog_Log_Put
  unfold S_seglog_Log_Put
  refine boxB h fun a0 w1 h1 => ?_
  have h1 : Sat W w1 (Blk a0 d.cells T_api_Batch :: LgR a b g :: DkR b dk :: l) := h1
  refine ifB_intro (fun c => absurd c (by simp)) fun _ => ?_
  refine ldAggB h1 (by kernel_rfl) ?_
  have hv1 : ∀ {R1 R2 R3 : Res}, VRd W (R1 :: R2 :: R3 :: l) d := fun {R1 R2 R3} => hv.cons.cons.cons
  refine encode_ok h1 hnum hv1 (fun hc w4 h2 => tup2 (s := ⟨none, 0, 0⟩) ?_) fun hc s w4 h2 => tup2 ?_
  · have e : g.put dk d.bd = (g, dk, chk d) := by unfold Lg.put; rw [if_pos (show d.bd.chk ≠ 0 from hc)]; rfl
    rw [e] at hK
    exact ifB_bne (fun _ => hK w4 h2.tail) fun c => absurd c hc
  · have e0 : ¬ d.bd.chk ≠ 0 := fun c => c hc
    refine ifB_bne (fun c => absurd rfl c) fun _ => ?_
    have h3 := h2.drew
    refine ⟨fun w => ∃ L, Sat W w (Blk a0 d.cells T_api_Batch :: L), ⟨_, h3.up 1⟩, ?_⟩
    refine hldX (fun w hw => hw) 0 (x := d.ba) ?_
    refine fin_ok (h3.up 2) hb fun w9 h4 => tyI (k := .int .i64) ?_
    have h4 : Sat W w9 (LgR a b g :: BsR s (encB d) :: Blk a0 d.cells T_api_Batch :: DkR b dk :: l) := h4
    refine ⟨⟨_, h4.up 2⟩, ?_⟩
    refine ifB_bne (fun c => ?_) fun c => ?_
    · have e : g.put dk d.bd = (g, dk, 13) := by unfold Lg.put; rw [if_neg e0, if_pos (show d.bd.ba ≠ g.fin from c)]
      rw [e] at hK
      exact hK w9 (h4.sel 4 [0, 3])
    · have e1 : ¬ d.bd.ba ≠ g.fin := fun h => h c
      obtain ⟨p, hp, h5⟩ := sat_lg.1 h4
      refine ldX h5 2 (x := some ⟨p.fr, 0, none⟩) ?_
      have h6 : Sat W w9 (FrR p.fr :: Blk a (lcells b g p) T_seglog_Log :: OwnS elS p.sl p.cs :: BsR s (encB d) :: Blk a0 d.cells T_api_Batch :: DkR b dk :: l) := h5.swap
      refine fencode_ok (p := encB d) h6 (Rd.cons (Rd.cons Rd.own)) (by have := encB_len hnum hc; omega) fun s2 w14 h7 => tup2 ?_
      have h8 : Sat W w14 (LgR a b g :: DkR b dk :: BsR s2 (frm (encB d)) :: Blk a0 d.cells T_api_Batch :: l) := sat_lg.2 ⟨p, hp, h7.sel 7 [2, 1, 3, 6, 0, 5]⟩
      refine roll_ok h8 hl.cons.cons hb hf hn hs fun w17 h9 => tyI (k := .int .i64) ?_
      have ep : g.put dk d.bd = if (g.roll dk).2.2 ≠ 0 then g.roll dk else match (g.roll dk).1.segs.getLast? with
          | none => g.roll dk
          | some s => if ((g.roll dk).2.1.append s.name (frm d.bd.enc)).2 = 0 then ((g.roll dk).1.last (s.add d.bd (frm d.bd.enc).length), ((g.roll dk).2.1.append s.name (frm d.bd.enc)).1, 0)
            else ((g.roll dk).1, ((g.roll dk).2.1.append s.name (frm d.bd.enc)).1, ((g.roll dk).2.1.append s.name (frm d.bd.enc)).2) := by
        unfold Lg.put; rw [if_neg e0, if_neg e1]
      refine ifB_bne (fun c2 => ?_) fun c2 => ?_
      · rw [if_pos c2] at ep
        rw [ep] at hK
        exact hK w17 (h9.cut 2 |>.cut 2)
      · rw [if_neg (fun h => h c2)] at ep
        obtain ⟨sg, hsg⟩ := Lg.roll_some c2
        rw [hsg] at ep
        simp only at ep
        have hfi2 := Lg.roll_fit (d := dk) hfi
        generalize (g.roll dk).1 = g1 at *
        generalize (g.roll dk).2.1 = dk1 at *
        obtain ⟨q, hq, h10⟩ := sat_lg.1 h9.drew
        have hol := own_len (h10.up 2) (by decide : 0 < 1)
        have hcs : 0 < q.cs.length := by
          rcases Nat.eq_zero_or_pos q.cs.length with h0 | h0
          · rw [← hq, List.length_eq_zero_iff.1 h0] at hsg; cases hsg
          · exact h0
        obtain ⟨x, hx, hlast⟩ := last_at hcs
        have hx2 : x.2 = sg := by rw [hq, hsg] at hlast; exact (Option.some.inj hlast).symm
        subst hx2
        have ei : ((q.sl.len : Int) - 1).toNat = q.cs.length - 1 := by omega
        refine ldX h10 3 (x := q.sl) ?_
        refine ldX h10 3 (x := q.sl) ?_
        rw [w_i64 (n := (q.sl.len : Int) - 1) (by omega) (by omega)]
        refine sg_ptr (x := x) (by omega) (by rw [ei]; exact hx) (h10.up 2) ?_
        have hf2 := hfi2 x.2 (by rw [← hq]; exact List.mem_map.2 ⟨x, List.mem_of_getElem? hx, rfl⟩)
        have h11 : Sat W w17.drew.drew (SgR x.1 x.2 :: SlR elS.T elS.sz q.sl (elS.flat q.cs) :: All ((q.cs.map elS.own).eraseIdx (q.cs.length - 1)) :: Blk a (lcells b g1 q) T_seglog_Log :: FrR q.fr :: DkR b dk1 :: BsR s2 (frm (encB d)) :: Blk a0 d.cells T_api_Batch :: l) := Sat.drew (own_open hx (h10.up 2))
        obtain ⟨bs, es, h12⟩ := sat_sg.1 h11
        let R : List Res := [Blk x.1 (scells x.2 bs es) T_seglog_segment, BtR bs x.2.bt, IsR es x.2.ends, SlR elS.T elS.sz q.sl (elS.flat q.cs), All ((q.cs.map elS.own).eraseIdx (q.cs.length - 1)), Blk a (lcells b g1 q) T_seglog_Log, FrR q.fr, BsR s2 (frm (encB d)), Blk a0 d.cells T_api_Batch]
        have h13 : Sat W w17.drew.drew (DkR b dk1 :: R ++ l) := Sat.sel (L := Blk x.1 (scells x.2 bs es) T_seglog_segment :: _) h12 10 [7, 0, 1, 2, 3, 4, 5, 6, 8, 9]
        let S : World → Prop := fun w => ∃ d', Sat W w (DkR b d' :: R ++ l)
        refine ⟨S, ⟨_, h13⟩, ?_⟩
        have hS1 : ∀ w, S w → ∃ L, Sat W w (Blk a (lcells b g1 q) T_seglog_Log :: L) := fun w hw => by obtain ⟨d', hw⟩ := hw; exact ⟨_, Sat.up (L := DkR b d' :: R ++ l) hw 6⟩
        have hS2 : ∀ w, S w → ∃ L, Sat W w (Blk x.1 (scells x.2 bs es) T_seglog_segment :: L) := fun w hw => by obtain ⟨d', hw⟩ := hw; exact ⟨_, Sat.up (L := DkR b d' :: R ++ l) hw 1⟩
        refine hldX hS1 0 (x := some ⟨b, 0, none⟩) ?_
        refine hldX hS2 1 (x := vK x.2.name) ?_
        have rd : Rd W (R ++ l) s2 1 ((frm (encB d)).map vB) := fun w hw => (Sat.up (L := R ++ l) hw 7).rdc
        have hfl : (frm (encB d)).length ≤ 2008 := by rw [frm_len]; have := encB_len hnum hc; omega
        refine dappend_ok (n := x.2.name) (bs := frm (encB d)) h13 rd (by omega) fun w31 h14 => tyI (k := .int .i64) ⟨⟨_, h14⟩, ?_⟩
        have ee : d.bd.enc = encB d := rfl
        rw [ee] at ep
        refine ifB_beq (fun c3 => ?_) fun c3 => ?_
        · rw [if_pos c3] at ep
          rw [ep] at hK
          refine ldAggB (b := a0) (cs := d.cells) (Sat.up (L := DkR b _ :: R ++ l) h14 9) (by kernel_rfl) ?_
          have h15 : Sat W w31 (DkR b (dk1.append x.2.name (frm (encB d))).1 :: R ++ l) := h14
          have hv2 : VRd W (DkR b (dk1.append x.2.name (frm (encB d))).1 :: R ++ l) d := by
            have h0 : VRd W (R ++ l) d := hv.cons.cons.cons.cons.cons.cons.cons.cons.cons
            exact h0.cons
          have hsm := (chk0 hc).2.2
          unfold bad2 at hsm
          have hbl : d.bs.length ≤ 16 := by rcases Nat.lt_or_ge 16 d.bs.length with h | h; exact absurd (.inl h) hsm; exact h
          refine sown_ok h15 hv2 (by omega) (fun y hy => by
            rcases Nat.lt_or_ge 64 y.length with h | h
            · exact absurd (.inr ⟨y, hy, h⟩) hsm
            · omega) fun vs ss w35 hss h16 => tyI (k := .val) ?_
          let d' : Dc := { d with vs := vs, ss := ss }
          have hsl := Sat.bsLen (s := s2) (o := frm (encB d)) (Sat.up (L := VsR vs ss d.bs :: DkR b _ :: R ++ l) h16 9)
          have h17 : Sat W w35 (SgR x.1 x.2 :: VsR vs ss d.bs :: DkR b (dk1.append x.2.name (frm (encB d))).1 :: SlR elS.T elS.sz q.sl (elS.flat q.cs) :: All ((q.cs.map elS.own).eraseIdx (q.cs.length - 1)) :: Blk a (lcells b g1 q) T_seglog_Log :: FrR q.fr :: l) :=
            sat_sg.2 ⟨bs, es, Sat.sel (L := VsR vs ss d.bs :: DkR b _ :: R ++ l) h16 11 [2, 3, 4, 0, 1, 5, 6, 7, 8]⟩
          have h18 : Sat W w35 (elB.own d' :: SgR x.1 x.2 :: DkR b (dk1.append x.2.name (frm (encB d))).1 :: SlR elS.T elS.sz q.sl (elS.flat q.cs) :: All ((q.cs.map elS.own).eraseIdx (q.cs.length - 1)) :: Blk a (lcells b g1 q) T_seglog_Log :: FrR q.fr :: l) :=
            sat_all.2 (sat_pure.2 ⟨⟨hss, hnum⟩, h17.swap⟩)
          refine add_ok (d := d') h18 hf2.2.1 hf2.2.2 hf2.1 (by show 0 ≤ ((s2.len : Nat) : Int) ∧ ((s2.len : Nat) : Int) ≤ _; omega) fun w38 h19 => tupU rfl ?_
          have e5 : ((s2.len : Nat) : Int) = ((frm (encB d)).length : Nat) := by omega
          rw [e5] at h19
          have h20 := own_back (E := elS) (y := (x.1, x.2.add d'.bd (frm (encB d)).length)) hx rfl (h19.sel 4 [0, 2, 3, 1])
          have h21 : Sat W w38 (Blk a (lcells b (g1.last (x.2.add d'.bd (frm (encB d)).length)) q) T_seglog_Log :: FrR q.fr :: OwnS elS q.sl (q.cs.set (q.cs.length - 1) (x.1, x.2.add d'.bd (frm (encB d)).length)) :: DkR b (dk1.append x.2.name (frm (encB d))).1 :: l) := h20.sel 4 [2, 3, 0, 1]
          rw [c3]
          refine hK w38 (sat_lg.2 ⟨⟨q.fr, q.sl, q.cs.set (q.cs.length - 1) (x.1, x.2.add d'.bd (frm (encB d)).length)⟩, ?_, h21⟩)
          show (q.cs.set _ _).map Prod.snd = g1.segs.set (g1.segs.length - 1) _
          rw [List.map_set, hq]
          congr 1
          rw [← hq]; simp
        · rw [if_neg c3] at ep
          rw [ep] at hK
          have h15 : Sat W w31 (SgR x.1 x.2 :: SlR elS.T elS.sz q.sl (elS.flat q.cs) :: All ((q.cs.map elS.own).eraseIdx (q.cs.length - 1)) :: Blk a (lcells b g1 q) T_seglog_Log :: FrR q.fr :: DkR b (dk1.append x.2.name (frm (encB d))).1 :: l) :=
            sat_sg.2 ⟨bs, es, Sat.sel (L := DkR b _ :: R ++ l) h14 10 [1, 2, 3, 4, 5, 6, 7, 0]⟩
          have h16 := own_back (E := elS) (y := x) hx rfl h15
          have hset : q.cs.set (q.cs.length - 1) x = q.cs := by
            obtain ⟨hlt, hxx⟩ := List.getElem?_eq_some_iff.1 hx
            rw [← hxx, List.set_getElem_self]
          rw [hset] at h16
          exact hK w31 (sat_lg.2 ⟨q, hq, h16.sel 4 [1, 2, 0, 3]⟩)
end
end Go.Proofs.YtnjadekngjgjcaaGreatDoor
