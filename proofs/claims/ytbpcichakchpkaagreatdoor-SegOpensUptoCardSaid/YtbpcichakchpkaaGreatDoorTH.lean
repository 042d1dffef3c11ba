/- Layer 8: the law SegReads, walked. -/
import Derived.Test.YtbpcichakchpkaaGreatDoorTG
import Derived.Test.YtbpcichakchpkaaGreatDoorTK
namespace Go.Proofs.YtbpcichakchpkaaGreatDoor
open Go Go.Pk
/-- a list of batches that came in -/
structure BsRd (W : World) (l : List Res) (s : Sl) (xs : List Dc) : Prop where
  rd : ∀ R, Rd W (R ++ l) s 9 (elB.flat xs)
  el : ∀ d ∈ xs, (∀ R, VRd W (R ++ l) d) ∧ d.num ∧ d.bs.length < 1048576 ∧ ∀ v ∈ d.bs, v.length < 1048576
  few : xs.length ≤ 1048576
theorem BsRd.at {W w : World} {l : List Res} {s : Sl} {xs : List Dc} (h : BsRd W l s xs) {R : List Res} {i : Nat} {d : Dc} (hi : xs[i]? = some d) (hw : Sat W w (R ++ l)) {K : Value → Prop} (hK : K (.agg d.cells.toArray)) :
    RunQ .addr P (Instr.indexAt T_sl_api_Batch s.v (.int .i64 (i : Int))) w fun a => RunQ .val P (Instr.loadAt T_api_Batch (.pointer (some a))) w K := by
  have hr := h.rd R w hw
  have hlen : s.len = xs.length := by
    have := hr.1
    have e := flat_length (E := elB) xs
    have e2 : elB.sz = 9 := rfl
    rw [e2] at e
    omega
  have hlt := (List.getElem?_eq_some_iff.1 hi).1
  refine ixA et_batches hr (by omega) (by omega) fun a1 ha1 => ?_
  refine ldAggC (cs := d.cells) ?_ hK
  intro k u hu
  refine ha1 k _ (by
    have := (List.getElem?_eq_some_iff.1 hu).1
    have e : d.cells.length = 9 := rfl
    omega) ?_
  exact flat_at (E := elB) (j := k) hi hu
theorem BsRd.len {W w : World} {l : List Res} {s : Sl} {xs : List Dc} (h : BsRd W l s xs) {R : List Res} (hw : Sat W w (R ++ l)) : s.len = xs.length := by
  have hr := h.rd R w hw
  have := hr.1
  have e := flat_length (E := elB) xs
  have e2 : elB.sz = 9 := rfl
  rw [e2] at e
  omega
section
variable {W w : World} {l : List Res} {K : Value → World → Prop}
/-- a log and the reference's log, side by side -/
structure Both (n : List UInt8) (g : Lg) (d : Dk) (gs : Gr) (r : Rl) (k : Nat) : Prop where
  lay : Lay n g d gs
  mt : Mt gs r
  live : d.dead = false ∧ d.fuse = -1
  few : (allB gs).length ≤ k
  start : grStart gs = 0
theorem Both.small {n : List UInt8} {g : Lg} {d : Dk} {gs : Gr} {r : Rl} {k : Nat} (h : Both n g d gs r k) (hk : k ≤ 1048577) : Small gs := by
  have h1 := gch_fin_le h.lay.chain
  have h2 := h.few
  have h3 := h.start
  exact ⟨by omega, by omega⟩
theorem Both.fit {n : List UInt8} {g : Lg} {d : Dk} {gs : Gr} {r : Rl} {k : Nat} (h : Both n g d gs r k) (hk : k ≤ 1048577) : LFit g := lay_fit h.lay (h.small hk) (by have := h.few; omega)
theorem Both.rb {n : List UInt8} {g : Lg} {d : Dk} {gs : Gr} {r : Rl} {k : Nat} (h : Both n g d gs r k) (hk : k ≤ 1048577) : RlB r ∧ (∀ x ∈ r.list, x.chk = 0) ∧ r.list.length ≤ 1048577 ∧ r.bases.length ≤ 1048578 := by
  have hs := h.small hk
  have hc := gch_chain _ h.lay.chain
  have hm := chain_mem _ _ hc.1
  have hf := h.few
  refine ⟨fun x hx => ?_, fun x hx => ?_, by rw [h.mt.list]; omega, ?_⟩
  · rw [h.mt.list] at hx
    have := hm.2.2 x hx
    rw [hc.2] at this
    have h1 := hs.1
    have h2 := hs.2
    omega
  · rw [h.mt.list] at hx
    exact (chain_ok _ _ hc.1 x hx).1
  · have := gch_len h.lay.chain
    rw [h.mt.bases, List.length_map]; omega
theorem Both.put {n : List UInt8} {g : Lg} {d : Dk} {gs : Gr} {r : Rl} {k : Nat} {b : Bd} (h : Both n g d gs r k) (hk : k ≤ 1048576) (hn : n ≠ [] ∧ n.length ≤ 8) (hnum : b.dc.num) (hba : b.ba = r.fin) :
    (g.put d b).2.2 = 3 ∨ ((g.put d b).2.2 = (r.put b).2 ∧ ∃ gs', Both n (g.put d b).1 (g.put d b).2.1 gs' (r.put b).1 (k + 1)) := by
  have hs := h.small (by omega)
  have hf := mt_fin h.mt h.lay.chain
  rcases lay_put h.lay hn h.live.1 h.live.2 hs hnum (by rw [hba, hf.1, lay_fin h.lay]) with ⟨h1, h2⟩ | ⟨h1, h2, _⟩ | ⟨h1, h2, h3, h4, h5⟩
  · refine .inr ?_
    rw [h2, mt_put_bad h1]
    exact ⟨rfl, gs, h.lay, h.mt, h.live, by have := h.few; omega, h.start⟩
  · exact .inl h2
  · obtain ⟨e1, e2⟩ := mt_put h.mt h.lay.chain h1 (by rw [hba, hf.1])
    refine .inr ⟨by rw [h2, e1], addG (rollG gs) b, h3, e2, ⟨h4, h5⟩, ?_, by rw [put_start]; exact h.start⟩
    rw [put_len]; have := h.few; omega
def logN : List UInt8 := [108, 111, 103]
theorem both_new (n : List UInt8) : Both n ⟨n, [], 0⟩ Dk.new [] ⟨[], [], 0⟩ 0 := ⟨lay_new n, mt_new, ⟨rfl, rfl⟩, Nat.le_refl _, rfl⟩
theorem logN_ok : logN ≠ [] ∧ logN.length ≤ 8 ∧ ¬ 46 ∈ logN := by unfold logN; simp
/-- every file of a disk is the log's -/
def Sole (n : List UInt8) (d : Dk) : Prop := ∀ f ∈ d.names, isF n f = true
theorem append_names {d : Dk} {m b f : List UInt8} (hf : f ∈ (d.append m b).1.names) : f ∈ d.names ∨ f = m := by
  unfold Dk.append at hf
  split at hf
  · exact .inl hf
  · split at hf
    · exact .inl hf
    · split at hf
      · exact .inl hf
      · rcases names_put _ _ _ _ hf with h | h
        · exact .inr h
        · exact .inl h
theorem sync_names {d : Dk} {m f : List UInt8} (hf : f ∈ (d.sync m).1.names) : f ∈ d.names := by
  unfold Dk.sync Dk.find at hf
  by_cases hd : d.dead = true
  · rw [if_pos hd] at hf; exact hf
  · rw [if_neg hd] at hf
    cases hl : d.look m with
    | none => rw [hl] at hf; exact hf
    | some x =>
      rw [hl] at hf
      rcases names_put _ _ _ _ hf with h | h
      · rw [h]; exact look_names hl
      · exact h
theorem flush_names {g : Lg} {d : Dk} {f : List UInt8} (hf : f ∈ (g.flush d).2.1.names) : f ∈ d.names := by
  unfold Lg.flush at hf
  split at hf
  · exact hf
  · split at hf
    · exact sync_names hf
    · exact sync_names hf
theorem grow_names {g : Lg} {d : Dk} {f : List UInt8} (hf : f ∈ (g.grow d).2.1.names) : f ∈ d.names ∨ f = g.file g.fin := by
  unfold Lg.grow at hf
  split at hf
  · exact append_names hf
  · exact append_names hf
theorem roll_names {g : Lg} {d : Dk} {f : List UInt8} (hf : f ∈ (g.roll d).2.1.names) : f ∈ d.names ∨ f = g.file g.fin := by
  unfold Lg.roll at hf
  split at hf
  · exact grow_names hf
  · split at hf
    · exact .inl hf
    · split at hf
      · rcases grow_names hf with h | h
        · exact .inl (flush_names h)
        · refine .inr ?_
          rw [h, Lg.flush_fin]
          unfold Lg.file; rw [Lg.flush_name]
      · exact .inl (flush_names hf)
theorem put_names {n : List UInt8} {g : Lg} {d : Dk} {gs : Gr} {b : Bd} {f : List UInt8} (h : Lay n g d gs) (hn : n ≠ [] ∧ n.length ≤ 8) (ha : d.dead = false) (hs : Small gs) (hf : f ∈ (g.put d b).2.1.names) : f ∈ d.names ∨ isF n f = true := by
  have hst := (gch_fin_le h.chain).1
  have hs1 := hs.1
  have hroll : ∀ {f}, f ∈ (g.roll d).2.1.names → f ∈ d.names ∨ isF n f = true := fun {f} hf => by
    rcases roll_names hf with h1 | h1
    · exact .inl h1
    · refine .inr ?_
      rw [h1, file_segF h.name, lay_fin h]
      unfold isF
      rw [fileBase_segF n (by omega) hs.2]; rfl
  unfold Lg.put at hf
  split at hf
  · exact .inl hf
  · split at hf
    · exact .inl hf
    · split at hf
      · exact hroll hf
      · rename_i hr
        split at hf
        · exact hroll hf
        · rename_i sg hsg
          have hname : isF n sg.name = true := by
            rcases lay_roll h hn ha hs with ⟨h1, _⟩ | ⟨h1, h2, _⟩
            · rw [h1] at hr; exact absurd (show (3 : Int) ≠ 0 by decide) hr
            · rw [h2.segs, grSegs_last] at hsg
              obtain ⟨p, hp, rfl⟩ := Option.map_eq_some_iff.1 hsg
              have := small_mem h2.chain (rollG_small h.chain hs) (List.mem_of_getLast? hp)
              show isF n (segF n p.1) = true
              unfold isF
              rw [fileBase_segF n this.1 this.2]; rfl
          split at hf
          · rcases append_names hf with h1 | h1
            · exact hroll h1
            · exact .inr (h1 ▸ hname)
          · rcases append_names hf with h1 | h1
            · exact hroll h1
            · exact .inr (h1 ▸ hname)
set_option maxHeartbeats 1000000 in
theorem puts_ok {s : Sl} {xs : List Dc} {n : List UInt8} {a b a6 : Nat} {Kn : World → Prop} (hn : n ≠ [] ∧ n.length ≤ 8) (h4 : Sat W w (LgR a b ⟨n, [], 0⟩ :: DkR b Dk.new :: RlL a6 ⟨[], [], 0⟩ ⟨none, 0, 0⟩ ⟨none, 0, 0⟩ [] l)) (hl : Lai W l) (hx : BsRd W l s xs)
    (hK : ∀ w', Sat W w' l → K (.bool true) w')
    (hKn : ∀ g d gs r ls bs ds w', Both n g d gs r xs.length → Sole n d → ds.map Dc.bd = r.list → Sat W w' (LgR a b g :: DkR b d :: RlL a6 r ls bs ds l) → Kn w') :
    LoopP (T := Int × Unit) (some (0, ())) w fun next14 t15 w16 =>
       ifB (decide (t15.fst < (↑s.len : Int)))
        (RunQ .addr P (Instr.indexAt T_sl_api_Batch s.v (.int .i64 t15.fst)) w16 fun (a17 : Addr) =>
         RunQ .val P (Instr.loadAt T_api_Batch (.pointer (some a17))) w16 fun (v18 : Value) =>
          RunK .addr P (Instr.alloc T_api_Batch true (.tuple #[])) w16 fun (a19 : Addr) w20 =>
           StoreP P T_api_Batch (.pointer (some a19)) v18 w20 fun w21 =>
            CallP P F_ref08_Log_End [(.pointer (some ⟨a6, 0, none⟩))] w21 fun (v22 : Value) w23 =>
             TyP (.int .i64) v22 fun (n24 : Int) =>
              StoreP P T_int (.pointer (some (Go.Addr.add a19 0))) (.int .i64 n24) w23 fun w25 =>
               RunQ .val P (Instr.loadAt T_api_Batch (.pointer (some a19))) w25 fun (v26 : Value) =>
                CallP P F_ref07_Copy [v26] w25 fun (v27 : Value) w28 =>
                TyP .val v27 fun (v29 : Value) =>
                CallP P F_seglog_Log_Put [(.pointer (some ⟨a, 0, none⟩)), v29] w28 fun (v30 : Value) w31 =>
                TyP (.int .i64) v30 fun (n32 : Int) =>
                ifB (n32 == 3)
                (K (.bool true) w31)
                (RunQ .val P (Instr.loadAt T_api_Batch (.pointer (some a19))) w31 fun (v33 : Value) =>
                CallP P F_ref08_Log_Put [(.pointer (some ⟨a6, 0, none⟩)), v33] w31 fun (v34 : Value) w35 =>
                TyP (.int .i64) v34 fun (n36 : Int) =>
                ifB (n32 != n36)
                (K (.bool false) w35)
                (next14 (some ((IntKind.i64.wrap (t15.fst + 1)), ())) w35)))
        (Kn w16) := by
  refine ⟨fun t w' => ∃ (j : Nat) (g : Lg) (d : Dk) (gs : Gr) (r : Rl) (ls bs : Sl) (ds : List Dc), t.1 = j ∧ j ≤ xs.length ∧ Both n g d gs r j ∧ Sole n d ∧ ds.map Dc.bd = r.list ∧ Sat W w' (LgR a b g :: DkR b d :: RlL a6 r ls bs ds l), fun t _ => xs.length - t.1.toNat,
    ⟨0, _, _, [], _, _, _, [], rfl, Nat.zero_le _, both_new n, (fun f hf => by simp [Dk.new, Dk.names] at hf), rfl, h4⟩, ?_⟩
  rintro ⟨tj, u⟩ w16 ⟨j, g, d, gs, r, ls, bs, ds, hj, hjl, hB, hso, hds, h5⟩
  simp only at hj ⊢
  subst hj
  have hsl := hx.len (R := LgR a b g :: DkR b d :: Blk a6 (rlcells r ls bs) T_penstockref08_Log :: OwnS elB ls ds :: IsR bs r.bases :: []) h5
  have hfew := hx.few
  refine ifB_dec (fun c => ?_) fun c => ?_
  · have hjx : xs[j]? = some xs[j] := List.getElem?_eq_getElem (by omega)
    have hmem := List.mem_of_getElem? hjx
    generalize xs[j] = x at hjx hmem
    obtain ⟨hv, hnum, hb1, hb2⟩ := hx.el x hmem
    refine hx.at (R := LgR a b g :: DkR b d :: Blk a6 (rlcells r ls bs) T_penstockref08_Log :: OwnS elB ls ds :: IsR bs r.bases :: []) hjx h5 ?_
    refine allocB h5 (z := .agg zeroDc.cells.toArray) (by kernel_rfl) fun a19 w20 h6 => ?_
    have h6 : Sat W w20 (Blk a19 zeroDc.cells T_api_Batch :: LgR a b g :: DkR b d :: RlL a6 r ls bs ds l) := h6
    refine stAggB h6 (cs' := x.cells) rfl x.ones (by kernel_rfl) fun w21 h7 => ?_
    obtain ⟨hrb, hrc, hrl, hrbl⟩ := hB.rb (by omega)
    have h8 : Sat W w21 (RlL a6 r ls bs ds (LgR a b g :: DkR b d :: Blk a19 x.cells T_api_Batch :: l)) := h7.sel 6 [3, 4, 5, 1, 2, 0]
    refine rfin_ok hds h8 hrb fun w23 h9 => tyI (k := .int .i64) ?_
    let x' : Dc := { x with ba := r.fin }
    have h10 : Sat W w23 (Blk a19 x.cells T_api_Batch :: RlL a6 r ls bs ds (LgR a b g :: DkR b d :: l)) := h9.sel 6 [5, 0, 1, 2, 3, 4]
    refine stX h10 0 (v := .int .i64 r.fin) (hi := (by show 0 < 9; decide)) fun w25 h11 => ?_
    have h11 : Sat W w25 (Blk a19 x'.cells T_api_Batch :: RlL a6 r ls bs ds (LgR a b g :: DkR b d :: l)) := h11
    refine ldAggB h11 (cs := x'.cells) (by kernel_rfl) ?_
    have hv' : ∀ R, VRd W (R ++ l) x' := fun R => hv R
    have hfin := mt_fin hB.mt hB.lay.chain
    have hlf := lay_fin hB.lay
    have hft := hB.fit (by omega)
    have hnum' : x'.num := by
      have h1 := hft.fin
      have e : x'.ba = r.fin := rfl
      unfold Dc.num at hnum ⊢
      refine ⟨?_, hnum.2⟩
      rw [e, hfin.1, ← hlf]; omega
    refine copy_ok (d := x') h11 (hv' (Blk a19 x'.cells T_api_Batch :: Blk a6 (rlcells r ls bs) T_penstockref08_Log :: OwnS elB ls ds :: IsR bs r.bases :: LgR a b g :: DkR b d :: [])) (by show x.bs.length < _; omega) (fun v hv => by have := hb2 v hv; omega) fun vs ss w28 hss h12 => tyI (k := .val) ?_
    have h13 : Sat W w28 (LgR a b g :: DkR b d :: VsR vs ss x'.bs :: Blk a19 x'.cells T_api_Batch :: RlL a6 r ls bs ds l) := h12.sel 7 [5, 6, 0, 1, 2, 3, 4]
    refine put_ok (d := { x' with vs := vs, ss := ss }) h13 hl.cons.cons.cons.cons.cons hnum' (VRd.own (d := x') hss) hft.b hft.f (by have := hft.fin; omega) (by rw [hB.lay.name]; exact hn.2) hft.n fun w31 h14 => tyI (k := .int .i64) ?_
    have ebd : Dc.bd { x' with vs := vs, ss := ss } = x'.bd := rfl
    rw [ebd] at h14 ⊢
    refine ifB_beq (fun _ => hK w31 (h14.sel 7 [] : Sat W w31 _)) fun c3 => ?_
    have h15 : Sat W w31 (Blk a19 x'.cells T_api_Batch :: LgR a b (g.put d x'.bd).1 :: DkR b (g.put d x'.bd).2.1 :: RlL a6 r ls bs ds l) := h14.sel 7 [3, 0, 1, 4, 5, 6]
    refine ldAggB h15 (cs := x'.cells) (by kernel_rfl) ?_
    have h16 : Sat W w31 (RlL a6 r ls bs ds (LgR a b (g.put d x'.bd).1 :: DkR b (g.put d x'.bd).2.1 :: Blk a19 x'.cells T_api_Batch :: l)) := h15.sel 6 [3, 4, 5, 1, 2, 0]
    refine rput_ok (d := x') hds h16 hnum' (hv' (LgR a b (g.put d x'.bd).1 :: DkR b (g.put d x'.bd).2.1 :: Blk a19 x'.cells T_api_Batch :: [])) hrb hrc (by omega) (by omega) fun ls' bs' ds' w35 hds' h17 => tyI (k := .int .i64) ?_
    rcases hB.put (b := x'.bd) (by omega) ⟨hn.1, hn.2⟩ hnum' rfl with h3 | ⟨he, gs', hB'⟩
    · exact absurd h3 c3
    · refine ifB_bne (fun c4 => absurd he c4) fun _ => ?_
      rw [w_i64 (n := (j : Int) + 1) (by omega) (by omega)]
      exact ⟨⟨j + 1, _, _, gs', _, ls', bs', ds', by show (j : Int) + 1 = _; omega, by omega, hB', (fun f hf => (put_names hB.lay hn hB.live.1 (hB.small (by omega)) hf).elim (hso f) id), hds', h17.sel 6 [3, 4, 0, 1, 2]⟩, by show xs.length - ((j : Int) + 1).toNat < xs.length - (j : Int).toNat; omega⟩
  · have e : j = xs.length := by omega
    subst e
    exact hKn g d gs r ls bs ds w16 hB hso hds h5
set_option maxHeartbeats 1000000 in
theorem law_reads8 {s : Sl} {xs : List Dc} {frm n : Int} (h : Sat W w l) (hl : Lai W l) (hx : BsRd W l s xs) (hK : ∀ w', Sat W w' l → K (.bool true) w') : CallP P F_law08_SegReads [s.v, .int .i64 frm, .int .i64 n] w K := by
  apply c_law08_SegReads
  unfold S_law08_SegReads
  refine dkNew_ok h fun b w1 h1 => tyI (k := .ptr) ?_
  refine open_ok (n := logN) h1 hl rfl logN_ok (fun f hf => by simp [Dk.new, Dk.names] at hf) (by simp [Dk.new]) (fun f hf => by simp [Dk.new, Dk.names] at hf) fun a w4 _ _ h2 => tup2p ?_
  rw [(open_new logN).1, (open_new logN).2] at h2
  refine boxB h2 fun a6 w7 h3 => ?_
  refine ⟨fun _ w' => Sat W w' (LgR a b ⟨logN, [], 0⟩ :: DkR b Dk.new :: RlL a6 ⟨[], [], 0⟩ ⟨none, 0, 0⟩ ⟨none, 0, 0⟩ [] l), ?_, ?_⟩
  · rintro _ w10 h4
    refine puts_ok (Kn := fun w => _) ⟨logN_ok.1, logN_ok.2.1⟩ h4 hl hx hK fun g d gs r ls bs ds w16 hB _ hds h5 => ?_
    have hfew := hx.few
    have hft := hB.fit (by omega)
    obtain ⟨hrb, hrc, hrl, hrbl⟩ := hB.rb (by omega)
    refine ⟨fun t w' => ∃ k : Nat, t.1 = k ∧ k ≤ 2 ∧ Sat W w' (LgR a b g :: DkR b d :: RlL a6 r ls bs ds l), fun t _ => 2 - t.1.toNat, ⟨0, rfl, by omega, h5⟩, ?_⟩
    rintro ⟨tk, u⟩ w39 ⟨k, hk, hk2, h6⟩
    simp only at hk ⊢
    subst hk
    refine ifB_dec (fun c2 => ?_) fun c2 => hK w39 (h6.sel 5 [])
    refine read_ok (frm := frm) (n := n) h6 hft.b hft.c hft.n (hft.q frm) hft.r fun s42 w41 h7 => tyI (k := .sl) ?_
    obtain ⟨es, hes, h8⟩ := sat_bt.1 h7
    have h9 : Sat W w41 (RlL a6 r ls bs ds (LgR a b g :: DkR b d :: OwnS elB s42 es :: l)) := h8.sel 6 [3, 4, 5, 1, 2, 0]
    refine rread_ok (n := frm) (k := n) hds h9 hrb (by omega) fun s45 fs w44 hfs hsub h10 => tyI (k := .sl) ?_
    let L : List Res := OwnS elB s42 es :: SlR T_api_Batch 9 s45 (elB.flat fs) :: OwnS elB ls ds :: Blk a6 (rlcells r ls bs) T_penstockref08_Log :: IsR bs r.bases :: LgR a b g :: DkR b d :: l
    have h11 : Sat W w44 L := h10.sel 7 [6, 0, 2, 1, 3, 4, 5]
    have heq : es.map Dc.bd = fs.map Dc.bd := by rw [hes, hfs, lay_read hB.lay, mt_read hB.mt]
    have hsm : ∀ e ∈ es, e.bs.length ≤ 16 ∧ ∀ v ∈ e.bs, v.length ≤ 64 := fun e he => by
      have h1 : e.bd ∈ allB gs := by
        have : e.bd ∈ g.read frm n := by rw [← hes]; exact List.mem_map_of_mem he
        rw [lay_read hB.lay] at this
        exact (List.mem_filter.1 (List.mem_of_mem_take this)).1
      rw [← hB.mt.list] at h1
      exact Bd.small (x := e.bd) (hrc _ h1)
    have hlen : es.length ≤ 1073741824 := by
      have h1 := hft.q frm
      have h2 : es.length = (g.read frm n).length := by rw [← hes]; simp
      have h3 : (g.read frm n).length ≤ (segB frm g.segs).length := by unfold Lg.read; rw [List.length_take]; omega
      omega
    refine samelist_ok (es := es) (fs := fs) h11 Rd.ownS (Rd.own).cons (fun e he => ?_) (fun e he => ?_) hsm hlen fun w47 h12 => tyI (k := .bool) ?_
    · obtain ⟨i, hi⟩ := List.getElem?_of_mem he
      exact (bt_rd hi h11).1
    · obtain ⟨i, hi⟩ := List.getElem?_of_mem (hsub e he)
      have h12 : Sat W w44 (OwnS elB ls ds :: Blk a6 (rlcells r ls bs) T_penstockref08_Log :: IsR bs r.bases :: LgR a b g :: DkR b d :: l) := (h11.cut 0).cut 0
      exact (bt_rd hi h12).1.cons.cons
    · rw [@decide_eq_true _ (Classical.propDecidable _) heq]
      refine ifB_intro (fun c => absurd c (by simp)) fun _ => ?_
      refine fillB_ok (Kn := fun w => _) h12 fun es' w51 _ h13 => ?_
      rw [w_i64 (n := (k : Int) + 1) (by omega) (by omega)]
      exact ⟨⟨k + 1, by show (k : Int) + 1 = _; omega, by omega, h13.sel 7 [5, 6, 3, 2, 4]⟩, by show 2 - ((k : Int) + 1).toNat < 2 - (k : Int).toNat; omega⟩
  · have h4 : Sat W w7 (Blk a6 (rlcells ⟨[], [], 0⟩ ⟨none, 0, 0⟩ ⟨none, 0, 0⟩) T_penstockref08_Log :: LgR a b ⟨logN, [], 0⟩ :: DkR b Dk.new :: l) := h3
    have h5 : Sat W w7 (IsR ⟨none, 0, 0⟩ [] :: Blk a6 (rlcells ⟨[], [], 0⟩ ⟨none, 0, 0⟩ ⟨none, 0, 0⟩) T_penstockref08_Log :: LgR a b ⟨logN, [], 0⟩ :: DkR b Dk.new :: l) := Sat.nilSlr h4 T_int 1
    have h6 := own_nil (E := elB) h5
    have h7 : Sat W w7 (LgR a b ⟨logN, [], 0⟩ :: DkR b Dk.new :: RlL a6 ⟨[], [], 0⟩ ⟨none, 0, 0⟩ ⟨none, 0, 0⟩ [] l) := h6.sel 5 [3, 4, 2, 0, 1]
    refine awake8_ok h7 hl.cons.cons.cons.cons.cons fun w12 h8 => tyI (k := .bool) ?_
    refine ifB_intro (fun c => absurd c (by simp)) fun _ => ?_
    refine ifB_intro (fun c => absurd c (by simp)) fun _ => ?_
    refine ifB_bne (fun c => absurd rfl c) fun _ => h8
end
end Go.Proofs.YtbpcichakchpkaaGreatDoor
