/- Layer 8: the law SegNames, walked. -/
import Derived.Test.YtbpcichakchpkaaGreatDoorTM
import Derived.Test.YtbpcichakchpkaaGreatDoorTL
import Derived.Laws.Strings
namespace Go.Proofs.YtbpcichakchpkaaGreatDoor
open Go Go.Pk
theorem run_strLo {P : Program} {ts : TypeId} (hs : P.underlying ts = some .string) {s : ByteArray} {lo : Int} (h0 : 0 ≤ lo) (h1 : lo ≤ s.size) (w : World) {j : IntKind} :
    (Instr.sliceAt ts (.string s) (some (.int j lo)) none none).run P w = .ok (.string (s.extract lo.toNat s.size)) w := by
  have e2 : (0 ≤ lo ∧ lo ≤ (s.size : Int)) := ⟨h0, h1⟩
  simp [Instr.sliceAt, Instr.slice, run_underlying hs, Sem.run_bind, Instr.sliceBounds, Instr.sliceBound, asIntOf, Sem.run, e2]
theorem vK_drop (n : List UInt8) (k : Nat) : (vK n).extract k (vK n).size = vK (n.drop k) := by
  apply ByteArray.ext
  apply Array.ext'
  have hsz : (vK n).size = n.length := by show n.toArray.size = _; simp
  rw [ByteArray.data_extract, Array.toList_extract, hsz]
  simp only [vK, List.extract_eq_take_drop]
  rw [List.take_of_length_le (by simp)]
structure Two (n m : List UInt8) (g g2 : Lg) (d : Dk) (gs gs2 : Gr) (k : Nat) : Prop where
  m1 : Mem n g gs
  m2 : Mem m g2 gs2
  few : (allB gs).length ≤ k ∧ (allB gs2).length ≤ k
  start : grStart gs = 0 ∧ grStart gs2 = 0
  lay : n ≠ m → Lay n g d gs ∧ Lay m g2 d gs2 ∧ d.dead = false ∧ d.fuse = -1
theorem Two.swap {n m : List UInt8} {g g2 : Lg} {d : Dk} {gs gs2 : Gr} {k : Nat} (h : Two n m g g2 d gs gs2 k) : Two m n g2 g d gs2 gs k :=
  ⟨h.m2, h.m1, ⟨h.few.2, h.few.1⟩, ⟨h.start.2, h.start.1⟩, fun hne => by obtain ⟨a, b, c, e⟩ := h.lay (fun e => hne e.symm); exact ⟨b, a, c, e⟩⟩
theorem Two.fit {n m : List UInt8} {g g2 : Lg} {d : Dk} {gs gs2 : Gr} {k : Nat} (h : Two n m g g2 d gs gs2 k) (hk : k ≤ 2097152) : LFit g ∧ Small gs := by
  have hs := mem_small h.m1 h.few.1 hk h.start.1
  exact ⟨mem_fit h.m1 hs (by have := h.few.1; omega), hs⟩
theorem Two.put {n m : List UInt8} {g g2 : Lg} {d : Dk} {gs gs2 : Gr} {k : Nat} {b : Bd} (h : Two n m g g2 d gs gs2 k) (hk : k ≤ 2097152) (hn : n ≠ [] ∧ n.length ≤ 8 ∧ ¬ 46 ∈ n) (hm : ¬ 46 ∈ m) (hnum : b.dc.num) (hba : b.ba = g.fin) :
    ∃ gs', Two n m (g.put d b).1 g2 (g.put d b).2.1 gs' gs2 (k + 1) := by
  have hf := h.few
  by_cases hne : n = m
  · obtain ⟨gs', h1, h2, h3⟩ := mem_put (d := d) h.m1 hnum hba
    exact ⟨gs', h1, h.m2, ⟨by omega, by omega⟩, ⟨by rw [h3]; exact h.start.1, h.start.2⟩, fun hc => absurd hne hc⟩
  · obtain ⟨l1, l2, ha, hfu⟩ := h.lay hne
    have hs := (h.fit hk).2
    have hs2 := (h.swap.fit hk).2
    have hbes := l1.beside (b := b) l2 hn hm hne ha hs hs2
    rcases lay_put l1 ⟨hn.1, hn.2.1⟩ ha hfu hs hnum hba with ⟨h1, h2⟩ | ⟨h1, h2, gs', h3, h4, h5, h6, h7⟩ | ⟨h1, h2, h3, h4, h5⟩
    · rw [h2]
      exact ⟨gs, h.m1, h.m2, ⟨by omega, by omega⟩, h.start, fun _ => ⟨l1, l2, ha, hfu⟩⟩
    · have hst : grStart gs' = 0 := by
        have e1 := gch_fin_le h3.chain
        obtain ⟨gs2', q1, q2, q3⟩ := mem_put (d := d) h.m1 hnum hba
        have e2 : grSegs n gs' = grSegs n gs2' := by rw [← h3.segs, ← q1.segs]
        have e3 : grStart gs' = grStart gs2' := by
          cases gs' with
          | nil => cases gs2' with
            | nil => rfl
            | cons q qs => cases e2
          | cons p ps => cases gs2' with
            | nil => cases e2
            | cons q qs =>
              have := (List.cons.inj e2).1
              exact congrArg Sg.base this
        rw [e3, q3]; exact h.start.1
      exact ⟨gs', h3.mem, h.m2, ⟨by rw [h4]; omega, by omega⟩, ⟨hst, h.start.2⟩, fun _ => ⟨h3, hbes, h6, h7⟩⟩
    · exact ⟨_, h3.mem, h.m2, ⟨by rw [put_len]; omega, by omega⟩, ⟨by rw [put_start]; exact h.start.1, h.start.2⟩, fun _ => ⟨h3, hbes, h4, h5⟩⟩
theorem open_same {n : List UInt8} {g : Lg} {d : Dk} {gs : Gr} (h : Lay n g d gs) (ha : d.dead = false) (hn : d.names.Nodup) (hs : Small gs) : (opLg n d).segs = g.segs ∧ (opLg n d).name = n ∧ opDk n d = d := by
  have hf := lay_fls h ha hn hs
  obtain ⟨h1, h2, _⟩ := op_fls hf
  unfold opLg opDk
  rw [h1]
  exact ⟨h.segs.symm, rfl, h2 rfl⟩
theorem lay_nm {n : List UInt8} {g : Lg} {d : Dk} {gs : Gr} (h : Lay n g d gs) (hs : Small gs) : NmOk n d := fun f hf v hv => by
  obtain ⟨p, hp, rfl⟩ := List.mem_map.1 (h.only f hf v hv)
  have := small_mem h.chain hs hp
  omega
section
variable {W w : World} {l : List Res} {K : Value → World → Prop}
theorem putStep_ok {a b : Nat} {g : Lg} {d : Dk} {x : Dc} {Kn : World → Prop} (h : Sat W w (LgR a b g :: DkR b d :: l)) (hl : Lai W l) (hf : LFit g) (hn : g.name.length ≤ 8) (hv : VRd W l x) (hnum : x.num) (hb1 : x.bs.length < 1048576) (hb2 : ∀ v ∈ x.bs, v.length < 1048576)
    (hK : ∀ w', Sat W w' (LgR a b (g.put d { x.bd with ba := g.fin }).1 :: DkR b (g.put d { x.bd with ba := g.fin }).2.1 :: l) → Kn w') :
    CallP P F_ref07_Copy [.agg x.cells.toArray] w fun (v78 : Value) w79 =>
      TyP .val v78 fun (v80 : Value) =>
      RunK .addr P (Instr.alloc T_api_Batch true (.tuple #[])) w79 fun (a81 : Addr) w82 =>
      StoreP P T_api_Batch (.pointer (some a81)) v80 w82 fun w83 =>
      CallP P F_seglog_Log_End [(.pointer (some ⟨a, 0, none⟩))] w83 fun (v84 : Value) w85 =>
      TyP (.int .i64) v84 fun (n86 : Int) =>
      StoreP P T_int (.pointer (some (Go.Addr.add a81 0))) (.int .i64 n86) w85 fun w87 =>
      RunQ .val P (Instr.loadAt T_api_Batch (.pointer (some a81))) w87 fun (v88 : Value) =>
      CallP P F_seglog_Log_Put [(.pointer (some ⟨a, 0, none⟩)), v88] w87 fun (v89 : Value) w90 =>
      TyP (.int .i64) v89 fun (n91 : Int) => Kn w90 := by
  refine copy_ok (d := x) h hv.cons.cons (by omega) (fun v hv => by have := hb2 v hv; omega) fun vs ss w1 hss h1 => tyI (k := .val) ?_
  let y : Dc := { x with vs := vs, ss := ss }
  refine allocB h1 (z := .agg zeroDc.cells.toArray) (by kernel_rfl) fun a2 w2 h2 => ?_
  have h2 : Sat W w2 (Blk a2 zeroDc.cells T_api_Batch :: VsR vs ss x.bs :: LgR a b g :: DkR b d :: l) := h2
  refine stAggB h2 (cs' := y.cells) rfl y.ones (by kernel_rfl) fun w3 h3 => ?_
  have h4 : Sat W w3 (LgR a b g :: Blk a2 y.cells T_api_Batch :: VsR vs ss x.bs :: DkR b d :: l) := h3.sel 4 [2, 0, 1, 3]
  refine fin_ok h4 hf.b fun w4 h5 => tyI (k := .int .i64) ?_
  have h6 : Sat W w4 (Blk a2 y.cells T_api_Batch :: LgR a b g :: VsR vs ss x.bs :: DkR b d :: l) := h5.swap
  refine stX h6 0 (v := .int .i64 g.fin) (hi := (by show 0 < 9; decide)) fun w5 h7 => ?_
  let z : Dc := { y with ba := g.fin }
  have h7 : Sat W w5 (Blk a2 z.cells T_api_Batch :: LgR a b g :: VsR vs ss x.bs :: DkR b d :: l) := h7
  refine ldAggB h7 (cs := z.cells) (by kernel_rfl) ?_
  have h8 : Sat W w5 (LgR a b g :: DkR b d :: VsR vs ss z.bs :: Blk a2 z.cells T_api_Batch :: l) := h7.sel 4 [1, 3, 2, 0]
  have hnz : z.num := by
    have h1 := hf.fin
    have e : z.ba = g.fin := rfl
    unfold Dc.num at hnum ⊢
    exact ⟨by rw [e]; omega, hnum.2⟩
  have hvz : VRd W (VsR vs ss z.bs :: Blk a2 z.cells T_api_Batch :: l) z := VRd.own (d := { x with ba := g.fin }) hss
  refine put_ok (d := z) h8 hl.cons.cons hnz hvz hf.b hf.f (by have := hf.fin; omega) hn hf.n fun w6 h9 => tyI (k := .int .i64) (hK w6 ?_)
  have h10 : Sat W w6 (LgR a b (g.put d z.bd).1 :: DkR b (g.put d z.bd).2.1 :: l) := h9.sel 4 [0, 1]
  exact h10
theorem readTwo_ok {a a' b : Nat} {g g' : Lg} {Kb : Bool → World → Prop} (h : Sat W w (LgR a b g :: LgR a' b g' :: l)) (hf : LFit g) (hf' : LFit g') (heq : g.segs = g'.segs) (hK : ∀ w', Sat W w' (LgR a b g :: LgR a' b g' :: l) → Kb true w') :
    CallP P F_seglog_Log_Read [(.pointer (some ⟨a, 0, none⟩)), (.int .i64 0), (.int .i64 1048576)] w fun (v55 : Value) w56 =>
      TyP .sl v55 fun (s57 : Sl) =>
      CallP P F_seglog_Log_Read [(.pointer (some ⟨a', 0, none⟩)), (.int .i64 0), (.int .i64 1048576)] w56 fun (v58 : Value) w59 =>
      TyP .sl v58 fun (s60 : Sl) =>
      CallP P F_ref07_SameList [s57.v, s60.v] w59 fun (v61 : Value) w62 =>
      TyP .bool v61 fun (b63 : Bool) => Kb b63 w62 := by
  refine read_ok (frm := 0) (n := 1048576) h hf.b hf.c hf.n (hf.q 0) hf.r fun s1 w1 h1 => tyI (k := .sl) ?_
  have h2 : Sat W w1 (LgR a' b g' :: BtR s1 (g.read 0 1048576) :: LgR a b g :: l) := h1.sel 3 [2, 0, 1]
  refine read_ok (frm := 0) (n := 1048576) h2 hf'.b hf'.c hf'.n (hf'.q 0) hf'.r fun s2 w2 h3 => tyI (k := .sl) ?_
  obtain ⟨fs, hfs, h4⟩ := sat_bt.1 h3
  obtain ⟨es, hes, h5⟩ := sat_bt.1 (h4.up 2)
  have h6 : Sat W w2 (OwnS elB s1 es :: OwnS elB s2 fs :: LgR a b g :: LgR a' b g' :: l) := h5.sel 4 [0, 1, 3, 2]
  have hrd : g.read 0 1048576 = g'.read 0 1048576 := by unfold Lg.read; rw [heq]
  have hee : es.map Dc.bd = fs.map Dc.bd := by rw [hes, hfs, hrd]
  have hmem : ∀ x ∈ g.read 0 1048576, x.chk = 0 := fun x hx => by
    unfold Lg.read at hx
    have h1 := List.mem_of_mem_take hx
    unfold segB at h1
    obtain ⟨s, hs, hx2⟩ := List.mem_flatMap.1 h1
    exact hf.c s (List.mem_filter.1 hs).1 x (List.mem_filter.1 hx2).1
  have hlen : es.length ≤ 1073741824 := by
    have h1 := hf.q 0
    have h2 : es.length = (g.read 0 1048576).length := by rw [← hes]; simp
    have h3 : (g.read 0 1048576).length ≤ (segB 0 g.segs).length := by unfold Lg.read; rw [List.length_take]; omega
    omega
  refine samelist_ok (es := es) (fs := fs) h6 Rd.ownS (Rd.ownS).cons (fun e he => ?_) (fun e he => ?_) (fun e he => ?_) hlen fun w3 h7 => tyI (k := .bool) ?_
  · obtain ⟨i, hi⟩ := List.getElem?_of_mem he
    exact (bt_rd hi h6).1
  · obtain ⟨i, hi⟩ := List.getElem?_of_mem he
    exact (bt_rd hi h6.tail).1.cons
  · exact Bd.small (x := e.bd) (hmem e.bd (by rw [← hes]; exact List.mem_map_of_mem he))
  · rw [@decide_eq_true _ (Classical.propDecidable _) hee]
    exact hK w3 h7.tail.tail
end
end Go.Proofs.YtbpcichakchpkaaGreatDoor
