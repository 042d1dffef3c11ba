/- Layer 8: the law SegLasts, walked. -/
import Derived.Test.YtbpcichakchpkaaGreatDoorE12
namespace Go.Proofs.YtbpcichakchpkaaGreatDoor
open Go Go.Pk
/-- a call of the law's script -/
structure Oq where
  k : Int
  d : Dc
  n : Int
def Oq.cells (o : Oq) : List Value := .int .i64 o.k :: (o.d.cells ++ [.int .i64 o.n])
theorem Oq.ones (o : Oq) : ∀ u ∈ o.cells, u.oneCell' = true := by
  intro u hu
  simp only [Oq.cells, List.mem_cons, List.mem_append, List.not_mem_nil, or_false] at hu
  rcases hu with rfl | hu | rfl
  · rfl
  · exact o.d.ones u hu
  · rfl
def elQ : El Oq := ⟨T_penstocklaw08_Op, 11, Oq.cells, fun _ => Pure True, fun _ => rfl, Oq.ones⟩
def zeroOq : Oq := ⟨0, zeroDc, 0⟩
theorem et_sops : ET P T_sl_penstocklaw08_Op T_penstocklaw08_Op 11 88 := ET.of (by kernel_rfl)
/-- a script that came in -/
structure OpsRd (W : World) (l : List Res) (s : Sl) (xs : List Oq) : Prop where
  rd : ∀ R, Rd W (R ++ l) s 11 (elQ.flat xs)
  el : ∀ o ∈ xs, (∀ R, VRd W (R ++ l) o.d) ∧ o.d.num ∧ o.d.bs.length < 1048576 ∧ (∀ v ∈ o.d.bs, v.length < 1048576) ∧ (-9223372036854775808 ≤ o.n ∧ o.n < 9223372036854775808)
  few : xs.length ≤ 1048575
theorem OpsRd.len {W w : World} {l : List Res} {s : Sl} {xs : List Oq} (h : OpsRd W l s xs) {R : List Res} (hw : Sat W w (R ++ l)) : s.len = xs.length := by
  have hr := h.rd R w hw
  have := hr.1
  have e := flat_length (E := elQ) xs
  have e2 : elQ.sz = 11 := rfl
  rw [e2] at e
  omega
theorem OpsRd.at {W w : World} {l : List Res} {s : Sl} {xs : List Oq} (h : OpsRd W l s xs) {R : List Res} {i : Nat} {o : Oq} (hi : xs[i]? = some o) (hw : Sat W w (R ++ l)) {K : Value → Prop} (hK : K (.agg o.cells.toArray)) :
    RunQ .addr P (Instr.indexAt T_sl_penstocklaw08_Op s.v (.int .i64 (i : Int))) w fun a => RunQ .val P (Instr.loadAt T_penstocklaw08_Op (.pointer (some a))) w K := by
  have hr := h.rd R w hw
  have hlen := h.len hw
  have hlt := (List.getElem?_eq_some_iff.1 hi).1
  refine ixA et_sops hr (by omega) (by omega) fun a1 ha1 => ?_
  refine ldAggC (cs := o.cells) ?_ hK
  intro k u hu
  refine ha1 k _ (by
    have := (List.getElem?_eq_some_iff.1 hu).1
    have e : o.cells.length = 11 := rfl
    omega) ?_
  exact flat_at (E := elQ) (j := k) hi hu
theorem mem_ends {n : List UInt8} {g : Lg} {gs : Gr} (h : Mem n g gs) (hl : (allB gs).length ≤ 2097152) : LgN g := by
  intro s hs e he
  rw [h.segs] at hs
  obtain ⟨p, hp, rfl⟩ := List.mem_map.1 hs
  obtain ⟨i, hi⟩ := List.getElem?_of_mem he
  have hlt := (List.getElem?_eq_some_iff.1 hi).1
  have he' : (mkSg p.1 (segF n p.1) p.2).ends = endsF 0 p.2 := rfl
  rw [he'] at hi hlt
  rw [endsF_len] at hlt
  have h1 := endsF_get p.2 0 i hlt
  rw [List.getD_eq_getElem?_getD, hi] at h1
  have h2 := fsOf_take_le p.2 (show i + 1 ≤ p.2.length by omega)
  rw [List.take_length] at h2
  have h3 := fsOf_le p.2 (chain_ok _ _ (gch_mem h.chain hp).1)
  have h4 := (allB_mem hp).1
  simp only [Option.getD_some] at h1
  omega
section
variable {W w : World} {l : List Res} {K : Value → World → Prop} {a b : Nat} {g : Lg}
theorem lastsTail_ok {s73 s95 : Sl} {es fs : List Dc} {sure : Int} {Kn : World → Prop} (h : Sat W w (LgR a b g :: OwnS elB s95 fs :: OwnS elB s73 es :: l)) (hb : LgB g) (hlen : fs.length ≤ es.length) (heq : fs.map Dc.bd = (es.map Dc.bd).take fs.length)
    (hsm : ∀ e ∈ fs, chk e = 0) (hle : es.length ≤ 1073741824) (hsure : sure ≤ g.fin) (hsy : g.sync = g.fin) (hK : ∀ w', Sat W w' (LgR a b g :: l) → Kn w') :
    ifB (decide ((↑s95.len : Int) > (↑s73.len : Int)))
                (K (.bool false) w)
                (RunQ .sl P (Instr.sliceAt T_sl_api_Batch s73.v none (some (.int .i64 ((↑s95.len : Int)))) none) w fun (s99 : Sl) =>
                CallP P F_ref07_SameList [s95.v, s99.v] w fun (v100 : Value) w101 =>
                TyP .bool v100 fun (b102 : Bool) =>
                ifB (!b102)
                (K (.bool false) w101)
                (CallP P F_seglog_Log_End [(.pointer (some ⟨a, 0, none⟩))] w101 fun (v103 : Value) w104 =>
                TyP (.int .i64) v103 fun (n105 : Int) =>
                ifB (decide (n105 < sure))
                (K (.bool false) w104)
                (CallP P F_seglog_Log_Synced [(.pointer (some ⟨a, 0, none⟩))] w104 fun (v106 : Value) w107 =>
                TyP (.int .i64) v106 fun (n108 : Int) =>
                CallP P F_seglog_Log_End [(.pointer (some ⟨a, 0, none⟩))] w107 fun (v109 : Value) w110 =>
                TyP (.int .i64) v109 fun (n111 : Int) =>
                ifB (n108 != n111)
                (K (.bool false) w110)
                (Kn w110)))) := by
  have l1 := own_len (h.up 1) (by decide : 0 < 9)
  have l2 := own_len (h.up 2) (by decide : 0 < 9)
  refine ifB_dec (fun c => by omega) fun _ => ?_
  refine ⟨⟨s73.a, s95.len, s73.cap⟩, ?_, ?_⟩
  · have := run_sliceHi et_batches (s := s73) (hi := ((s95.len : Nat) : Int)) (by omega) (by omega) w (j := .i64)
    rw [this]; simp
  · have hy : Rd W (LgR a b g :: OwnS elB s95 fs :: OwnS elB s73 es :: l) ⟨s73.a, s95.len, s73.cap⟩ 9 (elB.flat (es.take fs.length)) := by
      have h1 : Rd W (OwnS elB s73 es :: l) s73 9 (elB.flat es) := Rd.ownS
      have h1' : Rd W (LgR a b g :: OwnS elB s95 fs :: OwnS elB s73 es :: l) s73 9 (elB.flat es) := h1.cons.cons
      have h2 := h1'.hi (n := s95.len) (by omega)
      have e : (elB.flat es).take (s95.len * 9) = elB.flat (es.take fs.length) := by
        rw [l1.1]; exact flat_take (E := elB) es fs.length
      rw [e] at h2
      exact h2
    have hx : Rd W (LgR a b g :: OwnS elB s95 fs :: OwnS elB s73 es :: l) s95 9 (elB.flat fs) := (Rd.ownS (E := elB)).cons
    have hee : fs.map Dc.bd = (es.take fs.length).map Dc.bd := by rw [List.map_take]; exact heq
    refine samelist_ok (es := fs) (fs := es.take fs.length) h hx hy (fun e he => ?_) (fun e he => ?_) (fun e he => Bd.small (x := e.bd) (hsm e he)) (by omega) fun w101 h2 => tyI (k := .bool) ?_
    · obtain ⟨i, hi⟩ := List.getElem?_of_mem he
      exact (bt_rd hi h.tail).1.cons
    · obtain ⟨i, hi⟩ := List.getElem?_of_mem (List.mem_of_mem_take he)
      exact (bt_rd hi h.tail.tail).1.cons.cons
    · rw [@decide_eq_true _ (Classical.propDecidable _) hee]
      refine ifB_intro (fun c => absurd c (by simp)) fun _ => ?_
      refine fin_ok h2 hb fun w104 h3 => tyI (k := .int .i64) ?_
      refine ifB_dec (fun c => by omega) fun _ => ?_
      refine synced_ok h3 (tyI (k := .int .i64) ?_)
      refine fin_ok h3 hb fun w110 h4 => tyI (k := .int .i64) ?_
      refine ifB_bne (fun c => absurd hsy c) fun _ => ?_
      exact hK w110 (h4.cut 1 |>.cut 1)
set_option maxHeartbeats 2000000 in
theorem law_lasts8 {s : Sl} {xs : List Oq} (h : Sat W w l) (hl : Lai W l) (hx : OpsRd W l s xs) (hK : ∀ w', Sat W w' l → K (.bool true) w') : CallP P F_law08_SegLasts [s.v] w K := by
  apply c_law08_SegLasts
  unfold S_law08_SegLasts
  refine dkNew_ok h fun b w1 h1 => tyI (k := .ptr) ?_
  refine open_ok (n := logN) h1 hl rfl logN_ok (fun f hf => by simp [Dk.new, Dk.names] at hf) (by simp [Dk.new]) (fun f hf => by simp [Dk.new, Dk.names] at hf) fun a w4 _ _ h2 => tup2p ?_
  rw [(open_new logN).1, (open_new logN).2] at h2
  refine ⟨fun _ w' => Sat W w' (LgR a b ⟨logN, [], 0⟩ :: DkR b Dk.new :: l), ?_, ?_⟩
  · rintro _ w8 h3
    refine ⟨fun t w' => ∃ (j a : Nat) (g : Lg) (d : Dk) (gs : Gr) (part : List UInt8), t.1 = some ⟨a, 0, none⟩ ∧ t.2.1 = j ∧ j ≤ xs.length ∧ Lst logN g d gs part ∧ (allB gs).length ≤ j ∧ grFin gs ≤ 16 * j ∧ Sat W w' (LgR a b g :: DkR b d :: l), fun t _ => xs.length - t.2.1.toNat,
      ⟨0, a, _, _, [], [], rfl, rfl, Nat.zero_le _, Lst.new logN, Nat.le_refl _, Int.le_refl _, h3⟩, ?_⟩
    rintro ⟨tp, tj, u⟩ w14 ⟨j, a, g, d, gs, part, hp, hj, hjl, hL, hal, hfl, h4⟩
    simp only at hp hj ⊢
    subst hp; subst hj
    have hfew := hx.few
    have hsm : Small gs := ⟨hL.mem.start, by omega⟩
    have hft := mem_fit hL.mem hsm (by omega)
    have hsl := hx.len (R := LgR a b g :: DkR b d :: []) h4
    refine ifB_dec (fun c => ?_) fun c => hK w14 (h4.sel 2 [])
    have hjx : xs[j]? = some xs[j] := List.getElem?_eq_getElem (by omega)
    have hmem := List.mem_of_getElem? hjx
    generalize xs[j] = o at hjx hmem
    obtain ⟨hv, hnum, hb1, hb2, hnb⟩ := hx.el o hmem
    refine hx.at (R := LgR a b g :: DkR b d :: []) hjx h4 ?_
    refine allocB h4 (z := .agg zeroOq.cells.toArray) (by kernel_rfl) fun a17 w18 h5 => ?_
    have h5 : Sat W w18 (Blk a17 zeroOq.cells T_penstocklaw08_Op :: LgR a b g :: DkR b d :: l) := h5
    refine stAggB h5 (cs' := o.cells) rfl o.ones (by kernel_rfl) fun w19 h6 => ?_
    rw [w_i64 (n := (j : Int) + 1) (by omega) (by omega)]
    have dec : xs.length - ((j : Int) + 1).toNat < xs.length - (j : Int).toNat := by omega
    have h7 : Sat W w19 (LgR a b g :: DkR b d :: Blk a17 o.cells T_penstocklaw08_Op :: l) := h6.sel 3 [1, 2, 0]
    have hl' : Lai W (Blk a17 o.cells T_penstocklaw08_Op :: l) := hl.cons
    have hvo : VRd W (Blk a17 o.cells T_penstocklaw08_Op :: l) o.d := (hv [Blk a17 o.cells T_penstocklaw08_Op])
    have hN := mem_ends hL.mem (show (allB gs).length ≤ 2097152 by omega)
    have hnx : ∀ {m : Int}, RunQ (.int .i64) P (Instr.loadAt T_int (.pointer (some ((⟨a17, 0, none⟩ : Addr).add 10)))) w19 (fun n => n = o.n) := ldX h6 10 (x := o.n) rfl
    have ldB1 : ∀ {Kx : Value → Prop}, Kx (.agg o.d.cells.toArray) → RunQ .val P (Instr.loadAt T_api_Batch (.pointer (some ((⟨a17, 0, none⟩ : Addr).add 1)))) w19 Kx := fun {Kx} hk => ldAggX 1 9 h6 hk (by show 1 + 9 ≤ 11; decide)
    have puts : ∀ w', Sat W w' (LgR a b (g.put d { o.d.bd with ba := g.fin }).1 :: DkR b (g.put d { o.d.bd with ba := g.fin }).2.1 :: Blk a17 o.cells T_penstocklaw08_Op :: l) →
        (∃ (i a' : Nat) (g : Lg) (d : Dk) (gs : Gr) (part : List UInt8), some (⟨a, 0, none⟩ : Addr) = some ⟨a', 0, none⟩ ∧ (j : Int) + 1 = i ∧ i ≤ xs.length ∧ Lst logN g d gs part ∧ (allB gs).length ≤ i ∧ grFin gs ≤ 16 * i ∧ Sat W w' (LgR a' b g :: DkR b d :: l)) := fun w' h8 => by
      obtain ⟨gs', part', q1, q2, q3⟩ := hL.put (b := { o.d.bd with ba := g.fin }) ⟨logN_ok.1, logN_ok.2.1⟩ hsm (by
        have h1 := hft.fin
        have hnum : (-9223372036854775808 ≤ o.d.ba ∧ o.d.ba < 9223372036854775808) ∧ (-9223372036854775808 ≤ o.d.ep ∧ o.d.ep < 9223372036854775808) ∧ (0 ≤ o.d.pid ∧ o.d.pid < 18446744073709551616) ∧ (-9223372036854775808 ≤ o.d.pe ∧ o.d.pe < 9223372036854775808) ∧ (-9223372036854775808 ≤ o.d.sq ∧ o.d.sq < 9223372036854775808) := hnum
        exact ⟨⟨by show _ ≤ g.fin; omega, by show g.fin < _; omega⟩, hnum.2⟩) rfl
      exact ⟨j + 1, a, _, _, gs', part', rfl, by omega, by omega, q1, by omega, by omega, h8.sel 3 [0, 1]⟩
    refine ldX h6 0 (x := o.k) ?_
    refine ifB_beq (fun _ => ?_) fun _ => ?_
    · refine ldB1 ?_
      refine putStep_ok (Kn := fun w => _) h7 hl' hft (by rw [hL.mem.name]; exact logN_ok.2.1) hvo hnum hb1 hb2 fun w34 h8 => ⟨puts w34 h8, dec⟩
    refine ifB_beq (fun _ => ?_) fun _ => ?_
    · refine ldB1 ?_
      refine putStep_ok (Kn := fun w => _) h7 hl' hft (by rw [hL.mem.name]; exact logN_ok.2.1) hvo hnum hb1 hb2 fun w34 h8 => ⟨puts w34 h8, dec⟩
    refine ifB_beq (fun _ => ?_) fun _ => ?_
    · refine flush_ok h7 hft.b fun w52 h8 => tyI (k := .int .i64) ?_
      exact ⟨⟨j + 1, a, _, _, gs, part, rfl, by show (j : Int) + 1 = _; omega, by omega, hL.flush hsm, by omega, by omega, h8.sel 3 [0, 1]⟩, dec⟩
    have h8 : Sat W w19 (DkR b d :: LgR a b g :: Blk a17 o.cells T_penstocklaw08_Op :: l) := h7.swap
    have hok : DkOk d := by obtain ⟨_, _, _, hok, _⟩ := sat_dk.1 h8; exact hok
    have skip : ∃ (i a' : Nat) (g : Lg) (d : Dk) (gs : Gr) (part : List UInt8), some (⟨a, 0, none⟩ : Addr) = some ⟨a', 0, none⟩ ∧ (j : Int) + 1 = i ∧ i ≤ xs.length ∧ Lst logN g d gs part ∧ (allB gs).length ≤ i ∧ grFin gs ≤ 16 * i ∧ Sat W w19 (LgR a' b g :: DkR b d :: l) :=
      ⟨j + 1, a, _, _, gs, part, rfl, by omega, by omega, hL, by omega, by omega, h7.sel 3 [0, 1]⟩
    refine ifB_beq (fun _ => ?_) fun _ => ?_
    · refine dead_ok h8 (tyI (k := .bool) ?_)
      refine ifB_intro (fun hd => ?_) fun _ => ⟨skip, dec⟩
      have ha : d.dead = false := by simpa using hd
      have hp0 := hL.live ha
      subst hp0
      refine ldX h6 10 (x := o.n) ?_
      refine trunc_ok h7 hft.b hft.e hN hft.r (by have := gch_len hL.mem.chain; rw [hL.mem.segs]; unfold grSegs; rw [List.length_map]; omega) fun w59 h9 => tyI (k := .int .i64) ?_
      obtain ⟨gs', q1, q2, q3, q4⟩ := hL.trunc (to_ := o.n) ha hok.nodup hsm
      exact ⟨⟨j + 1, a, _, _, gs', [], rfl, by show (j : Int) + 1 = _; omega, by omega, q1, by omega, by omega, h9.sel 3 [0, 1]⟩, dec⟩
    refine ifB_beq (fun _ => ?_) fun _ => ?_
    · refine dead_ok h8 (tyI (k := .bool) ?_)
      refine ifB_intro (fun hd => ?_) fun _ => ⟨skip, dec⟩
      have ha : d.dead = false := by simpa using hd
      have hp0 := hL.live ha
      subst hp0
      refine ldX h6 10 (x := o.n) ?_
      refine drop_ok h7 (by have := gch_len hL.mem.chain; rw [hL.mem.segs]; unfold grSegs; rw [List.length_map]; omega) fun w66 h9 => tyI (k := .int .i64) ?_
      obtain ⟨gs', q1, q2, q3, q4⟩ := hL.drop (before := o.n) ha hok.nodup hsm
      exact ⟨⟨j + 1, a, _, _, gs', [], rfl, by show (j : Int) + 1 = _; omega, by omega, q1, by omega, by omega, h9.sel 3 [0, 1]⟩, dec⟩
    refine ifB_beq (fun _ => ?_) fun _ => ?_
    · refine start_ok h7 (tyI (k := .int .i64) ?_)
      refine read_ok (frm := g.start) (n := 1048576) h7 hft.b hft.c hft.n (hft.q _) hft.r fun s73 w72 h9 => tyI (k := .sl) ?_
      obtain ⟨es, hes, h10⟩ := sat_bt.1 h9
      have h11 : Sat W w72 (LgR a b g :: DkR b d :: OwnS elB s73 es :: Blk a17 o.cells T_penstocklaw08_Op :: l) := h10.sel 4 [1, 2, 0, 3]
      refine start_ok h11 (tyI (k := .int .i64) ?_)
      refine synced_ok h11 (tyI (k := .int .i64) ?_)
      refine ldX (h11.up 3) 10 (x := o.n) ?_
      have h12 : Sat W w72 (DkR b d :: OwnS elB s73 es :: LgR a b g :: Blk a17 o.cells T_penstocklaw08_Op :: l) := h11.sel 3 [1, 2, 0]
      refine crash_ok (keep := o.n) h12 fun w82 h13 => tupU rfl ?_
      have hok2 : DkOk (d.crash o.n) := by obtain ⟨_, _, _, hok, _⟩ := sat_dk.1 h13; exact hok
      obtain ⟨gs', q1, q2, ⟨t, q3⟩, q4, q5, q6, q7, q8⟩ := hL.crash hok hsm o.n
      refine open_ok (n := logN) h13 hl.cons.cons.cons rfl logN_ok q8 hok2.many (fun f hf => by
        obtain ⟨p, hp, rfl⟩ := List.mem_map.1 hf
        have := hok2.name p hp
        omega) fun a' w85 _ _ h14 => tup2p ?_
      have hst : g.start = grStart gs := by
        unfold Lg.start grStart
        rw [hL.mem.segs]
        cases gs <;> rfl
      have hst' : (opLg logN (d.crash o.n)).start = grStart gs' := by
        unfold Lg.start grStart
        rw [q1.mem.segs]
        cases gs' <;> rfl
      have hal' : (allB gs').length ≤ j := by
        have := congrArg List.length q3
        rw [List.length_append] at this
        omega
      have hsm' : Small gs' := ⟨q1.mem.start, by omega⟩
      have hft' := mem_fit q1.mem hsm' (by omega)
      have hfin' := mem_fin q1.mem
      have rd : ∀ {gs : Gr} {g : Lg} (hm : Mem logN g gs), (allB gs).length ≤ 1048576 → g.read (grStart gs) 1048576 = allB gs := fun {gs g} hm hlen => by
        unfold Lg.read
        rw [hm.segs, segB_gs fun p hp => (gch_mem hm.chain hp).1]
        unfold behind
        have hcm := chain_mem _ _ (gch_chain _ hm.chain).1
        rw [filter_all]
        · rw [List.take_of_length_le]
          show _ ≤ 1048576
          exact hlen
        · intro z hz
          have := hcm.2.2 z hz
          exact decide_eq_true (by omega)
      rw [hst] at hes
      rw [rd hL.mem (by omega)] at hes
      refine ⟨fun _ w' => Sat W w' (LgR a' b (opLg logN (d.crash o.n)) :: DkR b (opDk logN (d.crash o.n)) :: OwnS elB s73 es :: l), ?_, ?_⟩
      · rintro _ w89 h15
        refine start_ok h15 (tyI (k := .int .i64) ?_)
        refine read_ok (frm := (opLg logN (d.crash o.n)).start) (n := 1048576) h15 hft'.b hft'.c hft'.n (hft'.q _) hft'.r fun s95 w94 h16 => tyI (k := .sl) ?_
        obtain ⟨fs, hfs, h17⟩ := sat_bt.1 h16
        rw [hst', rd q1.mem (by omega)] at hfs
        have h18 : Sat W w94 (LgR a' b (opLg logN (d.crash o.n)) :: OwnS elB s95 fs :: OwnS elB s73 es :: DkR b (opDk logN (d.crash o.n)) :: l) := h17.sel 4 [1, 0, 3, 2]
        have hel : es.length = (allB gs).length := by rw [← hes]; simp
        have hflen : fs.length = (allB gs').length := by rw [← hfs]; simp
        have hle : fs.length ≤ es.length := by
          have := congrArg List.length q3
          rw [List.length_append] at this
          omega
        have heq : fs.map Dc.bd = (es.map Dc.bd).take fs.length := by
          rw [hfs, hes, q3, hflen, List.take_left]
        have hck : ∀ e ∈ fs, chk e = 0 := fun e he => by
          have h1 : e.bd ∈ allB gs' := by rw [← hfs]; exact List.mem_map_of_mem he
          exact (chain_ok _ _ (gch_chain _ q1.mem.chain).1 _ h1).1
        have done : ∀ w', Sat W w' (LgR a' b (opLg logN (d.crash o.n)) :: DkR b (opDk logN (d.crash o.n)) :: l) → (∃ (i a'' : Nat) (g : Lg) (d : Dk) (gs : Gr) (part : List UInt8), some (⟨a', 0, none⟩ : Addr) = some ⟨a'', 0, none⟩ ∧ (j : Int) + 1 = i ∧ i ≤ xs.length ∧ Lst logN g d gs part ∧ (allB gs).length ≤ i ∧ grFin gs ≤ 16 * i ∧ Sat W w' (LgR a'' b g :: DkR b d :: l)) := fun w' h19 =>
          ⟨j + 1, a', _, _, gs', [], rfl, by omega, by omega, q1, by omega, by omega, h19⟩
        refine ifB_dec (fun _ => ?_) fun _ => ?_
        · refine start_ok h18 (tyI (k := .int .i64) ?_)
          refine ifB_bne (fun c => absurd (by rw [hst, hst', q4]) c) fun _ => ?_
          exact lastsTail_ok (Kn := fun w => _) h18 hft'.b hle heq hck (by omega) (by rw [hfin']; exact q6) (by rw [hfin']; exact q7) fun w110 h19 => ⟨done w110 h19, dec⟩
        · exact lastsTail_ok (Kn := fun w => _) h18 hft'.b hle heq hck (by omega) (by rw [hfin']; exact q6) (by rw [hfin']; exact q7) fun w110 h19 => ⟨done w110 h19, dec⟩
      · refine ifB_intro (fun c => absurd c (by simp)) fun _ => ?_
        refine ifB_bne (fun c => absurd rfl c) fun _ => ?_
        exact h14.sel 5 [0, 1, 2]
    refine ifB_beq (fun _ => ?_) fun _ => ⟨skip, dec⟩
    refine ldX h6 10 (x := o.n) ?_
    refine arm_ok h8 hnb fun w127 h9 => tupU rfl ?_
    exact ⟨⟨j + 1, a, _, _, gs, part, rfl, by show (j : Int) + 1 = _; omega, by omega, hL.arm o.n, by omega, by omega, h9.sel 3 [1, 0]⟩, dec⟩
  · refine awake8_ok h2 hl.cons.cons fun w10 h3 => tyI (k := .bool) ?_
    refine ifB_intro (fun c => absurd c (by simp)) fun _ => ?_
    refine ifB_intro (fun c => absurd c (by simp)) fun _ => ?_
    refine ifB_bne (fun c => absurd rfl c) fun _ => h3
end
end Go.Proofs.YtbpcichakchpkaaGreatDoor
