/- Layer 9: a batch that stands in the log is taken note of. -/
import Derived.Test.YtnjadekngjgjcaaGreatDoorUE
namespace Go.Proofs.YtnjadekngjgjcaaGreatDoor
open Go Go.Pk
/-- what Apply does when the producer is there (lines of its form) -/
def applyRest (R : Value → World → Prop) (x0 : Option Addr) (a0 : Addr) (t14 : Option Addr × Unit) (w15 : World) : Prop :=
 JoinP (T := Unit) (fun J24 =>
 RunQ (.int .i64) P (Instr.loadAt T_int (.pointer (some (Go.Addr.add a0 3)))) w15.drew fun (n27 : Int) =>
 nilCk t14.fst fun (a28 : Addr) =>
 RunQ (.int .i64) P (Instr.loadAt T_int (.pointer (some (a28.add 0)))) w15.drew fun (n29 : Int) =>
 ifB (decide (n27 > n29))
 (RunQ (.int .i64) P (Instr.loadAt T_int (.pointer (some (Go.Addr.add a0 3)))) w15.drew fun (n30 : Int) =>
 nilCk t14.fst fun (a31 : Addr) =>
 StoreP P T_int (.pointer (some (a31.add 0))) (.int .i64 n30) w15.drew fun w32 =>
 nilCk t14.fst fun (a33 : Addr) =>
 StoreP P T_int (.pointer (some (a33.add 1))) (.int .i64 0) w32 fun w34 =>
 nilCk t14.fst fun (a35 : Addr) =>
 StoreP P T_sl_prod_seen (.pointer (some (a35.add 2))) (.slice none 0 0) w34 fun w36 =>
 J24 (some ()) w36)
 (J24 (some ()) w15.drew))
 fun t25 w26 =>
 RunQ .bool P (Instr.loadAt T_bool (.pointer (some (Go.Addr.add a0 6)))) w26 fun (b37 : Bool) =>
 ifB b37
 (JoinP (T := Unit) (fun J38 =>
 nilCk t14.fst fun (a41 : Addr) =>
 RunQ (.int .i64) P (Instr.loadAt T_int (.pointer (some (a41.add 3)))) w26 fun (n42 : Int) =>
 ifB (decide (n42 ≥ 0))
 (RunQ .bool P (Instr.loadAt T_bool (.pointer (some (Go.Addr.add a0 7)))) w26 fun (b43 : Bool) =>
 ifB (!b43)
 (∃ S44 : World → Prop, (S44 w26.drew) ∧
 nilCk x0 fun (a45 : Addr) =>
 HRun S44 (.int .u64) P (Instr.loadAt T_uint64 (.pointer (some (Go.Addr.add a0 2)))) fun (n46 : Int) =>
 nilCk t14.fst fun (a47 : Addr) =>
 HRun S44 (.int .i64) P (Instr.loadAt T_int (.pointer (some (a47.add 3)))) fun (n48 : Int) =>
 HRun S44 (.int .i64) P (Instr.loadAt T_int (.pointer (some (Go.Addr.add a0 0)))) fun (n49 : Int) =>
 (RunQ .sl P (Instr.loadAt T_sl_api_Abort (.pointer (some (a45.add 1)))) w26.drew fun (s50 : Sl) =>
 (S44 w26.drew) ∧
 RunK .sl P (Instr.buildSlice T_sl_api_Abort 1 #[(0, (.agg #[(.int .u64 n46), (.int .i64 n48), (.int .i64 n49)]))]) w26.drew fun (s51 : Sl) w52 =>
 (S44 w52) ∧
 RunK .sl P (Builtin.append_ #[T_sl_api_Abort, T_sl_api_Abort] T_sl_api_Abort #[s50.v, s51.v]) w52 fun (s53 : Sl) w54 =>
 (S44 w54) ∧
 nilCk x0 fun (a55 : Addr) =>
 StoreP P T_sl_api_Abort (.pointer (some (a55.add 1))) s53.v w54 fun w56 =>
 (S44 w56) ∧
 J38 (some ()) w56) ∧
 (RunK .sl P (Instr.buildSlice T_sl_api_Abort 1 #[(0, (.agg #[(.int .u64 n46), (.int .i64 n48), (.int .i64 n49)]))]) w26.drew fun (s57 : Sl) w58 =>
 (S44 w58) ∧
 RunQ .sl P (Instr.loadAt T_sl_api_Abort (.pointer (some (a45.add 1)))) w58 fun (s59 : Sl) =>
 (S44 w58) ∧
 RunK .sl P (Builtin.append_ #[T_sl_api_Abort, T_sl_api_Abort] T_sl_api_Abort #[s59.v, s57.v]) w58 fun (s60 : Sl) w61 =>
 (S44 w61) ∧
 nilCk x0 fun (a62 : Addr) =>
 StoreP P T_sl_api_Abort (.pointer (some (a62.add 1))) s60.v w61 fun w63 =>
 (S44 w63) ∧
 J38 (some ()) w63) ∧
 True)
 (J38 (some ()) w26))
 (J38 (some ()) w26))
 fun t39 w40 =>
 nilCk t14.fst fun (a64 : Addr) =>
 StoreP P T_int (.pointer (some (a64.add 3))) (.int .i64 (-1)) w40 fun w65 =>
 R (.tuple #[]) w65)
 (∃ S66 : World → Prop, (S66 w26.drew) ∧
 HRun S66 (.int .i64) P (Instr.loadAt T_int (.pointer (some (Go.Addr.add a0 4)))) fun (n67 : Int) =>
 HRun S66 .val P (Instr.loadAt T_api_Batch (.pointer (some a0))) fun (v68 : Value) =>
 CallP P F_batch_Size [v68] w26.drew fun (v69 : Value) w70 =>
 TyP (.int .i64) v69 fun (n71 : Int) =>
 (S66 w70) ∧
 nilCk t14.fst fun (a72 : Addr) =>
 StoreP P T_int (.pointer (some (a72.add 1))) (.int .i64 (IntKind.i64.wrap (n67 + n71))) w70 fun w73 =>
 (S66 w73) ∧
 JoinP (T := Unit) (fun J74 =>
 ∃ S77 : World → Prop, (S77 w73.drew) ∧
 nilCk t14.fst fun (a78 : Addr) =>
 HRun S77 (.int .i64) P (Instr.loadAt T_int (.pointer (some (Go.Addr.add a0 4)))) fun (n79 : Int) =>
 HRun S77 .val P (Instr.loadAt T_api_Batch (.pointer (some a0))) fun (v80 : Value) =>
 HRun S77 (.int .i64) P (Instr.loadAt T_int (.pointer (some (Go.Addr.add a0 0)))) fun (n81 : Int) =>
 (RunQ .sl P (Instr.loadAt T_sl_prod_seen (.pointer (some (a78.add 2)))) w73.drew fun (s82 : Sl) =>
 (S77 w73.drew) ∧
 CallP P F_batch_Size [v80] w73.drew fun (v83 : Value) w84 =>
 TyP (.int .i64) v83 fun (n85 : Int) =>
 (S77 w84) ∧
 HRun S77 .val P (Instr.build T_prod_seen #[(0, (.agg #[(.int .i64 n79), (.int .i64 n85)])), (1, (.int .i64 n81))]) fun (v86 : Value) =>
 RunK .sl P (Instr.buildSlice T_sl_prod_seen 1 #[(0, v86)]) w84 fun (s87 : Sl) w88 =>
 (S77 w88) ∧
 RunK .sl P (Builtin.append_ #[T_sl_prod_seen, T_sl_prod_seen] T_sl_prod_seen #[s82.v, s87.v]) w88 fun (s89 : Sl) w90 =>
 (S77 w90) ∧
 nilCk t14.fst fun (a91 : Addr) =>
 StoreP P T_sl_prod_seen (.pointer (some (a91.add 2))) s89.v w90 fun w92 =>
 (S77 w92) ∧
 J74 (some ()) w92) ∧
 (CallP P F_batch_Size [v80] w73.drew fun (v93 : Value) w94 =>
 TyP (.int .i64) v93 fun (n95 : Int) =>
 (S77 w94) ∧
 HRun S77 .val P (Instr.build T_prod_seen #[(0, (.agg #[(.int .i64 n79), (.int .i64 n95)])), (1, (.int .i64 n81))]) fun (v96 : Value) =>
 (RunQ .sl P (Instr.loadAt T_sl_prod_seen (.pointer (some (a78.add 2)))) w94 fun (s97 : Sl) =>
 (S77 w94) ∧
 RunK .sl P (Instr.buildSlice T_sl_prod_seen 1 #[(0, v96)]) w94 fun (s98 : Sl) w99 =>
 (S77 w99) ∧
 RunK .sl P (Builtin.append_ #[T_sl_prod_seen, T_sl_prod_seen] T_sl_prod_seen #[s97.v, s98.v]) w99 fun (s100 : Sl) w101 =>
 (S77 w101) ∧
 nilCk t14.fst fun (a102 : Addr) =>
 StoreP P T_sl_prod_seen (.pointer (some (a102.add 2))) s100.v w101 fun w103 =>
 (S77 w103) ∧
 J74 (some ()) w103) ∧
 (RunK .sl P (Instr.buildSlice T_sl_prod_seen 1 #[(0, v96)]) w94 fun (s104 : Sl) w105 =>
 (S77 w105) ∧
 RunQ .sl P (Instr.loadAt T_sl_prod_seen (.pointer (some (a78.add 2)))) w105 fun (s106 : Sl) =>
 (S77 w105) ∧
 RunK .sl P (Builtin.append_ #[T_sl_prod_seen, T_sl_prod_seen] T_sl_prod_seen #[s106.v, s104.v]) w105 fun (s107 : Sl) w108 =>
 (S77 w108) ∧
 nilCk t14.fst fun (a109 : Addr) =>
 StoreP P T_sl_prod_seen (.pointer (some (a109.add 2))) s107.v w108 fun w110 =>
 (S77 w110) ∧
 J74 (some ()) w110) ∧
 True) ∧
 True)
 fun t75 w76 =>
 JoinP (T := Unit) (fun J111 =>
 nilCk t14.fst fun (a114 : Addr) =>
 RunQ .sl P (Instr.loadAt T_sl_prod_seen (.pointer (some (a114.add 2)))) w76 fun (s115 : Sl) =>
 ifB (decide ((↑s115.len : Int) > 5))
 (nilCk t14.fst fun (a116 : Addr) =>
 RunQ .sl P (Instr.loadAt T_sl_prod_seen (.pointer (some (a116.add 2)))) w76 fun (s117 : Sl) =>
 RunQ .sl P (Instr.sliceAt T_sl_prod_seen s117.v (some (.int .i64 1)) none none) w76 fun (s118 : Sl) =>
 nilCk t14.fst fun (a119 : Addr) =>
 StoreP P T_sl_prod_seen (.pointer (some (a119.add 2))) s118.v w76 fun w120 =>
 J111 (some ()) w120)
 (J111 (some ()) w76))
 fun t112 w113 =>
 RunQ .bool P (Instr.loadAt T_bool (.pointer (some (Go.Addr.add a0 5)))) w113 fun (b121 : Bool) =>
 ifB b121
 (nilCk t14.fst fun (a122 : Addr) =>
 RunQ (.int .i64) P (Instr.loadAt T_int (.pointer (some (a122.add 3)))) w113 fun (n123 : Int) =>
 ifB (decide (n123 < 0))
 (RunQ (.int .i64) P (Instr.loadAt T_int (.pointer (some (Go.Addr.add a0 0)))) w113 fun (n124 : Int) =>
 nilCk t14.fst fun (a125 : Addr) =>
 StoreP P T_int (.pointer (some (a125.add 3))) (.int .i64 n124) w113 fun w126 =>
 R (.tuple #[]) w126)
 (R (.tuple #[]) w113))
 (R (.tuple #[]) w113))
theorem seen_build (x : Sn) (w : World) : (Instr.build T_prod_seen #[(0, (.agg #[(.int .i64 x.seq), (.int .i64 x.size)])), (1, (.int .i64 x.base))]).run P w = .ok (.agg (elSn.cells x).toArray) w := by kernel_rfl
section
variable {W w : World} {l : List Res} {K : Value → World → Prop} {a : Nat} {t : Pt9}
/-- a producer beside its table and the batch -/
abbrev PdQ (a b : Nat) (d : Dc) (m : Nat) (s : Sl) (es : List (Me Pd)) (i p : Nat) (ab : List Ab) (x : Pd) (q : Sl) (l : List Res) : List Res :=
  Blk p (pdcells x q) T_prod_producer :: SlR T_prod_seen 3 q (elSn.flat x.last) :: MpR .u64 m (es.map Me.kv) :: All ((es.map fun e => PdR e.p e.x).eraseIdx i) :: SlR T_api_Abort 3 s (elAb.flat ab) :: Blk a [.map (some m), s.v] T_prod_Table :: Blk b d.cells T_api_Batch :: l
theorem apply_ok {d : Dc} (h : Sat W w (PtR a t :: l)) (hv : VRd W l d) (hF : PtF t) (hK : ∀ w', Sat W w' (PtR a (t.apply d.bd) :: l) → K (.tuple #[]) w') :
    CallP P F_prod_Table_Apply [.pointer (some ⟨a, 0, none⟩), .agg d.cells.toArray] w K := by
  apply c_prod_Table_Apply
  unfold S_prod_Table_Apply
  refine boxB h fun b w1 h1 => ?_
  have h1 : Sat W w1 (Blk b d.cells T_api_Batch :: PtR a t :: l) := h1
  unfold Pt9.apply at hK
  simp only [show d.bd.pid = d.pid from rfl, show d.bd.ct = d.ct from rfl, show d.bd.sq = d.sq from rfl, show d.bd.cm = d.cm from rfl, show d.bd.tx = d.tx from rfl, show d.bd.ba = d.ba from rfl] at hK
  refine ⟨fun _ w' => d.pid ≠ 0 ∧ w' = w1, ?_, ?_⟩
  · rintro _ w4 ⟨c0, hw⟩
    subst hw
    rw [if_neg c0] at hK
    obtain ⟨m, s, es, hes, h3⟩ := sat_pt.1 h1.drew.swap
    have hf : t.find d.pid = getA (es.map Me.kx) d.pid := by unfold Pt9.find; rw [hes]
    have hb : ∀ {w' es}, Sat W w' (PtL a t m s es (Blk b d.cells T_api_Batch :: l)) → Sat W w' (Blk b d.cells T_api_Batch :: PtL a t m s es l) := fun h => h.sel 5 [4, 0, 1, 2, 3]
    let S : World → Prop := fun w => Sat W w (PtL a t m s es (Blk b d.cells T_api_Batch :: l))
    refine ⟨S, h3, ?_⟩
    refine hldX (S := S) (b := a) (fun w hw => ⟨_, hw⟩) 0 (x := some m) ?_
    refine hldX (S := S) (b := b) (fun w hw => ⟨_, hb hw⟩) 2 (x := d.pid) ?_
    -- what follows when the producer's entry is there
    let Inv : Option Addr × Unit → World → Prop := fun z w' => ∃ es i e, es[i]? = some e ∧ z.1 = some ⟨e.p, 0, none⟩ ∧ (∀ y, setA t.ps d.pid y = (es.set i ⟨e.k, e.p, y⟩).map Me.kx) ∧ Pt9.fresh (t.find d.pid) d.bd = Pt9.fresh (some e.x) d.bd ∧ e.x.last.length ≤ 5 ∧ Sat W w' (PtL a t m s es (Blk b d.cells T_api_Batch :: l))
    have rest : ∀ z w', Inv z w' → applyRest K (some ⟨a, 0, none⟩) ⟨b, 0, none⟩ z w' := by
      rintro ⟨z, u⟩ w' ⟨es, i, e, hi, hz, hset, hfr, hl5, h4⟩
      simp only at hz
      subst hz
      unfold applyRest
      simp only [hset, hfr] at hK
      obtain ⟨q, h5⟩ := pd_open hi h4
      have hcl : ∀ {w' y q ab}, Sat W w' (PdQ a b d m s es i e.p ab y q l) → Sat W w' (PtR a ⟨(es.set i ⟨e.k, e.p, y⟩).map Me.kx, ab⟩ :: l) := fun h => (pd_close hi h).cut 1
      have hB : ∀ {w' ab y q}, Sat W w' (PdQ a b d m s es i e.p ab y q l) → Sat W w' (Blk b d.cells T_api_Batch :: Blk e.p (pdcells y q) T_prod_producer :: SlR T_prod_seen 3 q (elSn.flat y.last) :: MpR .u64 m (es.map Me.kv) :: All ((es.map fun e => PdR e.p e.x).eraseIdx i) :: SlR T_api_Abort 3 s (elAb.flat ab) :: Blk a [.map (some m), s.v] T_prod_Table :: l) := fun h => h.sel 7 [6, 0, 1, 2, 3, 4, 5]
      refine ⟨fun _ w' => ∃ x q, x = Pt9.fresh (some e.x) d.bd ∧ x.last.length ≤ 5 ∧ Sat W w' (PdQ a b d m s es i e.p t.ab x q l), ?_, ?_⟩
      · rintro _ w26 ⟨x, q, hx, hxl, h6⟩
        rw [← hx] at hK
        clear hx h5 h4
        refine ldX (hB h6) 6 (x := d.ct) ?_
        refine ifB_intro (fun hct => ?_) fun hct => ?_
        · rw [if_pos hct] at hK
          have hO : ∀ {w' ab q}, Sat W w' (PdQ a b d m s es i e.p ab x q l) → ∃ L, Sat W w' (Blk e.p (pdcells x q) T_prod_producer :: Blk b d.cells T_api_Batch :: L) := fun h => ⟨_, (hB h).swap⟩
          refine ⟨fun _ w' => ∃ s' , Sat W w' (Blk e.p (pdcells x q) T_prod_producer :: SlR T_prod_seen 3 q (elSn.flat x.last) :: MpR .u64 m (es.map Me.kv) :: All ((es.map fun e => PdR e.p e.x).eraseIdx i) :: SlR T_api_Abort 3 s' (elAb.flat (if x.opn ≥ 0 ∧ d.cm = false then t.ab ++ [⟨d.pid, x.opn, d.ba⟩] else t.ab)) :: Blk a [.map (some m), s'.v] T_prod_Table :: Blk b d.cells T_api_Batch :: l), ?_, ?_⟩
          · rintro _ w40 ⟨s', h7⟩
            refine stX h7 3 (v := .int .i64 (-1)) (hi := (by show 3 < 4; decide)) fun w65 h8 => hK w65 ?_
            have h9 : Sat W w65 (PdQ a b d m s' es i e.p (if x.opn ≥ 0 ∧ d.cm = false then t.ab ++ [⟨d.pid, x.opn, d.ba⟩] else t.ab) { x with opn := -1 } q l) := h8
            exact (pd_close hi h9).cut 1
          · refine ldX h6 3 (x := x.opn) ?_
            refine ifB_dec (fun c1 => ?_) fun c1 => ?_
            · refine ldX (hB h6) 7 (x := d.cm) ?_
              refine ifB_intro (fun c2 => ?_) fun c2 => ?_
              · have c2 : d.cm = false := by simpa using c2
                rw [if_pos ⟨c1, c2⟩]
                have hab := ab_len (h6.drew.up 4)
                have hm := hF.ab
                let S3 : World → Prop := fun w => ∃ L, Sat W w (Blk e.p (pdcells x q) T_prod_producer :: Blk b d.cells T_api_Batch :: L)
                refine ⟨S3, hO h6.drew, ?_⟩
                refine hldX (S := S3) (b := b) (fun w hw => by obtain ⟨L, hw⟩ := hw; exact ⟨_, hw.swap⟩) 2 (x := d.pid) ?_
                refine hldX (S := S3) (b := e.p) (fun w hw => by obtain ⟨L, hw⟩ := hw; exact ⟨_, hw⟩) 3 (x := x.opn) ?_
                refine hldX (S := S3) (b := b) (fun w hw => by obtain ⟨L, hw⟩ := hw; exact ⟨_, hw.swap⟩) 0 (x := d.ba) ?_
                let y : Ab := ⟨d.pid, x.opn, d.ba⟩
                have fin : ∀ {w' gb}, Sat W w' (Blk gb (elAb.cells y) T_api_Abort :: PdQ a b d m s es i e.p t.ab x q l) → ∀ {J : World → Prop}, (∀ s' w', Sat W w' (Blk e.p (pdcells x q) T_prod_producer :: SlR T_prod_seen 3 q (elSn.flat x.last) :: MpR .u64 m (es.map Me.kv) :: All ((es.map fun e => PdR e.p e.x).eraseIdx i) :: SlR T_api_Abort 3 s' (elAb.flat (t.ab ++ [y])) :: Blk a [.map (some m), s'.v] T_prod_Table :: Blk b d.cells T_api_Batch :: l) → J w') →
                    RunK .sl P (Builtin.append_ #[T_sl_api_Abort, T_sl_api_Abort] T_sl_api_Abort #[s.v, (⟨some ⟨gb, 0, none⟩, 1, 1⟩ : Sl).v]) w' fun (s53 : Sl) w54 => S3 w54 ∧ StoreP P T_sl_api_Abort (.pointer (some ((⟨a, 0, none⟩ : Addr).add 1))) s53.v w54 fun w56 => S3 w56 ∧ J w56 := fun {w' gb} h7 {J} hJ => by
                  refine appB et_abs (by decide) (s := s) (x := ⟨some ⟨gb, 0, none⟩, 1, 1⟩) (news := elAb.cells y) (h7.up 5) (rdBlk ((h7.up 5).up 1) rfl) (elAb.one _) (by show (s.len + 1) * _ ≤ _; omega) (by show s.len + 1 < _; omega) fun s53 w54 h8 _ => ?_
                  have e7 : elAb.flat t.ab ++ elAb.cells y = elAb.flat (t.ab ++ [y]) := by rw [flat_app, flat_one]
                  rw [e7] at h8
                  have h9 : Sat W w54 (Blk a [.map (some m), s.v] T_prod_Table :: Blk e.p (pdcells x q) T_prod_producer :: Blk b d.cells T_api_Batch :: SlR T_prod_seen 3 q (elSn.flat x.last) :: MpR .u64 m (es.map Me.kv) :: All ((es.map fun e => PdR e.p e.x).eraseIdx i) :: SlR T_api_Abort 3 s53 (elAb.flat (t.ab ++ [y])) :: l) := h8.sel 8 [6, 2, 7, 3, 4, 5, 0]
                  refine ⟨⟨_, h9.tail⟩, ?_⟩
                  refine stX h9 1 (v := s53.v) fun w56 h10 => ⟨⟨_, h10.tail⟩, hJ s53 w56 (h10.sel 7 [1, 3, 4, 5, 6, 0, 2])⟩
                have hbs : ∀ {w'} {J : Sl → World → Prop}, Sat W w' (PdQ a b d m s es i e.p t.ab x q l) → (∀ gb w', Sat W w' (Blk gb (elAb.cells y) T_api_Abort :: PdQ a b d m s es i e.p t.ab x q l) → S3 w' ∧ J ⟨some ⟨gb, 0, none⟩, 1, 1⟩ w') → RunK .sl P (Instr.buildSlice T_sl_api_Abort 1 #[(0, (.agg #[(.int .u64 d.pid), (.int .i64 x.opn), (.int .i64 d.ba)]))]) w' fun s w => S3 w ∧ J s w := fun h7 hJ =>
                  bsB h7 (cs := elAb.cells y) (e := T_api_Abort) (fun w => by kernel_rfl) fun gb w15 h8 => hJ gb w15 h8
                refine ⟨?_, ?_, trivial⟩
                · refine ldX (h6.drew.up 5) 1 (x := s) ⟨hO h6.drew, ?_⟩
                  refine hbs h6.drew fun gb w52 h8 => ⟨hO h8.tail, ?_⟩
                  exact fin h8 fun s' w' h => ⟨s', h⟩
                · refine hbs h6.drew fun gb w52 h8 => ⟨hO h8.tail, ?_⟩
                  refine ldX (h8.up 6) 1 (x := s) ⟨hO h8.tail, ?_⟩
                  exact fin h8 fun s' w' h => ⟨s', h⟩
              · have c2 : d.cm = true := by simpa using c2
                exact ⟨s, by rw [if_neg (by rw [c2]; simp)]; exact h6⟩
            · exact ⟨s, by rw [if_neg (fun c => c1 c.1)]; exact h6⟩
        · rw [if_neg (by rw [hct]; simp)] at hK
          have hO : ∀ {w' ab y q}, Sat W w' (PdQ a b d m s es i e.p ab y q l) → ∃ L, Sat W w' (Blk b d.cells T_api_Batch :: L) := fun h => ⟨_, hB h⟩
          let S3 : World → Prop := fun w => ∃ L, Sat W w (Blk b d.cells T_api_Batch :: L)
          have hS3 : ∀ w, S3 w → ∃ L, Sat W w (Blk b d.cells T_api_Batch :: L) := fun w h => h
          refine ⟨S3, hO h6.drew, ?_⟩
          refine hldX hS3 4 (x := d.sq) ?_
          refine hldAggX (b := b) 0 9 hS3 ?_ (by show 0 + 9 ≤ 9; decide)
          refine size_ok (d := d) h6.drew hv.cons.cons.cons.cons.cons.cons.cons fun w70 h7 => tyI (k := .int .i64) ⟨hO h7, ?_⟩
          refine stX h7 1 (v := .int .i64 (IntKind.i64.wrap (d.sq + (if d.ct then 1 else (d.bs.length : Int))))) (hi := (by show 1 < 4; decide)) fun w73 h8 => ?_
          have h8 : Sat W w73 (PdQ a b d m s es i e.p t.ab { x with next := IntKind.i64.wrap (d.sq + d.bd.size) } q l) := h8
          refine ⟨hO h8, ?_⟩
          have hcap : q.len = x.last.length ∧ q.len ≤ q.cap ∧ q.cap < 2 ^ 63 := sn_len (h8.up 1)
          let y : Sn := ⟨d.sq, d.bd.size, d.ba⟩
          let x2 : Pd := { x with next := IntKind.i64.wrap (d.sq + d.bd.size), last := x.last ++ [y] }
          refine ⟨fun _ w' => ∃ q, Sat W w' (PdQ a b d m s es i e.p t.ab x2 q l), ?_, ?_⟩
          · rintro _ w76 ⟨q2, h9⟩
            have hcap2 := sn_len (h9.up 1)
            refine ⟨fun _ w' => ∃ q, Sat W w' (PdQ a b d m s es i e.p t.ab { x2 with last := Pt9.window (x.last ++ [y]) } q l), ?_, ?_⟩
            · rintro _ w113 ⟨q3, h10⟩
              refine ldX (hB h10) 5 (x := d.tx) ?_
              refine ifB_intro (fun c1 => ?_) fun c1 => ?_
              · refine ldX h10 3 (x := x.opn) ?_
                refine ifB_dec (fun c2 => ?_) fun c2 => ?_
                · refine ldX (hB h10) 0 (x := d.ba) ?_
                  rw [if_pos ⟨c1, c2⟩] at hK
                  refine stX h10 3 (v := .int .i64 d.ba) (hi := (by show 3 < 4; decide)) fun w65 h11 => hK w65 ?_
                  exact hcl (y := { x2 with last := Pt9.window (x.last ++ [y]), opn := d.ba }) h11
                · rw [if_neg (fun c => c2 c.2)] at hK
                  exact hK _ (hcl h10)
              · rw [if_neg (fun c => by rw [c1] at c; simp at c)] at hK
                exact hK _ (hcl h10)
            · refine ldX h9 2 (x := q2) ?_
              have hx2 : x2.last.length = x.last.length + 1 := by show (x.last ++ [y]).length = _; simp
              refine ifB_dec (fun c1 => ?_) fun c1 => ?_
              · refine ldX h9 2 (x := q2) ?_
                refine ⟨_, run_sliceLo et_sns (s := q2) (lo := 1) (by omega) (by omega) hcap2.2.1 w76, ?_⟩
                refine stX h9 2 (v := Sl.v (subSl q2 3 1 q2.len)) (hi := (by show 2 < 4; decide)) fun w120 h10 => ⟨subSl q2 3 1 q2.len, ?_⟩
                have h11 := slr_drop (h10.up 1) (k := 1) (by omega)
                have e9 : (elSn.flat x2.last).drop (1 * 3) = elSn.flat (x2.last.drop 1) := flat_drop (E := elSn) x2.last 1
                rw [e9] at h11
                have e10 : Pt9.window (x.last ++ [y]) = x2.last.drop 1 := by
                  unfold Pt9.window
                  rw [if_pos (by show (x.last ++ [y]).length > 5; have : (x.last ++ [y]).length = x2.last.length := rfl; omega)]
                rw [e10]
                exact h11.swap
              · have e10 : Pt9.window (x.last ++ [y]) = x2.last := by
                  unfold Pt9.window
                  rw [if_neg (by show ¬ (x.last ++ [y]).length > 5; have : (x.last ++ [y]).length = x2.last.length := rfl; omega)]
                rw [e10]
                exact ⟨q2, h9⟩
          · refine ⟨S3, hO h8.drew, ?_⟩
            refine hldX hS3 4 (x := d.sq) ?_
            refine hldAggX (b := b) 0 9 hS3 ?_ (by show 0 + 9 ≤ 9; decide)
            refine hldX hS3 0 (x := d.ba) ?_
            let x1 : Pd := { x with next := IntKind.i64.wrap (d.sq + d.bd.size) }
            have fin : ∀ {w' gb}, Sat W w' (Blk gb (elSn.cells y) T_prod_seen :: PdQ a b d m s es i e.p t.ab x1 q l) → ∀ {J : World → Prop}, (∀ q' w', Sat W w' (PdQ a b d m s es i e.p t.ab x2 q' l) → J w') →
                RunK .sl P (Builtin.append_ #[T_sl_prod_seen, T_sl_prod_seen] T_sl_prod_seen #[q.v, (⟨some ⟨gb, 0, none⟩, 1, 1⟩ : Sl).v]) w' fun (s53 : Sl) w54 => S3 w54 ∧ StoreP P T_sl_prod_seen (.pointer (some ((⟨e.p, 0, none⟩ : Addr).add 2))) s53.v w54 fun w56 => S3 w56 ∧ J w56 := fun {w' gb} h7 {J} hJ => by
              refine appB et_sns (by decide) (s := q) (x := ⟨some ⟨gb, 0, none⟩, 1, 1⟩) (news := elSn.cells y) (h7.up 2) (rdBlk ((h7.up 2).up 1) rfl) (elSn.one _) (by show (q.len + 1) * _ ≤ _; omega) (by show q.len + 1 < _; omega) fun s53 w54 h8 _ => ?_
              have e7 : elSn.flat x1.last ++ elSn.cells y = elSn.flat x2.last := by show _ = elSn.flat (x.last ++ [y]); rw [flat_app, flat_one]
              rw [e7] at h8
              have h9 : Sat W w54 (Blk e.p (pdcells x1 q) T_prod_producer :: SlR T_prod_seen 3 s53 (elSn.flat x2.last) :: MpR .u64 m (es.map Me.kv) :: All ((es.map fun e => PdR e.p e.x).eraseIdx i) :: SlR T_api_Abort 3 s (elAb.flat t.ab) :: Blk a [.map (some m), s.v] T_prod_Table :: Blk b d.cells T_api_Batch :: l) := h8.sel 8 [2, 0, 3, 4, 5, 6, 7]
              refine ⟨⟨_, h9.sel 7 [6, 0]⟩, ?_⟩
              refine stX h9 2 (v := s53.v) (hi := (by show 2 < 4; decide)) fun w56 h10 => ⟨⟨_, h10.sel 7 [6, 0]⟩, hJ s53 w56 h10⟩
            have hbs : ∀ {w'} {J : Sl → World → Prop}, Sat W w' (PdQ a b d m s es i e.p t.ab x1 q l) → (∀ gb w', Sat W w' (Blk gb (elSn.cells y) T_prod_seen :: PdQ a b d m s es i e.p t.ab x1 q l) → S3 w' ∧ J ⟨some ⟨gb, 0, none⟩, 1, 1⟩ w') → RunK .sl P (Instr.buildSlice T_sl_prod_seen 1 #[(0, (.agg (elSn.cells y).toArray))]) w' fun s w => S3 w ∧ J s w := fun h7 hJ =>
              bsB h7 (cs := elSn.cells y) (e := T_prod_seen) (fun w => by kernel_rfl) fun gb w15 h8 => hJ gb w15 h8
            refine ⟨?_, ?_, trivial⟩
            · refine ldX h8.drew 2 (x := q) ⟨hO h8.drew, ?_⟩
              refine size_ok (d := d) h8.drew hv.cons.cons.cons.cons.cons.cons.cons fun w84 h9 => tyI (k := .int .i64) ⟨hO h9, ?_⟩
              refine ⟨.agg (elSn.cells y).toArray, fun w _ => seen_build y w, ?_⟩
              refine hbs h9 fun gb w52 h10 => ⟨hO h10.tail, ?_⟩
              exact fin h10 fun s' w' h => ⟨s', h⟩
            · refine size_ok (d := d) h8.drew hv.cons.cons.cons.cons.cons.cons.cons fun w84 h9 => tyI (k := .int .i64) ⟨hO h9, ?_⟩
              refine ⟨.agg (elSn.cells y).toArray, fun w _ => seen_build y w, ?_⟩
              refine ⟨?_, ?_, trivial⟩
              · refine ldX h9 2 (x := q) ⟨hO h9, ?_⟩
                refine hbs h9 fun gb w52 h10 => ⟨hO h10.tail, ?_⟩
                exact fin h10 fun s' w' h => ⟨s', h⟩
              · refine hbs h9 fun gb w52 h10 => ⟨hO h10.tail, ?_⟩
                refine ldX (h10.up 1) 2 (x := q) ⟨hO h10.tail, ?_⟩
                exact fin h10 fun s' w' h => ⟨s', h⟩
      · have h6 : Sat W w'.drew (PdQ a b d m s es i e.p t.ab e.x q l) := h5.drew
        refine ldX (hB h6) 3 (x := d.pe) ?_
        refine ldX h6 0 (x := e.x.epoch) ?_
        refine ifB_dec (fun c => ?_) fun c => ?_
        · refine ldX (hB h6) 3 (x := d.pe) ?_
          refine stX h6 0 (v := .int .i64 d.pe) (hi := (by show 0 < 4; decide)) fun w32 h7 => ?_
          refine stX h7 1 (v := .int .i64 0) (hi := (by show 1 < 4; decide)) fun w34 h8 => ?_
          refine stX h8 2 (v := Sl.v ⟨none, 0, 0⟩) (hi := (by show 2 < 4; decide)) fun w36 h9 => ?_
          have h10 := Sat.nilSlr (h9.cut 1) T_prod_seen 3
          refine ⟨{ e.x with epoch := d.pe, next := 0, last := [] }, ⟨none, 0, 0⟩, ?_, Nat.zero_le _, h10.swap⟩
          unfold Pt9.fresh
          simp only
          rw [if_pos (by exact c)]
          rfl
        · refine ⟨e.x, q, ?_, hl5, h6⟩
          unfold Pt9.fresh
          simp only
          rw [if_neg (by exact c)]
    refine mpLook ul_ps (by kernel_rfl) (fun w => by kernel_rfl) h3.tail (fun g0 gs gp => tyI (k := .ptr) (x := none) ⟨h3, ⟨Inv, ?_, ?_⟩⟩) fun i e hi hk hg gs => tyI (k := .ptr) (x := some ⟨e.p, 0, none⟩) ⟨h3, ⟨Inv, ?_, ?_⟩⟩
    · exact rest
    · refine ifB_intro (fun _ => ?_) fun c => absurd c (by simp)
      refine ldX (hb h3) 3 (x := d.pe) ?_
      refine boxB h3 fun p w18 h4 => ?_
      have h4 : Sat W w18 (Blk p (pdcells ⟨d.pe, 0, [], -1⟩ ⟨none, 0, 0⟩) T_prod_producer :: PtL a t m s es (Blk b d.cells T_api_Batch :: l)) := h4
      have h5 := Sat.nilSlr h4 T_prod_seen 3
      have h6 : Sat W w18 (PdR p ⟨d.pe, 0, [], -1⟩ :: PtL a t m s es (Blk b d.cells T_api_Batch :: l)) := sat_pd.2 ⟨⟨none, 0, 0⟩, h5.swap⟩
      let S2 : World → Prop := fun w => ∃ L, Sat W w (Blk a [.map (some m), s.v] T_prod_Table :: Blk b d.cells T_api_Batch :: L)
      refine ⟨S2, ⟨_, h6.drew.sel 6 [1, 5, 0, 2, 3, 4]⟩, ?_⟩
      refine hldX (S := S2) (b := a) (fun w hw => by obtain ⟨L, hw⟩ := hw; exact ⟨_, hw⟩) 0 (x := some m) ?_
      refine hldX (S := S2) (b := b) (fun w hw => by obtain ⟨L, hw⟩ := hw; exact ⟨_, hw.swap⟩) 2 (x := d.pid) ?_
      have h7 : Sat W w18.drew (PdR p ⟨d.pe, 0, [], -1⟩ :: MpL .u64 m PdR es (SlR T_api_Abort 3 s (elAb.flat t.ab) :: Blk a [.map (some m), s.v] T_prod_Table :: Blk b d.cells T_api_Batch :: l)) := h6.drew.sel 6 [0, 2, 3, 4, 1, 5]
      refine mpNew ul_ps (by kernel_rfl) h7 gp fun w23 h8 => ?_
      have h9 : Sat W w23 (PtL a t m s (es ++ [⟨d.pid, p, ⟨d.pe, 0, [], -1⟩⟩]) (Blk b d.cells T_api_Batch :: l)) := h8.sel 5 [3, 0, 1, 2, 4]
      refine ⟨⟨_, h9.sel 5 [0, 4, 1, 2, 3]⟩, es ++ [⟨d.pid, p, ⟨d.pe, 0, [], -1⟩⟩], es.length, ⟨d.pid, p, ⟨d.pe, 0, [], -1⟩⟩, by simp, rfl, fun y => ?_, ?_, Nat.zero_le _, h9⟩
      · rw [← hes, gs y]; simp [Me.kx]
      · rw [hf, g0]
        unfold Pt9.fresh
        simp only
        rw [if_neg (by show ¬ d.pe > d.pe; omega)]
        rfl
    · exact rest
    · refine ifB_intro (fun c => absurd c (by simp)) fun _ => ?_
      exact ⟨es, i, e, hi, rfl, fun y => by rw [← hes]; exact gs y, by rw [hf, hg], hF.last e.kx (by rw [← hes]; exact List.mem_map.2 ⟨e, List.mem_of_getElem? hi, rfl⟩), h3⟩
  · refine ifB_intro (fun c => absurd c (by simp)) fun _ => ?_
    refine ldX h1 2 (x := d.pid) ?_
    refine ifB_beq (fun c => ?_) fun c => ⟨c, rfl⟩
    rw [if_pos c] at hK
    exact hK w1 h1.tail
end
end Go.Proofs.YtnjadekngjgjcaaGreatDoor
