/- Layer 9: whether a batch may come next. -/
import Derived.Test.YtnjadekngjgjcaaGreatDoorUD
import Derived.Test.YtnjadekngjgjcaaGreatDoorE5
namespace Go.Proofs.YtnjadekngjgjcaaGreatDoor
open Go Go.Pk
section
variable {W w : World} {l : List Res} {K : Value → World → Prop} {a : Nat} {t : Pt9}
set_option maxRecDepth 20000 in
theorem keyEq {p q : Int × Int} {S : World → Prop} {K : Bool → Prop} (hK : K (decide (p.1 = q.1 ∧ p.2 = q.2))) :
    HRun S .bool P (do (eqGuard .eql T_prod_key (.tmp 0) (.tmp 0) (.agg #[.int .i64 p.1, .int .i64 p.2]) (.agg #[.int .i64 q.1, .int .i64 q.2])); (binOp .eql T_prod_key (.agg #[.int .i64 p.1, .int .i64 p.2]) (.agg #[.int .i64 q.1, .int .i64 q.2]))) K := by
  refine ⟨_, fun w _ => ?_, hK⟩
  have hm : P.eqGuardType P.depth T_prod_key = false := by kernel_rfl
  have ht : P.underlying T_prod_key = some (.struct (P.fieldsOf T_prod_key)) := by kernel_rfl
  have hp : P.stoodInHeld T_prod_key = false := by kernel_rfl
  have hi : P.underlying T_int = some (.int .i64) := by kernel_rfl
  have hq : ∃ f g, (P.fieldsOf T_prod_key).toList = [f, g] ∧ (f.type = T_int ∧ f.offset = 0 ∧ (f.name == "_") = false) ∧ (g.type = T_int ∧ g.offset = 1 ∧ (g.name == "_") = false) :=
    ⟨(P.fieldsOf T_prod_key)[0]!, (P.fieldsOf T_prod_key)[1]!, by kernel_rfl, ⟨by kernel_rfl, by kernel_rfl, by kernel_rfl⟩, ⟨by kernel_rfl, by kernel_rfl, by kernel_rfl⟩⟩
  have hf : ∀ w, (Op.eqFields 9999 #[.int .i64 p.1, .int .i64 p.2] #[.int .i64 q.1, .int .i64 q.2] (P.fieldsOf T_prod_key).toList).run P w = .ok (decide (p.1 = q.1 ∧ p.2 = q.2)) w := by
    obtain ⟨f, g, hfg, ⟨f1, f2, f3⟩, ⟨g1, g2, g3⟩⟩ := hq
    intro w
    have f3 : ¬ f.name = "_" := by simpa using f3
    have g3 : ¬ g.name = "_" := by simpa using g3
    have e : ∀ (x y : Int) w, (Op.equalIn 9999 T_int (.int .i64 x) (.int .i64 y)).run P w = .ok (x == y) w := fun x y w => run_equalIn_int w 9998 T_int .i64 .i64 x y hi
    have p0 : ∀ (x y : Int) w, (part T_int #[.int .i64 x, .int .i64 y] 0).run P w = .ok (.int .i64 x) w := fun x y w => by kernel_rfl
    have p1 : ∀ (x y : Int) w, (part T_int #[.int .i64 x, .int .i64 y] 1).run P w = .ok (.int .i64 y) w := fun x y w => by kernel_rfl
    rw [hfg]
    simp only [Op.eqFields, ne_eq, f3, g3, not_false_eq_true, if_true, f1, f2, g1, g2, Sem.run_bind, p0, p1, Result.andThen_ok, e, Sem.run_ite]
    by_cases c1 : p.1 = q.1 <;> by_cases c2 : p.2 = q.2 <;> simp [c1, c2, Sem.run]
  rw [Sem.run_bind, run_eqGuard_agg (hm := hm)]
  simp only [Result.andThen_ok]
  rw [run_eql_struct, run_equalIn_agg (ht := ht) (hp := hp), hf]
  rfl
def chkV (x : Int × Bool × Int) : Value := .tuple #[.int .i64 x.1, .bool x.2.1, .int .i64 x.2.2]
theorem prodCheck_ok {d : Dc} (h : Sat W w (PtR a t :: l)) (hv : VRd W l d) (hF : PtF t) (hK : ∀ w', Sat W w' (PtR a t :: l) → K (chkV (t.check d.bd)) w') :
    CallP P F_prod_Table_Check [.pointer (some ⟨a, 0, none⟩), .agg d.cells.toArray] w K := by
  apply c_prod_Table_Check
  unfold S_prod_Table_Check
  refine boxB h fun b w1 h1 => ?_
  have h1 : Sat W w1 (Blk b d.cells T_api_Batch :: PtR a t :: l) := h1
  unfold Pt9.check at hK
  rw [chk_bd] at hK
  simp only [show d.bd.pid = d.pid from rfl, show d.bd.pe = d.pe from rfl, show d.bd.ct = d.ct from rfl, show d.bd.sq = d.sq from rfl, show d.bd.size = (if d.ct then 1 else (d.bs.length : Int)) from rfl] at hK
  refine ifB_intro (fun c => absurd c (by simp)) fun _ => ?_
  refine ldAggB h1 (by kernel_rfl) ?_
  refine check_ok h1 hv.cons.cons fun w4 h2 => tyI (k := .int .i64) ?_
  refine ifB_bne (fun c => ?_) fun c => ?_
  · rw [if_pos c] at hK
    exact hK w4 h2.tail
  rw [if_neg (by rw [c]; simp)] at hK
  obtain ⟨m, s, es, hes, h3⟩ := sat_pt.1 h2.drew.swap
  have hf : t.find d.pid = getA (es.map Me.kx) d.pid := by unfold Pt9.find; rw [hes]
  have hb : ∀ {w'}, Sat W w' (PtL a t m s es (Blk b d.cells T_api_Batch :: l)) → Sat W w' (Blk b d.cells T_api_Batch :: PtL a t m s es l) := fun h => h.sel 5 [4, 0, 1, 2, 3]
  have hback : ∀ {w'}, Sat W w' (PtL a t m s es (Blk b d.cells T_api_Batch :: l)) → Sat W w' (PtR a t :: l) := fun h => (sat_pt.2 ⟨m, s, es, hes, h⟩).cut 1
  let S : World → Prop := fun w => Sat W w (PtL a t m s es (Blk b d.cells T_api_Batch :: l))
  refine ⟨S, h3, ?_⟩
  refine hldX (S := S) (b := a) (fun w hw => ⟨_, hw⟩) 0 (x := some m) ?_
  refine hldX (S := S) (b := b) (fun w hw => ⟨_, hb hw⟩) 2 (x := d.pid) ?_
  refine mpLook ul_ps (by kernel_rfl) (fun w => by kernel_rfl) h3.tail (fun g0 _ _ => tyI (k := .ptr) (x := none) ⟨h3, ?_⟩) fun i e hi hk hg _ => tyI (k := .ptr) (x := some ⟨e.p, 0, none⟩) ⟨h3, ?_⟩
  · rw [hf, g0] at hK
    simp only at hK
    refine ⟨fun _ _ => False, fun _ _ hf => hf.elim, ?_⟩
    refine ldX (hb h3) 2 (x := d.pid) ?_
    refine ifB_beq (fun c => ?_) fun c => ?_
    · rw [if_pos c] at hK
      exact hK _ (hback h3)
    rw [if_neg c] at hK
    refine ifB_intro (fun c => absurd c (by simp)) fun _ => ?_
    refine ldX (hb h3.drew) 6 (x := d.ct) ?_
    refine ifB_intro (fun c => ?_) fun c => ?_
    · rw [if_pos c] at hK
      exact hK _ (hback h3.drew)
    rw [if_neg (by rw [c]; simp)] at hK
    refine ifB_intro (fun _ => ?_) fun c => absurd c (by simp)
    refine ldX (hb h3.drew.drew) 4 (x := d.sq) ?_
    refine ifB_bne (fun c => ?_) fun c => ?_
    · rw [if_pos c] at hK; exact hK _ (hback h3.drew.drew)
    · rw [if_neg (by rw [c]; simp)] at hK; exact hK _ (hback h3.drew.drew)
  · rw [hf, hg] at hK
    simp only at hK
    obtain ⟨q, h4⟩ := pd_open hi h3
    have hb4 : ∀ {w'}, Sat W w' (Blk e.p (pdcells e.x q) T_prod_producer :: SlR T_prod_seen 3 q (elSn.flat e.x.last) :: MpR .u64 m (es.map Me.kv) :: All ((es.map fun e => PdR e.p e.x).eraseIdx i) :: SlR T_api_Abort 3 s (elAb.flat t.ab) :: Blk a [.map (some m), s.v] T_prod_Table :: Blk b d.cells T_api_Batch :: l) → Sat W w' (Blk b d.cells T_api_Batch :: Blk e.p (pdcells e.x q) T_prod_producer :: SlR T_prod_seen 3 q (elSn.flat e.x.last) :: MpR .u64 m (es.map Me.kv) :: All ((es.map fun e => PdR e.p e.x).eraseIdx i) :: SlR T_api_Abort 3 s (elAb.flat t.ab) :: Blk a [.map (some m), s.v] T_prod_Table :: l) := fun h => h.sel 7 [6, 0, 1, 2, 3, 4, 5]
    have hback4 : ∀ {w'}, Sat W w' (Blk e.p (pdcells e.x q) T_prod_producer :: SlR T_prod_seen 3 q (elSn.flat e.x.last) :: MpR .u64 m (es.map Me.kv) :: All ((es.map fun e => PdR e.p e.x).eraseIdx i) :: SlR T_api_Abort 3 s (elAb.flat t.ab) :: Blk a [.map (some m), s.v] T_prod_Table :: Blk b d.cells T_api_Batch :: l) → Sat W w' (PtR a t :: l) := fun h => by
      have h5 := pd_close hi h
      rw [mp_same hi, hes] at h5
      exact h5.cut 1
    have hcap := sn_len (h4.up 1)
    have hl5 : e.x.last.length ≤ 5 := hF.last e.kx (by rw [← hes]; exact List.mem_map.2 ⟨e, List.mem_of_getElem? hi, rfl⟩)
    refine ⟨fun _ w' => d.pid ≠ 0 ∧ (∀ w', Sat W w' (PtR a t :: l) → K (chkV (match e.x.last.find? fun s => decide (s.seq = d.sq ∧ s.size = (if d.ct then 1 else (d.bs.length : Int))) with
        | some s => (s.base, true, 0)
        | none => if d.sq ≠ e.x.next then (0, false, 11) else (0, false, 0))) w') ∧ Sat W w' (Blk e.p (pdcells e.x q) T_prod_producer :: SlR T_prod_seen 3 q (elSn.flat e.x.last) :: MpR .u64 m (es.map Me.kv) :: All ((es.map fun e => PdR e.p e.x).eraseIdx i) :: SlR T_api_Abort 3 s (elAb.flat t.ab) :: Blk a [.map (some m), s.v] T_prod_Table :: Blk b d.cells T_api_Batch :: l), ?_, ?_⟩
    · rintro _ w2 ⟨c0, hK, h5⟩
      refine ldX h5 2 (x := q) ?_
      refine ⟨fun z w' => ∃ j : Nat, z.1 = j ∧ j ≤ e.x.last.length ∧ (e.x.last.find? fun s => decide (s.seq = d.sq ∧ s.size = (if d.ct then 1 else (d.bs.length : Int)))) = (e.x.last.drop j).find? (fun s => decide (s.seq = d.sq ∧ s.size = (if d.ct then 1 else (d.bs.length : Int)))) ∧ Sat W w' (Blk e.p (pdcells e.x q) T_prod_producer :: SlR T_prod_seen 3 q (elSn.flat e.x.last) :: MpR .u64 m (es.map Me.kv) :: All ((es.map fun e => PdR e.p e.x).eraseIdx i) :: SlR T_api_Abort 3 s (elAb.flat t.ab) :: Blk a [.map (some m), s.v] T_prod_Table :: Blk b d.cells T_api_Batch :: l), fun z _ => e.x.last.length - z.1.toNat, ⟨0, rfl, Nat.zero_le _, by simp, h5⟩, ?_⟩
      rintro ⟨tj, u⟩ w3 ⟨j, hj, hjl, hjf, h6⟩
      simp only at hj ⊢
      subst hj
      refine ifB_dec (fun c1 => ?_) fun c1 => ?_
      · have hjlt : j < e.x.last.length := by omega
        have hx : e.x.last[j]? = some e.x.last[j] := List.getElem?_eq_getElem hjlt
        have hdr : e.x.last.drop j = e.x.last[j] :: e.x.last.drop (j + 1) := (List.getElem_cons_drop hjlt).symm
        rw [hdr, List.find?_cons] at hjf
        generalize e.x.last[j] = x at hx hjf
        refine ixEl et_sns (E := elSn) rfl (h6.up 1).rdc (by omega) (x := x) (by rw [Int.toNat_natCast]; exact hx) (by omega) fun A hA => ?_
        refine ldAggC (cs := elSn.cells x) hA ?_
        refine newAgg (z := [.int .i64 0, .int .i64 0, .int .i64 0]) h6 (elSn.one x) fun g w8 h7 => ?_
        have h8 := h7.drew
        let S2 : World → Prop := fun w => Sat W w (Blk g (elSn.cells x) T_prod_seen :: Blk e.p (pdcells e.x q) T_prod_producer :: SlR T_prod_seen 3 q (elSn.flat e.x.last) :: MpR .u64 m (es.map Me.kv) :: All ((es.map fun e => PdR e.p e.x).eraseIdx i) :: SlR T_api_Abort 3 s (elAb.flat t.ab) :: Blk a [.map (some m), s.v] T_prod_Table :: Blk b d.cells T_api_Batch :: l)
        refine ⟨S2, h8, ?_⟩
        refine hldAggX (S := S2) (b := g) 0 2 (fun w hw => ⟨_, hw⟩) ?_ (by show 0 + 2 ≤ 3; decide)
        have hS2 : ∀ w, S2 w → ∃ L, Sat W w (Blk b d.cells T_api_Batch :: L) := fun w hw => ⟨_, hb4 (Sat.tail hw)⟩
        refine hldX hS2 4 (x := d.sq) ?_
        refine hldAggX (b := b) 0 9 hS2 ?_ (by show 0 + 9 ≤ 9; decide)
        refine size_ok (d := d) h8 (hv.cons.cons.cons.cons.cons.cons.cons.cons) fun w12 h9 => tyI (k := .int .i64) ⟨h9, ?_⟩
        refine keyEq (p := (x.seq, x.size)) (q := (d.sq, if d.ct then 1 else (d.bs.length : Int))) ?_
        refine ifB_dec (fun c2 => ?_) fun c2 => ?_
        · rw [decide_eq_true (show x.seq = d.sq ∧ x.size = (if d.ct then 1 else (d.bs.length : Int)) from c2)] at hjf
          simp only at hjf
          rw [hjf] at hK
          refine ldX h9 2 (x := x.base) ?_
          exact hK _ (hback4 h9.tail)
        · rw [decide_eq_false (show ¬ (x.seq = d.sq ∧ x.size = (if d.ct then 1 else (d.bs.length : Int))) from c2)] at hjf
          simp only at hjf
          rw [w_i64 (n := (j : Int) + 1) (by omega) (by omega)]
          exact ⟨⟨j + 1, rfl, by omega, hjf, h9.tail⟩, by show e.x.last.length - ((j : Int) + 1).toNat < e.x.last.length - ((j : Int)).toNat; omega⟩
      · have hj2 : j = e.x.last.length := by omega
        rw [hj2, List.drop_length, List.find?_nil] at hjf
        rw [hjf] at hK
        simp only at hK
        refine ldX (hb4 h6.drew) 4 (x := d.sq) ?_
        refine ldX h6.drew 1 (x := e.x.next) ?_
        refine ifB_bne (fun c => ?_) fun c => ?_
        · rw [if_pos c] at hK; exact hK _ (hback4 h6.drew)
        · rw [if_neg (by rw [c]; simp)] at hK; exact hK _ (hback4 h6.drew)
    · refine ldX (hb4 h4) 2 (x := d.pid) ?_
      refine ifB_beq (fun c => ?_) fun c => ?_
      · rw [if_pos c] at hK
        exact hK _ (hback4 h4)
      rw [if_neg c] at hK
      refine ifB_intro (fun _ => ?_) fun c => absurd c (by simp)
      refine ldX (hb4 h4.drew) 3 (x := d.pe) ?_
      refine ldX h4.drew 0 (x := e.x.epoch) ?_
      refine ifB_dec (fun c => ?_) fun c => ?_
      · rw [if_pos c] at hK; exact hK _ (hback4 h4.drew)
      rw [if_neg c] at hK
      refine ldX (hb4 h4.drew) 6 (x := d.ct) ?_
      refine ifB_intro (fun c => ?_) fun c => ?_
      · rw [if_pos c] at hK
        exact hK _ (hback4 h4.drew)
      rw [if_neg (by rw [c]; simp)] at hK
      refine ifB_intro (fun c => absurd c (by simp)) fun _ => ?_
      refine ldX (hb4 h4.drew.drew) 3 (x := d.pe) ?_
      refine ldX h4.drew.drew 0 (x := e.x.epoch) ?_
      refine ifB_dec (fun c => ?_) fun c => ?_
      · rw [if_pos c] at hK
        refine ldX (hb4 h4.drew.drew) 4 (x := d.sq) ?_
        refine ifB_bne (fun c => ?_) fun c => ?_
        · rw [if_pos c] at hK; exact hK _ (hback4 h4.drew.drew)
        · rw [if_neg (by rw [c]; simp)] at hK; exact hK _ (hback4 h4.drew.drew)
      · rw [if_neg c] at hK
        exact ⟨by assumption, hK, h4.drew.drew⟩
end
end Go.Proofs.YtnjadekngjgjcaaGreatDoor
