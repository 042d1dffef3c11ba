/- Layer 17: a message is read: what gives up is caught. -/
import Derived.Test.YtokogdigfohbeaaWM
import Derived.Test.YtokogdigfohbeaaE1
import Derived.Tactics2
import Derived.Laws.Pointers
namespace Go.Proofs.Ytokogdigfohbeaa
open Go Go.Pk
noncomputable def r33 : Code := match Try.f33.body with | some (.seq _ (.seq _ (.cond _ r _))) => r | _ => .skip
def S33 (R : World → Prop) (x0 : Addr) (x1 : Addr) (x2 : Value) (w : World) : Prop :=
 ∃ S0 : World → Prop, (S0 w.drew) ∧
  (RunV P (Instr.typeAssert x2 20 T_api_Errno false) w.drew fun (v1 : Value) w2 =>
    TyP (.int .i64) v1 fun (n3 : Int) =>
     (S0 w2) ∧
      StoreP P T_api_Msg (.pointer (some x0)) (.agg zMs.cells.toArray) w2 fun w4 =>
       (S0 w4) ∧
        StoreP P T_api_Errno (.pointer (some x1)) (.int .i64 n3) w4 fun w5 =>
         (S0 w5) ∧
          R w5) ∧
   (StoreP P T_api_Msg (.pointer (some x0)) (.agg zMs.cells.toArray) w.drew fun w6 =>
     (S0 w6) ∧
      RunV P (Instr.typeAssert x2 20 T_api_Errno false) w6 fun (v7 : Value) w8 =>
       TyP (.int .i64) v7 fun (n9 : Int) =>
        (S0 w8) ∧
         StoreP P T_api_Errno (.pointer (some x1)) (.int .i64 n9) w8 fun w10 =>
          (S0 w10) ∧
           R w10) ∧
    True
theorem e33 (R : World → Prop) (x0 : Addr) (x1 : Addr) (x2 : Value) (w : World) :
    den P none 9 ⟨[], [], []⟩ r33 (fun _ w => R w) (fun _ _ _ => False) (fun _ _ => False) [(0, .pointer (some x0)), (1, .pointer (some x1)), (2, x2)] w = S33 R x0 x1 x2 w := by kernel_rfl
section
variable {W w : World} {l L : List Res} {K : Value → World → Prop} {t : List UInt8} {gm ge : Nat}
theorem s33_ok {m : Ms} {y z : Int} {R : World → Prop} (h : Sat W w (Blk gm m.cells T_api_Msg :: Blk ge [.int .i64 z] T_api_Errno :: l)) (hR : ∀ w', Sat W w' (Blk gm zMs.cells T_api_Msg :: Blk ge [.int .i64 y] T_api_Errno :: l) → R w') :
    S33 R ⟨gm, 0, none⟩ ⟨ge, 0, none⟩ (.iface T_api_Errno (.int .i64 y)) w := by
  have hta : ∀ w, (Instr.typeAssert (.iface T_api_Errno (.int .i64 y)) 20 T_api_Errno false).run P w = .ok (.int .i64 y) w := fun w => by kernel_rfl
  refine ⟨fun _ => True, trivial, ?_, ?_, trivial⟩
  · refine ⟨_, _, hta _, tyI ⟨trivial, ?_⟩⟩
    refine stAggB (cs := m.cells) (cs' := zMs.cells) h.drew rfl (Ms.ones _) (by kernel_rfl) fun w2 h2 => ⟨trivial, ?_⟩
    have h3 := h2.swap
    refine Go.Pk.stV h3 (i := 0) fun w3 h4 => ⟨trivial, hR _ h4.swap⟩
  · refine stAggB (cs := m.cells) (cs' := zMs.cells) h.drew rfl (Ms.ones _) (by kernel_rfl) fun w2 h2 => ⟨trivial, ?_⟩
    refine ⟨_, _, hta _, tyI ⟨trivial, ?_⟩⟩
    have h3 := h2.swap
    refine Go.Pk.stV h3 (i := 0) fun w3 h4 => ⟨trivial, hR _ h4.swap⟩
set_option maxRecDepth 20000 in
/-- the closure, where nothing was given up -/
theorem idle33 (w : World) : CallsD P F_wire_Decode_1 #[.pointer (some ⟨gm, 0, none⟩), .pointer (some ⟨ge, 0, none⟩)] .returning w fun e u' w' => e = .returned (.tuple #[]) ∧ u' = .returning ∧ w' = w := by
  refine callsD_of_wpS Try.func33 rfl fun c₀ cs hu => ?_
  apply wpS_seq
  apply wpS_region
  simp [wpOpsS, go_sem, recoverD, hu, Try.ntmps33, Exit.thenS]
  apply wpS_seq
  apply wpS_region
  simp [wpOpsS, go_sem, Exit.thenS]
  refine wpS_cond (t := false) (by simp [Act.eval, Act.put, Array.replicate]) ?_
  simp only [Bool.false_eq_true, if_false]
  refine wpS_of_wp (wp_skip ?_)
  cases c₀
  simp_all [bodyPostS, results, Try.results33, Act.put]
set_option maxRecDepth 20000 in
theorem catch33 {m : Ms} {y z : Int} (h : Sat W w (Blk gm m.cells T_api_Msg :: Blk ge [.int .i64 z] T_api_Errno :: l)) :
    CallsD P F_wire_Decode_1 #[.pointer (some ⟨gm, 0, none⟩), .pointer (some ⟨ge, 0, none⟩)] (.panicking (pe y)) w fun e u' w' =>
      e = .returned (.tuple #[]) ∧ u' = .panicking [{ v := .iface T_api_Errno (.int .i64 y), recovered := true }] ∧ Sat W w' (Blk gm zMs.cells T_api_Msg :: Blk ge [.int .i64 y] T_api_Errno :: l) := by
  refine callsD_of_wpS Try.func33 rfl fun c₀ cs hu => ?_
  apply wpS_seq
  apply wpS_region
  simp [wpOpsS, go_sem, recoverD, hu, Try.ntmps33, Exit.thenS]
  apply wpS_seq
  apply wpS_region
  simp [wpOpsS, go_sem, Exit.thenS]
  refine wpS_cond (t := true) (by simp [Act.eval, Act.put, Array.replicate]) ?_
  simp only [if_true]
  refine wpS_of_wp ?_
  have hs : S33 (fun w' => Sat W w' (Blk gm zMs.cells T_api_Msg :: Blk ge [.int .i64 y] T_api_Errno :: l)) ⟨gm, 0, none⟩ ⟨ge, 0, none⟩ (.iface T_api_Errno (.int .i64 y)) w := s33_ok h fun w' h' => h'
  rw [← e33] at hs
  refine wp_mono (den_sound r33 _ _ _ _ _ w ?_ hs) (lift_normal (fun e a w hof hN => ?_) fun c a w _ _ hx => hx.elim)
  · refine ⟨by simp [Act.put], by simp [Act.put], fun i v hv => ?_⟩
    match i, hv with
    | 0, hv => cases (show some (Value.pointer (some ⟨gm, 0, none⟩)) = some v from hv); simp [Act.put]
    | 1, hv => cases (show some (Value.pointer (some ⟨ge, 0, none⟩)) = some v from hv); simp [Act.put]
    | 2, hv => cases (show some (Value.iface T_api_Errno (.int .i64 y)) = some v from hv); simp [Act.put]
    | i + 3, hv => exact nomatch (show (none : Option Value) = some v from hv)
  · refine ⟨hof.defers, .panicking [{ v := .iface T_api_Errno (.int .i64 y), recovered := true }], ?_, ?_⟩
    · cases c₀; rfl
    · exact ⟨.tuple #[], by simp [results, Try.results33], rfl, rfl, hN⟩
noncomputable def c0_13 : Code := match Try.f13.body with | some (.seq a _) => a | _ => .skip
noncomputable def c1_13 : Code := match Try.f13.body with | some (.seq _ (.seq b _)) => b | _ => .skip
def qa13 : Oper := { dst := some 9, op := Op.makeFunc (Fn.func F_wire_Decode_1) #[] #[Operand.tmp 2, Operand.tmp 3], type := 1, pos := "wire.go:232", after := #[], guard := none }
def qb13 : Oper := { dst := none, op := Op.defer { callee := Callee.value (Operand.tmp 9), args := #[], argTypes := #[] }, type := 0, pos := "wire.go:232", after := #[{ on := 0, ground := Ground.data }], guard := none }
noncomputable def o13 : List Oper := match Try.f13.body with | some (.seq _ (.seq _ (.seq _ (.seq (.region _ o _) _)))) => o.toList | _ => []
theorem b13 : Try.f13.body = some (.seq c0_13 (.seq c1_13 (.seq (.region 2 [qa13, qb13].toArray false) (.seq (.region 3 o13.toArray false) .ret)))) := by kernel_rfl
abbrev en13 (x : Sl) (gm ge gr : Nat) (p : Option Addr) : Env := [(4, .pointer (some ⟨gr, 0, none⟩)), (8, .pointer (some ⟨gr, 0, none⟩)), (7, .agg #[.pointer p]), (6, .pointer p), (5, x.v), (3, .pointer (some ⟨ge, 0, none⟩)), (2, .pointer (some ⟨gm, 0, none⟩)), (0, x.v)]
theorem e13a (N : Env → World → Prop) (x : Sl) (w : World) :
    den P none 12 ⟨[], [], []⟩ c0_13 (fun e w => den P none 12 ⟨[], [], []⟩ c1_13 N (fun _ _ _ => False) (fun _ _ => False) e w) (fun _ _ _ => False) (fun _ _ => False) [(0, x.v)] w = (
      RunK .addr P (Instr.alloc T_api_Msg true (.tuple #[])) w fun (a0 : Addr) w1 =>
      RunK .addr P (Instr.alloc T_api_Errno true (.tuple #[])) w1 fun (a2 : Addr) w3 =>
      CallP P F_codec_NewReader [x.v] w3 fun (v4 : Value) w5 =>
      TyP .ptr v4 fun (p6 : Option Addr) =>
      RunK .addr P (Instr.box T_wire_reader (.agg #[.pointer p6])) w5 fun (a7 : Addr) w8 =>
      N [(4, .pointer (some a7)), (8, .pointer (some a7)), (7, .agg #[.pointer p6]), (6, .pointer p6), (5, x.v), (3, .pointer (some a2)), (2, .pointer (some a0)), (0, x.v)] w8) := by kernel_rfl
theorem e13b (N : World → Prop) (X : PX) (x : Sl) (fv : Value) (gm ge gr : Nat) (p : Option Addr) (w : World) :
    denOps P (some X) 12 o13 o13 ((9, fv) :: en13 x gm ge gr p) w (fun _ w => N w) = (
      CallX P F_wire_reader_whole [.pointer (some ⟨gr, 0, none⟩)] w (fun (v0 : Value) w1 => TyP .val v0 fun (v2 : Value) =>
       StoreP P T_api_Msg (.pointer (some ⟨gm, 0, none⟩)) v2 w1 fun w3 =>
        StoreP P T_api_Errno (.pointer (some ⟨ge, 0, none⟩)) (.int .i64 0) w3 fun w4 => N w4) X) := by kernel_rfl
set_option maxRecDepth 20000 in
set_option maxHeartbeats 1000000 in
theorem decode17_ok {x : Sl} (h : Sat W w l) (hx : Rd W l x 1 (t.map vB)) (ht : t.length ≤ 140737488355328)
    (hK0 : badM t → ∀ y w', y ≠ 0 → Sat W w' l → K (.tuple #[.agg zMs.cells.toArray, .int .i64 y]) w')
    (hK1 : ¬ badM t → ∀ (m : Ms) w', m.only → m.dB = (tkMd t 0 0).1 → Sat W w' (ownM m :: l) → K (.tuple #[.agg m.cells.toArray, .int .i64 0]) w') : CallP P F_wire_Decode [x.v] w K := by
  unfold CallP
  refine calls_of_wp_defers Try.func13 b13 ?_
  let R : Ending → World → Prop := fun e w' => ∃ v, e = .returned v ∧ K v w'
  let N1 : Env → World → Prop := fun e w' => ∃ gm ge gr br, e = en13 x gm ge gr (some ⟨br, 0, none⟩) ∧ Sat W w' (RdrR br t 0 0 :: RwB gr br :: Blk gm zMs.cells T_api_Msg :: Blk ge [.int .i64 0] T_api_Errno :: l)
  have h0 : den P none 12 ⟨[], [], []⟩ c0_13 (fun e w => den P none 12 ⟨[], [], []⟩ c1_13 N1 (fun _ _ _ => False) (fun _ _ => False) e w) (fun _ _ _ => False) (fun _ _ => False) [(0, x.v)] w := by
    rw [e13a]
    refine allocB h (z := .agg zMs.cells.toArray) (by kernel_rfl) fun gm w1 h1 => ?_
    refine allocB h1 (z := .int .i64 0) (by kernel_rfl) fun ge w2 h2 => ?_
    refine newReader_ok h2 hx.cons.cons ht fun br w3 h3 => tyI ?_
    refine boxB h3 fun gr w4 h4 => ?_
    have h5 : Sat W w4 (RwB gr br :: RdrR br t 0 0 :: Blk ge [.int .i64 0] T_api_Errno :: Blk gm zMs.cells T_api_Msg :: l) := h4
    exact ⟨gm, ge, gr, br, rfl, h5.sel 4 [1, 0, 3, 2]⟩
  have hof0 : Env.Of 12 [(0, x.v)] { tmps := [x.v].toArray ++ Array.replicate (Try.f13.ntmps - [x.v].toArray.size) undef, defers := [] } := by
    refine ⟨by simp [Try.ntmps13], rfl, fun i v hv => ?_⟩
    match i, hv with
    | 0, hv => cases (show some x.v = some v from hv); simp
    | i + 1, hv => exact nomatch (show (none : Option Value) = some v from hv)
  refine wp_seq (wp_mono (den_sound c0_13 _ _ _ _ _ w hof0 h0) (lift_normal (fun e a w hof hN => ?_) fun c a w _ _ hx => hx.elim))
  refine wp_seq (wp_mono (den_sound c1_13 _ _ _ _ _ w hof hN) (lift_normal (fun e a w hof hN => ?_) fun c a w _ _ hx => hx.elim))
  obtain ⟨gm, ge, gr, br, rfl, h1⟩ := hN
  have ev2 : a.eval (.tmp 2) = .pointer (some ⟨gm, 0, none⟩) := hof.ev rfl
  have ev3 : a.eval (.tmp 3) = .pointer (some ⟨ge, 0, none⟩) := hof.ev rfl
  let fv : Value := .func (.func F_wire_Decode_1) #[] #[.pointer (some ⟨gm, 0, none⟩), .pointer (some ⟨ge, 0, none⟩)]
  let d : Deferred := { target := .fn (.func F_wire_Decode_1) #[.pointer (some ⟨gm, 0, none⟩), .pointer (some ⟨ge, 0, none⟩)], args := #[] }
  have hofa : Env.Of 12 ((9, fv) :: en13 x gm ge gr (some ⟨br, 0, none⟩)) (a.put (some 9) fv) := hof.put (d := some 9) fv rfl
  have ev9 : (a.put (some 9) fv).eval (.tmp 9) = fv := hofa.ev rfl
  have ra : ∀ ρ : Operand → Value, ρ (.tmp 2) = .pointer (some ⟨gm, 0, none⟩) → ρ (.tmp 3) = .pointer (some ⟨ge, 0, none⟩) → (execOp ρ qa13).run P w = .ok (.value fv) w := by
    intro ρ e2 e3
    simp [qa13, execOp, go_sem, Instr.makeFunc, e2, e3, fv]
  have rb : ∀ ρ : Operand → Value, ρ (.tmp 9) = fv → (execOp ρ qb13).run P w = .ok (.defer d) w := by
    intro ρ e9
    simp [qb13, execOp, go_sem, resolve, Deferred.ofValue, e9, fv, d]
  refine wp_seq (wp_region_lit ?_)
  unfold wpList
  rw [if_pos (by simp [Region.wanted, qa13])]
  refine .inl ?_
  unfold Oper.wp
  rw [ra _ ev2 ev3]
  show wpList P _ _ [qb13] (a.put (some 9) fv) w
  unfold wpList
  rw [if_pos (by simp [Region.wanted, qb13])]
  refine .inl ?_
  unfold Oper.wp
  rw [rb _ ev9]
  rw [Oper.upon_defer]
  show wpList P _ _ [] (⟨(a.put (some 9) fv).tmps, d :: (a.put (some 9) fv).defers⟩ : Act) w
  generalize hb : (⟨(a.put (some 9) fv).tmps, d :: (a.put (some 9) fv).defers⟩ : Act) = b
  have hbd : b.defers = [d] := by rw [← hb]; show d :: (a.put (some 9) fv).defers = [d]; rw [hofa.defers]
  have hofb : Env.Of 12 ((9, fv) :: en13 x gm ge gr (some ⟨br, 0, none⟩)) (noD b) := by
    rw [← hb]
    exact ⟨hofa.size, rfl, hofa.vals⟩
  show Code.wp P _ _ b w
  clear hb rb ra
  have hinv : ∀ w, (invoke (.fn (.func F_wire_Decode_1) #[.pointer (some ⟨gm, 0, none⟩), .pointer (some ⟨ge, 0, none⟩)]) #[]).run P w = .ok (.enter F_wire_Decode_1 #[.pointer (some ⟨gm, 0, none⟩), .pointer (some ⟨ge, 0, none⟩)]) w := fun w =>
    callable_run (f := F_wire_Decode_1) (by kernel_rfl) _ w
  have fin : ∀ (b' : Act) (w' : World) (m : Ms) (y : Int), Env.Of 12 (Env.forget ((9, fv) :: en13 x gm ge gr (some ⟨br, 0, none⟩)) (dsts o13)) (noD b') → Sat W w' (Blk gm m.cells T_api_Msg :: Blk ge [.int .i64 y] T_api_Errno :: l) →
      K (.tuple #[.agg m.cells.toArray, .int .i64 y]) w' → ∃ v, (results Try.f13 b'.tmps).run P w' = .ok v w' ∧ R (.returned v) w' := by
    intro b' w' m y hof' h' hk
    refine (res_of hof' (R := fun v => K v w') ?_).imp fun v hv => ⟨hv.1, v, rfl, hv.2⟩
    show LoadK .val P T_api_Msg (.pointer (some ⟨gm, 0, none⟩)) w' fun z => LoadK (.int .i64) P T_api_Errno (.pointer (some ⟨ge, 0, none⟩)) w' fun z2 => K (.tuple #[z, .int .i64 z2]) w'
    refine ldAggB h' (by kernel_rfl) ?_
    have h2 := h'.swap
    exact ldX h2 0 (x := y) hk
  let X : PX := fun c w' => ∃ y, c = pe y ∧ y ≠ 0 ∧ badM t ∧ Sat W w' (Blk gm zMs.cells T_api_Msg :: Blk ge [.int .i64 0] T_api_Errno :: l)
  let N2 : World → Prop := fun w' => ¬ badM t ∧ ∃ m : Ms, m.only ∧ m.dB = (tkMd t 0 0).1 ∧ Sat W w' (Blk gm m.cells T_api_Msg :: Blk ge [.int .i64 0] T_api_Errno :: ownM m :: l)
  have h3 : denOps P (some X) 12 o13 o13 ((9, fv) :: en13 x gm ge gr (some ⟨br, 0, none⟩)) w (fun _ w => N2 w) := by
    rw [e13b]
    refine xwhole_ok ht h1 (fun hb y w' hy hs => ⟨y, rfl, hy, hb, hs⟩) fun m w' hnb ho hm hs => tyI (k := .val) ?_
    have hs1 : Sat W w' (Blk gm zMs.cells T_api_Msg :: Blk ge [.int .i64 0] T_api_Errno :: ownM m :: l) := hs.sel 3 [1, 2, 0]
    refine stAggB (cs := zMs.cells) (cs' := m.cells) hs1 rfl (Ms.ones _) (by kernel_rfl) fun w2 h2 => ?_
    have h2' := h2.swap
    refine Go.Pk.stV h2' (i := 0) (v := .int .i64 0) fun w3 h3 => ⟨hnb, m, ho, hm, h3.swap⟩
  refine wp_seq (wp_region_lit (denOps_soundD (M := dsts o13) (a0 := b) (D := [d]) (fun e' b' w' hd hof' hk hN => ?_) (fun c b' w' hsz hd hk hx => ?_) o13 _ _ w (fun o ho i hi => mem_dsts ho i hi) hbd hofb (Keep.refl _ _) h3))
  · refine wp_ret ?_
    show Leaves P Try.f13 b'.tmps R b'.defers .returning w'
    rw [hd]
    have hof2 := Env.Of.forget hofb hk.noD hof'.size rfl
    refine leaves_cons (by simp) (hinv w') ?_
    refine (idle33 (gm := gm) (ge := ge) w').mono ?_
    rintro e2 u2 w2 ⟨rfl, rfl, rfl⟩
    obtain ⟨hnb, m, ho, hm, hs⟩ := hN
    exact fin b' w2 m 0 hof2 (hs.cut 2) (hK1 hnb m w2 ho hm hs.tail.tail)
  · show Leaves P Try.f13 b'.tmps R b'.defers (.panicking c) w'
    rw [hd]
    obtain ⟨y, rfl, hy, hb, hs⟩ := hx
    have hof2 := Env.Of.forget hofb hk.noD hsz rfl
    refine leaves_cons (by simp) (hinv w') ?_
    refine (catch33 (y := y) hs).mono ?_
    rintro e2 u2 w2 ⟨rfl, rfl, h4⟩
    exact fin b' w2 zMs y hof2 h4 (hK0 hb y w2 hy h4.tail.tail)
end
end Go.Proofs.Ytokogdigfohbeaa
