/- Layer 17: there and back; kept apart; kinds. -/
import Derived.Test.YtokogdigfohbeaaWS
namespace Go.Proofs.Ytokogdigfohbeaa
open Go Go.Pk
section
variable {W w : World} {l L : List Res} {K : Value → World → Prop} {t : List UInt8} {m a b : Ms}
theorem law_back17 (h : Sat W w l) (hn : m.num) (hv : MRd W l m) (hw : m.w ≤ 2 ^ 44) (hK : ∀ w', Sat W w' l → K (.bool true) w') : CallP P F_law17_WireBack [.agg m.cells.toArray] w K := by
  apply c_law17_WireBack
  unfold S_law17_WireBack
  have hlb := mB_len hn hw
  refine boxB h fun a0 w1 h1 => ?_
  have h1 : Sat W w1 (Blk a0 m.cells T_api_Msg :: l) := h1
  refine ldAggB h1 (by kernel_rfl) ?_
  refine wencode_ok h1 hn hv.cons hw fun s w2 h2 => tup2 ?_
  refine ⟨fun _ w' => mE m = 0 ∧ Sat W w' (BsR s (mB m) :: Blk a0 m.cells T_api_Msg :: l), ?_, ?_⟩
  · rintro _ w3 ⟨hc, h3⟩
    have ed : mB m = encMd m.d := by rw [mB_1 hc, lyM_o hn hc]
    have hok := (mE_iff hn).1 hc
    obtain ⟨g1, g2⟩ := good_enc hok
    refine copyBytes h3 Rd.own (by omega) fun s2 w4 h4 => ?_
    refine decode_any h4 Rd.own (by omega) fun x y w5 hd h5 => tup2v ?_
    rcases hd with ⟨_, hb, _⟩ | ⟨rfl, _, ho, hx⟩
    · rw [ed] at hb; exact absurd hb g1
    rw [ed, g2] at hx
    have b1 : okMd x.dB := by rw [hx]; exact hok
    have xn := num_of ho b1
    have xd : x.d = m.d := (d_eq b1).trans hx
    have x0 : mE x = 0 := (mE_iff xn).2 (by rw [xd]; exact hok)
    have xB : mB x = mB m := by rw [mB_1 x0, lyM_o xn x0, ed, xd]
    have xw := w_of ho b1
    have hal := alike ho hn.pid.1 hx
    refine newMs h5 x fun ax w6 h6 => ?_
    refine ldAggB h6 (by kernel_rfl) ?_
    refine wencode_ok h6 xn (ownM_rd h6.tail).cons xw fun s3 w7 h7 => tup2 ?_
    rw [xB] at h7
    let L : List Res := BsR s3 (mB m) :: Blk ax x.cells T_api_Msg :: ownM x :: BsR s2 (mB m) :: BsR s (mB m) :: Blk a0 m.cells T_api_Msg :: l
    have h8 : Sat W w7.drew L := h7.drew
    have lx : ∀ w, Sat W w L → ∃ l, Sat W w (Blk ax x.cells T_api_Msg :: l) := fun w h => ⟨_, h.up 1⟩
    have lm : ∀ w, Sat W w L → ∃ l, Sat W w (Blk a0 m.cells T_api_Msg :: l) := fun w h => ⟨_, h.up 5⟩
    have vx : MRd W L x := (ownM_rd h6.tail).cons.cons
    have vm : MRd W L m := hv.cons.cons.cons.cons.cons.cons
    have rs : Rd W L s 1 ((mB m).map vB) := Rd.own.cons.cons.cons.cons
    refine ⟨fun w => Sat W w L, h8, ?_⟩
    refine ifB_beq (fun _ => ?_) fun hne => absurd rfl hne
    refine ifB_beq (fun _ => ?_) fun hne => absurd x0 hne
    refine same_ok h8 rs Rd.own (by omega) fun w9 h9 => tyI ⟨h9, ?_⟩
    rw [decide_eq_true rfl]
    simp only [ifB_true]
    refine hldAggB lx (by kernel_rfl) ?_
    refine hldAggB lm (by kernel_rfl) ?_
    refine same17_ok h9 xn hn vx vm xw hw fun v w10 hv10 h10 => tyI ⟨h10, ?_⟩
    rw [hv10.2 ⟨x0, hc, xB⟩]
    simp only [ifB_true]
    refine hldAggB lx (by kernel_rfl) ?_
    refine hldAggB lx (by kernel_rfl) ?_
    refine bare_ok h10 fun w11 h11 => tyI (k := .val) ⟨h11, ?_⟩
    refine same17_ok h11 xn (br_num xn) vx (br_rd vx) xw (br_w xw) fun v w12 hv12 h12 => tyI ⟨h12, ?_⟩
    rw [hv12.2 ⟨x0, by rw [br_E]; exact x0, by rw [br_B]⟩]
    simp only [ifB_true]
    refine hldAggB lx (by kernel_rfl) ?_
    refine hldAggB lm (by kernel_rfl) ?_
    refine bare_ok h12 fun w13 h13 => tyI (k := .val) ⟨h13, ?_⟩
    refine bare17_ok h13 hal vx (br_rd vm) fun w14 h14 => tyI ⟨h14, ?_⟩
    exact hK w14 h14.tail.tail.tail.tail.tail.tail
  · refine awake17_ok h2 fun w3 h3 => tyI ?_
    simp only [Bool.not_true, ifB_false]
    refine ifB_bne (fun hne => ?_) fun hc => ⟨hc, h3⟩
    refine awake17_ok h3 fun w4 h4 => tyI ?_
    simp only [ifB_true]
    have h5 := h4
    rw [mB_0 hne] at h5
    have := Sat.bsLen h5
    simp only [List.length_nil] at this
    rw [show (((s.len : Nat) : Int) == 0) = true from by rw [← this.1]; rfl]
    exact hK w4 h4.tail.tail
theorem hd_of {a b : Ms} (ha : a.num) (hb : b.num) (ea : mE a = 0) (eb : mE b = 0) (h : mB a = mB b) : a.d = b.d := by
  rw [mB_1 ea, mB_1 eb, lyM_o ha ea, lyM_o hb eb] at h
  have h1 := (good_enc ((mE_iff ha).1 ea)).2
  have h2 := (good_enc ((mE_iff hb).1 eb)).2
  rw [← h1, ← h2, h]
theorem law_apart17 (h : Sat W w l) (ha : a.num) (hb : b.num) (va : MRd W l a) (vb : MRd W l b) (wa : a.w ≤ 2 ^ 44) (wb : b.w ≤ 2 ^ 44) (hK : ∀ w', Sat W w' l → K (.bool true) w') :
    CallP P F_law17_WireApart [.agg a.cells.toArray, .agg b.cells.toArray] w K := by
  apply c_law17_WireApart
  unfold S_law17_WireApart
  have hla := mB_len ha wa
  have hlb := mB_len hb wb
  refine boxB h fun a0 w1 h1 => ?_
  refine boxB h1 fun b0 w2 h2 => ?_
  have h2 : Sat W w2 (Blk b0 b.cells T_api_Msg :: Blk a0 a.cells T_api_Msg :: l) := h2
  refine ldAggB h2.swap (by kernel_rfl) ?_
  refine wencode_ok h2 ha va.cons.cons wa fun s w3 h3 => tup2 ?_
  refine ldAggB (h3.up 1) (by kernel_rfl) ?_
  refine wencode_ok h3 hb vb.cons.cons.cons wb fun t w4 h4 => tup2 ?_
  let L : List Res := BsR t (mB b) :: BsR s (mB a) :: Blk b0 b.cells T_api_Msg :: Blk a0 a.cells T_api_Msg :: l
  refine ⟨fun _ w' => (mE a = 0 ∧ mE b = 0) ∧ Sat W w' L, ?_, ?_⟩
  · rintro _ w5 ⟨⟨ea, eb⟩, h5⟩
    have h6 : Sat W w5.drew L := h5.drew
    have la : ∀ w, Sat W w L → ∃ l, Sat W w (Blk a0 a.cells T_api_Msg :: l) := fun w h => ⟨_, h.up 3⟩
    have lb : ∀ w, Sat W w L → ∃ l, Sat W w (Blk b0 b.cells T_api_Msg :: l) := fun w h => ⟨_, h.up 2⟩
    have ra : MRd W L a := va.cons.cons.cons.cons
    have rb : MRd W L b := vb.cons.cons.cons.cons
    refine ⟨fun w => Sat W w L, h6, ?_⟩
    refine hldAggB la (by kernel_rfl) ?_
    refine hldAggB lb (by kernel_rfl) ?_
    have fin : ∀ w', Sat W w' L → a.hd ≠ b.hd → CallP P F_ref03_Same [s.v, t.v] w' fun v44 w45 => TyP .bool v44 fun b46 => Sat W w45 L ∧ K (.bool (!b46)) w45 := by
      intro w' h' hne
      refine same_ok h' Rd.own.cons Rd.own (by omega) fun w7 h7 => tyI ⟨h7, ?_⟩
      have : mB a ≠ mB b := fun he => hne (congrArg Prod.fst (hd_of ha hb ea eb he))
      rw [decide_eq_false this]
      exact hK w7 h7.tail.tail.tail.tail
    refine same_ok h6 Rd.own.cons Rd.own (by omega) fun w7 h7 => tyI ⟨h7, ?_⟩
    refine same17_ok h7 ha hb ra rb wa wb fun v w8 hv8 h8 => tyI ⟨h8, ?_⟩
    have ev : (decide (mB a = mB b) == v) = true := by
      cases v with
      | true => rw [decide_eq_true (hv8.1 rfl).2.2]; rfl
      | false =>
        have : mB a ≠ mB b := fun he => by have := hv8.2 ⟨ea, eb, he⟩; cases this
        rw [decide_eq_false this]; rfl
    rw [ev]
    simp only [ifB_true]
    refine hldB la (o := 0) (i := 0) (x := a.kind) ?_
    refine hldB lb (o := 0) (i := 0) (x := b.kind) ?_
    refine ifB_beq (fun _ => ?_) fun hne => fin _ h8 fun he => hne (by simp only [Ms.hd, List.cons.injEq] at he; exact he.1)
    refine hldB la (o := 0) (i := 1) (x := a.frm) ?_
    refine hldB lb (o := 0) (i := 1) (x := b.frm) ?_
    refine ifB_beq (fun _ => ?_) fun hne => fin _ h8 fun he => hne (by simp only [Ms.hd, List.cons.injEq] at he; exact he.2.1)
    refine hldB la (o := 0) (i := 2) (x := a.to) ?_
    refine hldB lb (o := 0) (i := 2) (x := b.to) ?_
    refine ifB_beq (fun _ => ?_) fun hne => fin _ h8 fun he => hne (by simp only [Ms.hd, List.cons.injEq] at he; exact he.2.2.1)
    refine hldB la (o := 0) (i := 3) (x := a.corr) ?_
    refine hldB lb (o := 0) (i := 3) (x := b.corr) ?_
    refine ifB_beq (fun _ => ?_) fun hne => fin _ h8 fun he => hne (by simp only [Ms.hd, List.cons.injEq] at he; exact he.2.2.2.1)
    exact hK w8 h8.tail.tail.tail.tail
  · refine awake17_ok h4 fun w5 h5 => tyI ?_
    simp only [Bool.not_true, ifB_false]
    refine ifB_bne (fun _ => ?_) fun ea => ?_
    · exact awake17_ok h5 fun w6 h6 => tyI (hK w6 h6.tail.tail.tail.tail)
    refine ifB_bne (fun _ => ?_) fun eb => ⟨⟨ea, eb⟩, h5⟩
    exact awake17_ok h5 fun w6 h6 => tyI (hK w6 h6.tail.tail.tail.tail)
theorem bad_kind {x : Int} (hx : okI x) (hk : x < 1 ∨ x > 15) (r : List UInt8) : badM (intB x ++ r) := by
  refine Classical.byContradiction fun hb => ?_
  obtain ⟨⟨⟨⟨h1, h2⟩, h3⟩, _⟩, h4⟩ := not_bad hb
  generalize (tkMd (intB x ++ r) 0 0).1 = d at h1 h2 h3 h4
  obtain ⟨d1, d2⟩ := d
  match d1, h1 with
  | y :: d1, _ =>
    have hy : okI y := h2 y (by simp)
    have e : intB y ++ (d1.flatMap intB ++ encRest d2) = intB x ++ r := by
      rw [← h4]; simp [encMd]
    have q1 := fmI.hits (t := intB x ++ r) (p := 0) (r := r) hx (by simp)
    have q2 := fmI.hits (t := intB x ++ r) (p := 0) (r := d1.flatMap intB ++ encRest d2) hy (by simp [← e])
    rw [q1] at q2
    have e2 : x = y := congrArg Prod.fst q2
    subst e2
    have h3 : hdE (x :: d1) = 0 := h3
    rw [show hdE (x :: d1) = 1 from if_pos hk] at h3
    cases h3
theorem ki_num {x : Int} (hn : m.num) (hx : okI x) : ({ m with kind := x } : Ms).num := by
  refine ⟨?_, hn.rf, hn.fq, hn.fd, hn.cd, hn.bt, hn.ns, hn.pid, hn.mi, hn.bl, hn.al⟩
  intro i hi
  have h0 := hn.hd
  simp only [Ms.hd, List.mem_cons, List.not_mem_nil, or_false] at hi h0
  rcases hi with rfl | rfl | rfl | rfl | rfl
  · exact hx
  · exact h0 _ (by simp)
  · exact h0 _ (by simp)
  · exact h0 _ (by simp)
  · exact h0 _ (by simp)
theorem len59 (m : Ms) : m.cells.length = 59 := rfl
theorem fourB (h : Sat W w l) {K : Sl → World → Prop} (hK : ∀ s w', Sat W w' (BsR s [0, 0, 0, 0] :: l) → K s w') :
    RunK .sl P (Instr.buildSlice T_sl_uint8 4 #[(0, (.int .u8 0)), (1, (.int .u8 0)), (2, (.int .u8 0)), (3, (.int .u8 0))]) w K :=
  bsB h (cs := [.int .u8 0, .int .u8 0, .int .u8 0, .int .u8 0]) (e := T_uint8) (fun w => by kernel_rfl) fun g w1 h1 => hK _ w1 (h1.mkSlr rfl (by simp) (by simp) (by simp) rfl (by intro u hu; simp at hu; subst hu; rfl))
theorem law_kinds17 {x0 : Int} (h : Sat W w l) (hx : okI x0) (hn : m.num) (hv : MRd W l m) (hw : m.w ≤ 2 ^ 44) (hK : ∀ w', Sat W w' l → K (.bool true) w') :
    CallP P F_law17_WireKinds [.int .i64 x0, .agg m.cells.toArray] w K := by
  apply c_law17_WireKinds
  unfold S_law17_WireKinds
  refine boxB h fun a0 w1 h1 => ?_
  have h1 : Sat W w1 (Blk a0 m.cells T_api_Msg :: l) := h1
  obtain ⟨n, hk, nn, nv, nw, hc⟩ : ∃ n : Ms, n.kind = x0 ∧ n.num ∧ MRd W l n ∧ n.w ≤ 2 ^ 44 ∧ m.cells.set (0 + 0) (.int .i64 x0) = n.cells :=
    ⟨{ m with kind := x0 }, rfl, ki_num hn hx, ⟨hv.rf, hv.fd, hv.cd, hv.bt, hv.mi, hv.bl, hv.al⟩, hw, rfl⟩
  refine stB h1 (o := 0) (i := 0) (hi := by rw [len59]; decide) fun w2 h2 => ?_
  rw [hc] at h2
  subst hk
  have hlb := mB_len nn nw
  refine ldAggB h2 (by kernel_rfl) ?_
  refine wencode_ok h2 nn nv.cons nw fun s w3 h3 => tup2 ?_
  refine awake17_ok h3 fun w4 h4 => tyI ?_
  simp only [Bool.not_true, ifB_false]
  have hsl := Sat.bsLen h4
  have off : (n.kind < 1 ∨ n.kind > 15) → ∀ {J : Sl → World → Prop}, (∀ s2 w', Sat W w' (BsR s2 (intB n.kind ++ [0, 0, 0, 0]) :: BsR s (mB n) :: Blk a0 n.cells T_api_Msg :: l) → J s2 w') →
      CallP P F_ref03_Int [.int .i64 n.kind] w4 fun v13 w14 => TyP .sl v13 fun (s15 : Sl) => RunK .sl P (Instr.buildSlice T_sl_uint8 4 #[(0, (.int .u8 0)), (1, (.int .u8 0)), (2, (.int .u8 0)), (3, (.int .u8 0))]) w14 fun (s16 : Sl) w17 =>
        RunK .sl P (Builtin.append_ #[T_sl_uint8, T_sl_uint8] T_sl_uint8 #[s15.v, s16.v]) w17 J := by
    intro _ J hJ
    refine rInt_ok h4 hx.1 hx.2 fun s5 w5 h5 => tyI (k := .sl) ?_
    refine fourB h5 fun s6 w6 h6 => ?_
    have h7 := h6.swap
    have := intB_len hx
    refine appBytes h7 h7.tail.rdc (by simp; omega) fun s8 w8 h8 => ?_
    exact hJ s8 w8 (h8.cut 1)
  have fin : (n.kind < 1 ∨ n.kind > 15) → ∀ (s2 : Sl) w', Sat W w' (BsR s2 (intB n.kind ++ [0, 0, 0, 0]) :: BsR s (mB n) :: Blk a0 n.cells T_api_Msg :: l) →
      CallP P F_wire_Decode [s2.v] w' fun (v20 : Value) w21 => TupP [.val, (.int .i64)] v20 fun (t22 : Value × Int × Unit) => RunK .addr P (Instr.alloc T_api_Msg true (.tuple #[])) w21 fun (a23 : Addr) w24 =>
        StoreP P T_api_Msg (.pointer (some a23)) t22.1 w24 fun w25 => ifB (mE n == 1) (ifB (((s.len : Nat) : Int) == 0) (K (.bool (t22.snd.fst != 0)) w25) (K (.bool false) w25)) (K (.bool false) w25) := by
    intro hk s2 w' h'
    have e1 : mE n = 1 := by unfold mE; rw [if_pos hk]
    have e0 : mB n = [] := mB_0 (by rw [e1]; decide)
    have := intB_len hx
    refine decode_any h' Rd.own (by simp; omega) fun x y w5 hd h5 => tup2v ?_
    refine newMs h5 x fun ax w6 h6 => ?_
    rw [e0] at hsl
    simp only [List.length_nil] at hsl
    have hy : y ≠ 0 := by
      rcases hd with ⟨hy, _⟩ | ⟨_, hb, _⟩
      · exact hy
      · exact absurd (bad_kind hx hk _) hb
    refine ifB_beq (fun _ => ?_) fun hne => absurd e1 hne
    refine ifB_beq (fun _ => ?_) fun hne => absurd (show ((s.len : Nat) : Int) = 0 by omega) hne
    have : ((y, ()).fst != 0) = true := by simpa using hy
    simp only [this]
    exact hK w6 (h6.tail.tail.tail.tail.tail)
  refine ⟨fun _ w' => (1 ≤ n.kind ∧ n.kind ≤ 15) ∧ Sat W w' (BsR s (mB n) :: Blk a0 n.cells T_api_Msg :: l), ?_, ?_⟩
  · rintro _ w5 ⟨hk, h5⟩
    refine ifB_bne (fun hne => ?_) fun h0 => ?_
    · have hne : mE n ≠ 0 := hne
      rw [mB_0 hne] at hsl
      simp only [List.length_nil] at hsl
      refine ifB_beq (fun _ => ?_) fun hne => absurd (show ((s.len : Nat) : Int) = 0 by omega) hne
      exact hK w5 h5.tail.tail
    · have h0 : mE n = 0 := h0
      refine ifB_beq (fun _ => ?_) fun hne => absurd h0 hne
      have ed : mB n = encMd n.d := by rw [mB_1 h0, lyM_o nn h0]
      have ez : intB n.kind = [UInt8.ofNat (2 * n.kind).toNat] := by
        unfold intB zig
        rw [if_pos (by omega), uintB_small (by omega)]
      have e2 : ∃ r, mB n = UInt8.ofNat (2 * n.kind).toNat :: r := by
        refine ⟨(n.hd.drop 1).flatMap intB ++ encRest n.rest, ?_⟩
        rw [ed]
        show n.hd.flatMap intB ++ encRest n.rest = _
        simp only [Ms.hd, List.flatMap_cons, ez, List.drop_succ_cons, List.drop_zero, List.cons_append, List.nil_append]
      obtain ⟨r, hr⟩ := e2
      have h6 := h5
      rw [hr] at h6
      refine ixld et_bytes h6.rdc (by omega) (k := .int .u8) (x := 2 * n.kind) ?_ ?_
      · have : ((UInt8.ofNat (2 * n.kind).toNat).toNat : Int) = 2 * n.kind := by
          rw [UInt8.toNat_ofNat']
          omega
        show some (Value.int .u8 ((UInt8.ofNat (2 * n.kind).toNat).toNat : Int)) = _
        rw [this]
      · rw [show (IntKind.i64.wrap (2 * n.kind) == IntKind.i64.wrap (2 * n.kind)) = true from by simp]
        exact hK w5 h5.tail.tail
  · refine ifB_dec (fun hlt => off (.inl hlt) (fin (.inl hlt))) fun h1 => ?_
    refine ifB_dec (fun hgt => off (.inr hgt) (fin (.inr hgt))) fun h2 => ⟨⟨by omega, by omega⟩, h4⟩
end
end Go.Proofs.Ytokogdigfohbeaa
