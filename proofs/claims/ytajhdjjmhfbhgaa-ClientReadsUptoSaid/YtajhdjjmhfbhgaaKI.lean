/- Layer 19: awake; the laws of none and of settings. -/
import Derived.Test.YtajhdjjmhfbhgaaKH
import Derived.Test.YtajhdjjmhfbhgaaFKc
namespace Go.Proofs.Ytajhdjjmhfbhgaa
open Go Go.Pk
def wOp : Oc := ⟨1, 0, 0, 0, ⟨#[97]⟩⟩
def oneC (cs x : Sl) (ol : List Oc) : Cf := ⟨1, 1, 1, cs, [⟨0, x, ol⟩]⟩
section
variable {W w : World} {l : List Res} {K : Value → World → Prop} {b : Nat} {c : Cl} {p : ClP}
/-- a cell of an element is read -/
theorem ixCell {t e sz by_ : Nat} (et : ET P t e sz by_) {s : Sl} {xs : List Value} (h : RdC w s sz xs) {ik : IntKind} {i : Int} (j : Nat) {k : Kd} {t' : TypeId} {x : k.Ty} {K : k.Ty → Prop} (h0 : 0 ≤ i) (h1 : i.toNat < s.len) (hj : j < sz)
    (hx : xs[i.toNat * sz + j]? = some (k.v x)) (hK : K x) (ht : oneT P t' = true := by kernel_rfl) :
    RunQ .addr P (Instr.indexAt t s.v (.int ik i)) w fun a => RunQ k P (Instr.loadAt t' (.pointer (some (a.add j)))) w K :=
  ixA et h h0 h1 fun a ha => ldC (ha j _ hj hx) hK ht
theorem tup2p {a : Option Addr} {e : Int} {K : Option Addr × Int × Unit → Prop} (h : K (a, e, ())) : TupP [.ptr, .int .i64] (.tuple #[.pointer a, .int .i64 e]) K := ⟨_, rfl, h⟩
theorem oneC_rd {cs x : Sl} {ol : List Oc} (hx : Rd W l x 5 (elO.flat ol)) : CfRd W (SlR T_api_Program 2 cs [.int .i64 0, x.v] :: l) (oneC cs x ol) :=
  ⟨Rd.own, fun p hp => by
    have : p = ⟨0, x, ol⟩ := by simpa [oneC] using hp
    subst this
    exact hx.cons⟩
theorem quiet_one {cs x : Sl} {ol : List Oc} {p : Pr} (hp : (oneC cs x ol).cl[(0 : Int).toNat]? = some p) (hl : ol.length ≤ 64) (hk : ∀ o ∈ ol, 1 ≤ o.kind ∧ o.kind ≤ 3) : Quiet (newC (oneC cs x ol) 0 p) ∧ p = ⟨0, x, ol⟩ := by
  have e : p = ⟨0, x, ol⟩ := by
    have : some (⟨0, x, ol⟩ : Pr) = some p := hp
    exact (Option.some.inj this).symm
  subst e
  exact ⟨⟨by show (-1 : Int) < 0; decide, rfl, rfl, ⟨by show (1 : Int) ≤ 1; decide, by show (1 : Int) ≤ 4; decide⟩, rfl, Int.le_refl 0, hl, hk⟩, rfl⟩
theorem outLen {s : Sl} (h : Sat W w (SlR T_api_Msg 59 s (outL c p.vs) :: l)) : (c.out = none → s.len = 0) ∧ (∀ to, c.out = some to → s.len = 1) := by
  have := h.slLen.1
  constructor
  · intro ho
    rw [outL_none ho] at this
    simp at this; omega
  · intro to ho
    unfold outL at this
    rw [ho] at this
    simp only [Aq.len] at this
    omega
theorem awake19_ok (h : Sat W w l) (hK : ∀ w', Sat W w' l → K (.bool true) w') : CallP P F_law19_awake [] w K := by
  apply c_law19_awake
  unfold S_law19_awake
  refine one_ok (x := ⟨none, 0, 0⟩) h fun cs1 w1 h1 => tyI (k := .val) ?_
  refine new_ok (c := oneC cs1 ⟨none, 0, 0⟩ []) (n := 0) h1 (oneC_rd (Rd.nil rfl)) (by decide) (fun hb w' _ => ?_) fun p1 b1 w2 _ _ hp1 h2 => tup2p ?_
  · rcases hb with hb | hb | hb
    · cases hb
    · exact absurd hb (by decide)
    · exact absurd hb (by show ¬ (0 : Int) ≥ (1 : Nat); decide)
  obtain ⟨q1, rfl⟩ := quiet_one hp1 (Nat.zero_le _) (by intro o ho; cases ho)
  refine bsB h2 (cs := wOp.cells) (e := T_api_Op) (fun w => by kernel_rfl) fun g w3 h3 => ?_
  have h4 : Sat W w3 (SlR T_api_Op 5 ⟨some ⟨g, 0, none⟩, 1, 1⟩ (elO.flat [wOp]) :: _) := h3.mkSlr rfl (by simp) (by simp) (by show 0 + 1 * 5 ≤ 5; decide) rfl (Oc.ones _)
  refine one_ok (x := ⟨some ⟨g, 0, none⟩, 1, 1⟩) h4 fun cs2 w4 h5 => tyI (k := .val) ?_
  refine new_ok (c := oneC cs2 ⟨some ⟨g, 0, none⟩, 1, 1⟩ [wOp]) (n := 0) h5 (oneC_rd Rd.own) (by decide) (fun hb w' _ => ?_) fun p2 b2 w5 _ _ hp2 h6 => tup2p ?_
  · rcases hb with hb | hb | hb
    · cases hb
    · exact absurd hb (by decide)
    · exact absurd hb (by show ¬ (0 : Int) ≥ (1 : Nat); decide)
  obtain ⟨q2, rfl⟩ := quiet_one hp2 (by simp) (by intro o ho; simp at ho; subst ho; exact ⟨by decide, by decide⟩)
  generalize hc1 : newC (oneC cs1 ⟨none, 0, 0⟩ []) 0 ⟨0, ⟨none, 0, 0⟩, []⟩ = c1 at q1 h6
  generalize hc2 : newC (oneC cs2 ⟨some ⟨g, 0, none⟩, 1, 1⟩ [wOp]) 0 ⟨0, ⟨some ⟨g, 0, none⟩, 1, 1⟩, [wOp]⟩ = c2 at q2 h6
  have h7 : Sat W w5 (ClM b1 c1 :: ClM b2 c2 :: l) := h6.sel 5 [3, 0]
  refine ⟨fun _ w' => Sat W w' (ClM b1 c1 :: ClM b2 c2 :: l), ?_, ?_⟩
  · rintro _ w6 h8
    refine tick0_ok h8 q1 (by subst hc1; rfl) (by subst hc1; exact Nat.zero_le _) fun p3 w7 h9 => tyI (k := .sl) ?_
    have o1 : c1.dec0.out = none := by subst hc1; rfl
    have l1 := (outLen h9).1 o1
    have h10 : Sat W w7 (ClM b2 c2 :: ClM b1 { c1.dec0 with out := none } :: l) := (sat_cl.2 ⟨_, h9.tail⟩).swap
    refine tick0_ok h10 q2 (by subst hc2; rfl) (by subst hc2; exact Nat.zero_le _) fun p4 w8 h11 => tyI (k := .sl) ?_
    have o2 : c2.dec0.out = some 0 := by subst hc2; kernel_rfl
    have l2 := (outLen h11).2 0 o2
    have h12 : Sat W w8 (ClM b1 { c1.dec0 with out := none } :: SlR T_api_Msg 59 p4.out (outL c2.dec0 p4.vs) :: l) := h11.sel 15 [14, 0]
    refine trace_ok h12 (by subst hc1; exact (show (1 : Nat) ≤ 1099511627776 by decide)) fun s25 w9 h13 => tyI (k := .sl) ?_
    refine ifB_beq (fun _ => ?_) fun hne => absurd (by omega) hne
    have e3 : elS.flat c1.dec0.seen = ({ zSn with kind := 7 } : Sn).cells := by subst hc1; rfl
    have h13 : Sat W w9 (SlR T_api_Seen 7 s25 (elS.flat c1.dec0.seen) :: _) := h13
    rw [e3] at h13
    have l3 := h13.slLen.1
    have l3 : s25.len = 1 := by
      have e : (7 : Nat) = s25.len * 7 := l3
      omega
    refine ifB_beq (fun _ => ?_) fun hne => absurd (by omega) hne
    refine ixCell et_seen h13.rdc 0 (x := (7 : Int)) (by omega) (by omega) (by decide) rfl ?_
    refine ifB_beq (fun _ => ?_) fun hne => absurd rfl hne
    refine ifB_beq (fun _ => ?_) fun hne => absurd (by omega) hne
    have h14 := h13.up 2
    have e4 : outL c2.dec0 p4.vs = ({ c2.dec0.asked with to := 0 } : Aq).cells p4.vs := by unfold outL; rw [o2]
    have h14 : Sat W w9 (SlR T_api_Msg 59 p4.out (outL c2.dec0 p4.vs) :: _) := h14
    rw [e4] at h14
    have a1 : c2.dec0.asked.kind = 7 := by subst hc2; kernel_rfl
    have a2 : c2.dec0.asked.frm = 1 := by subst hc2; kernel_rfl
    refine ixCell et_msgs h14.rdc 0 (x := c2.dec0.asked.kind) (by omega) (by omega) (by decide) rfl ?_
    refine ifB_beq (fun _ => ?_) fun hne => absurd a1 hne
    refine ixCell et_msgs h14.rdc 2 (x := (0 : Int)) (by omega) (by omega) (by decide) rfl ?_
    refine ifB_beq (fun _ => ?_) fun hne => absurd rfl hne
    refine ixCell et_msgs h14.rdc 1 (x := c2.dec0.asked.frm) (by omega) (by omega) (by decide) rfl ?_
    rw [a2]
    exact hK w9 h13.tail.tail.tail
  · exact h7
theorem law_none {cs : List Value} (hl : cs.length = 59) (h : Sat W w l) (hK : ∀ w', Sat W w' l → K (.bool true) w') : CallP P F_law19_ClientNone [.agg cs.toArray] w K := by
  apply c_law19_ClientNone
  unfold S_law19_ClientNone
  refine boxB h fun a w1 h1 => ?_
  have h1 : Sat W w1 (Blk a cs T_api_Msg :: l) := h1
  refine c_client_Client_Again (show S_client_Client_Again _ none w1 from ?_)
  refine tupU rfl ?_
  refine c_client_Client_State (show S_client_Client_State _ none w1 from ?_)
  refine ⟨(0, 0, false, ()), rfl, ?_⟩
  refine awake19_ok h1 fun w2 h2 => tyI ?_
  simp only [ifB_true]
  refine c_client_Client_Tick (show S_client_Client_Tick _ none w2 from ?_)
  refine tyI (k := .sl) (x := ⟨none, 0, 0⟩) ?_
  refine ifB_beq (fun _ => ?_) fun hne => absurd rfl hne
  refine ldAggB h2 (by rw [hl]; kernel_rfl) ?_
  refine c_client_Client_Handle (show S_client_Client_Handle _ none _ w2 from ?_)
  refine boxB h2 fun a2 w3 h3 => ?_
  refine ⟨fun _ _ => False, fun _ _ hf => hf.elim, ?_⟩
  refine (show TyP .sl (.slice none 0 0) _ from ?_)
  refine tyI (k := .sl) (x := ⟨none, 0, 0⟩) ?_
  refine ifB_beq (fun _ => ?_) fun hne => absurd rfl hne
  refine c_client_Client_Trace (show S_client_Client_Trace _ none w3.drew from ?_)
  refine tyI (k := .sl) (x := ⟨none, 0, 0⟩) ?_
  refine ifB_beq (fun _ => ?_) fun hne => absurd rfl hne
  exact hK w3.drew h3.drew.tail.tail
theorem law_checks {n : Int} {c : Cf} (h : Sat W w l) (hr : CfRd W l c) (hn : n < 9223372036854775808) (hK : ∀ w', Sat W w' l → K (.bool true) w') : CallP P F_law19_ClientChecks [.agg c.cells.toArray, .int .i64 n] w K := by
  apply c_law19_ClientChecks
  unfold S_law19_ClientChecks
  refine boxB h fun a w1 h1 => ?_
  have h1 : Sat W w1 (Blk a c.cells T_api_Config :: l) := h1
  have hcl : c.cs.len = c.cl.length := RdC.elen (E := elP) (hr.cl w h) (by decide)
  refine ldAggB h1 (by kernel_rfl) ?_
  refine client_Check_ok h1 hr.cons fun w2 h2 => ?_
  have e1 : (if cfBad c then Value.int .i64 1 else Value.int .i64 0) = .int .i64 (if cfBad c then 1 else 0) := by split <;> rfl
  rw [e1]
  refine tyI ?_
  refine ldAggB h2 (by kernel_rfl) ?_
  let wrong : Bool := cfBad c || (decide (n < 0) || decide (n ≥ c.cl.length))
  have rest : ∀ (t : Option Addr) (e : Int) w3, (e == 1) = wrong → t.isNone = wrong → (∀ w, Sat W w (Blk a c.cells T_api_Config :: l) → K (.bool true) w) → Sat W w3 (Blk a c.cells T_api_Config :: l) →
      JoinP (T := Bool × Unit) (fun J10 =>
        RunQ .val P (Instr.loadAt T_api_Config (.pointer (some ⟨a, 0, none⟩))) w3 fun (v13 : Value) =>
         CallP P F_law19_bad [v13] w3 fun (v14 : Value) w15 =>
          TyP .bool v14 fun (b16 : Bool) =>
           ifB b16
            (J10 (some (true, ())) w15)
            (ifB (decide (n < 0))
             (J10 (some (true, ())) w15)
             (RunQ .sl P (Instr.loadAt T_sl_api_Program (.pointer (some (Go.Addr.add ⟨a, 0, none⟩ 3)))) w15 fun (s17 : Sl) =>
              J10 (some ((decide (n ≥ (↑s17.len : Int))), ())) w15)))
        fun t11 w12 =>
        CallP P F_law19_awake [] w12 fun (v18 : Value) w19 =>
         TyP .bool v18 fun (b20 : Bool) =>
          ifB b20
           (RunQ .val P (Instr.loadAt T_api_Config (.pointer (some ⟨a, 0, none⟩))) w19 fun (v21 : Value) =>
            CallP P F_law19_bad [v21] w19 fun (v22 : Value) w23 =>
             TyP .bool v22 fun (b24 : Bool) =>
              ifB (((if cfBad c then 1 else 0 : Int) == 1) == b24)
               (RunQ .val P (Instr.loadAt T_api_Config (.pointer (some ⟨a, 0, none⟩))) w23 fun (v25 : Value) =>
                CallP P F_law19_bad [v25] w23 fun (v26 : Value) w27 =>
                TyP .bool v26 fun (b28 : Bool) =>
                ifB (((if cfBad c then 1 else 0 : Int) == 0) == !b28)
                (ifB ((e == 1) == t11.fst)
                (K (.bool (Option.isNone t == t11.fst)) w27)
                (K (.bool false) w27))
                (K (.bool false) w27))
               (K (.bool false) w23))
           (K (.bool false) w19) := by
    intro t e w3 he ht hk h3
    have e2 : (if cfBad c then Value.bool true else Value.bool false) = .bool (cfBad c) := by cases cfBad c <;> rfl
    refine ⟨fun t w' => t.1 = wrong ∧ Sat W w' (Blk a c.cells T_api_Config :: l), ?_, ?_⟩
    · rintro ⟨t11, u⟩ w4 ⟨h11, h4⟩
      simp only at h11
      subst h11
      refine awake19_ok h4 fun w5 h5 => tyI ?_
      simp only [ifB_true]
      refine ldAggB h5 (by kernel_rfl) ?_
      refine law19_bad_ok h5 hr.cons fun w6 h6 => ?_
      rw [e2]
      refine tyI ?_
      rw [show (((if cfBad c then 1 else 0 : Int) == 1) == cfBad c) = true from by cases cfBad c <;> rfl]
      simp only [ifB_true]
      refine ldAggB h6 (by kernel_rfl) ?_
      refine law19_bad_ok h6 hr.cons fun w7 h7 => ?_
      rw [e2]
      refine tyI ?_
      rw [show (((if cfBad c then 1 else 0 : Int) == 0) == !cfBad c) = true from by cases cfBad c <;> rfl]
      simp only [ifB_true]
      rw [he, ht, show (wrong == wrong) = true from by simp]
      exact hk w7 h7
    · refine ldAggB h3 (by kernel_rfl) ?_
      refine law19_bad_ok h3 hr.cons fun w4 h4 => ?_
      rw [e2]
      refine tyI ?_
      refine ifB_intro (fun hb => ⟨by simp [wrong, hb], h4⟩) fun hb => ?_
      refine ifB_dec (fun hn => ⟨by simp [wrong, hn], h4⟩) fun hn => ?_
      refine ldB h4 (o := 0) (i := 3) (k := .sl) (x := c.cs) ⟨?_, h4⟩
      simp only [wrong, hb, hcl, Bool.false_or]
      rw [decide_eq_false hn, Bool.false_or]
  refine new_ok h2 hr.cons hn (fun hb w3 h3 => tup2p ?_) fun p b w3 g1 g2 g3 h3 => tup2p ?_
  · have hw : wrong = true := by
      rcases hb with hb | hb | hb
      · simp [wrong, hb]
      · simp [wrong, hb]
      · simp [wrong, hb]
    exact rest none 1 w3 (by rw [hw]; rfl) (by rw [hw]; rfl) (fun w h => hK w h.tail) h3
  · have hlt : n.toNat < c.cl.length := (List.getElem?_eq_some_iff.1 g3).1
    have hw : wrong = false := by
      simp only [wrong, g1, Bool.false_or, Bool.or_eq_false_iff, decide_eq_false_iff_not]
      omega
    exact rest (some ⟨b, 0, none⟩) 0 w3 (by rw [hw]; rfl) (by rw [hw]; rfl) (fun w h => hK w h.tail) h3.tail
end
end Go.Proofs.Ytajhdjjmhfbhgaa
