/- Layer 19: a client writes all its values. -/
import Derived.Test.YtajhdjjmhfbhgaaKVm
namespace Go.Proofs.Ytajhdjjmhfbhgaa
open Go Go.Pk
def mqOf (q : Aq) : Rp := ⟨q.kind, q.corr, 0, q.offset, q.inc, q.pid, q.epoch, q.commit, q.gen, ⟨none, 0, 0⟩, [], ⟨none, 0, 0⟩, [], ⟨none, 0, 0⟩, [], 0⟩
theorem mq_rd {W : World} {l : List Res} (q : Aq) : RpRd W l (mqOf q) := ⟨Rd.nil rfl, Rd.nil rfl, (fun d hd => by cases hd), Rd.nil rfl⟩
/-- where a client that writes stands, and its server -/
def WrS (ol : List Oc) (E : Int) (n : Nat) (t : Bool) (os : Sl) (c : Cl) (s : Sv) (i : Nat) : Prop :=
  (s.os = os ∧ s.ep = E ∧ s.cm = t ∧ s.fin = false) ∧
  ((i = 0 ∧ Q0 ol c ∧ s.a0 = false ∧ s.at_ = 0) ∨ (i = 1 ∧ Q1 ol E c ∧ s.a0 = false ∧ s.at_ = 0) ∨ (∃ k : Nat, i = k + 2 ∧ k < n ∧ Q2 ol E k c ∧ s.a0 = true ∧ s.at_ = k) ∨ (i = n + 2 ∧ Q3 ol E n t c ∧ s.a0 = true ∧ s.at_ = n))
section
variable {W w : World} {l : List Res} {K : Value → World → Prop} {b g gs : Nat} {c : Cl} {cf : Cf} {nn : Int} {hs : Hs} {ol : List Oc} {E : Int} {n : Nat} {t : Bool} {f : Fx} {os : Sl} {sv : Sv}
set_option maxRecDepth 20000 in
theorem writes_ok (h : Sat W w (ClM b c :: Blk gs sv.cells T_penstocklaw19_server :: Blk g (hcells cf nn b hs) T_penstocklaw19_hold :: l)) (hp : Prog ol n t) (hE : 0 ≤ E) (hos : os.len = n + 1) (hf : f.ok) (q : Inv f [] 0 c) (ho : c.out = none)
    (h0 : Q0 ol c.tick ∧ ∃ to, c.tick.out = some to) (hsv : sv = ⟨os, E, t, false, 0, 0, false⟩)
    (hK : ∀ (c' : Cl) (sv' : Sv) w', Q3 ol E n t c' → c'.out = none → sv'.ep = E → Inv f [] 1000 c' → Sat W w' (ClM b c' :: Blk gs sv'.cells T_penstocklaw19_server :: Blk g (hcells cf nn b hs) T_penstocklaw19_hold :: l) → K (.bool true) w') :
    CallP P F_law19_hold_writes [.pointer (some ⟨g, 0, none⟩), .pointer (some ⟨gs, 0, none⟩)] w K := by
  apply c_law19_hold_writes
  unfold S_law19_hold_writes
  have hsm := hp.small
  have hg : Sat W w (Blk g (hcells cf nn b hs) T_penstocklaw19_hold :: ClM b c :: Blk gs sv.cells T_penstocklaw19_server :: l) := h.sel 3 [2, 0, 1]
  refine ldX hg 5 (k := .ptr) (x := some ⟨b, 0, none⟩) ?_
  refine tstep h hf q ho (by omega) fun s vs w1 hvs q1 h1 => tyI (k := .sl) ?_
  obtain ⟨z0, to, z1⟩ := h0
  generalize c.tick = ct at z0 z1 hvs q1 h1
  have e0 : outL ct vs = ({ ct.asked with to := to } : Aq).cells vs := by unfold outL; rw [z1]
  rw [e0] at h1
  refine ⟨fun z w' => ∃ (i : Nat) (d : Cl) (vs : Sl) (s2 : Sv) (to : Int), z.2.1 = i ∧ i ≤ n + 2 ∧ WrS ol E n t os d s2 i ∧ d.out = none ∧ vs.len = d.asked.vals.length ∧ Inv f [] (1 + 24 * i) d ∧
      Sat W w' (SlR T_api_Msg 59 z.1 (({ d.asked with to := to } : Aq).cells vs) :: ClM b d :: Blk gs s2.cells T_penstocklaw19_server :: Blk g (hcells cf nn b hs) T_penstocklaw19_hold :: l), fun z _ => 40 - z.2.1.toNat,
    ?_, ?_⟩
  · have hw0 : WrS ol E n t os { ct with out := none } sv 0 := ⟨by rw [hsv]; exact ⟨rfl, rfl, rfl, rfl⟩, .inl ⟨rfl, z0, by rw [hsv], by rw [hsv]⟩⟩
    have q0 : Inv f [] (1 + 24 * 0) { ct with out := none } := q1.taken.mono (by omega)
    exact ⟨0, { ct with out := none }, vs, sv, to, rfl, Nat.zero_le _, hw0, rfl, hvs, q0, h1⟩
  rintro ⟨s, i', u⟩ w2 ⟨i, d, vs, s2, to, hi, hin, hw, hout, hvl, q2, h2⟩
  simp only at hi h2 ⊢
  subst hi
  refine ifB_dec (fun _ => ?_) fun hge => absurd (by omega) hge
  have hsl : s.len = 1 := by
    have e : 59 = s.len * 59 := h2.slLen.1
    omega
  refine ifB_beq (fun h0 => absurd h0 (by omega)) fun _ => ?_
  have hsr : RdC w2 s 59 (elM.flat [({ d.asked with to := to }, vs)]) := by rw [flat_one]; exact h2.rdc
  refine ixEl (E := elM) et_msgs rfl hsr (i := 0) (x := ({ d.asked with to := to }, vs)) (by decide) rfl (by show 0 < s.len; omega) fun A hA => ?_
  refine ldAggC (cs := ({ d.asked with to := to } : Aq).cells vs) hA ?_
  have h3 : Sat W w2 (Blk gs s2.cells T_penstocklaw19_server :: ClM b d :: Blk g (hcells cf nn b hs) T_penstocklaw19_hold :: l) := (h2.sel 4 [2, 1, 3])
  obtain ⟨⟨v1, v2, v3, v4⟩, hw⟩ := hw
  -- what follows an answer that isn't the last
  have rest : ∀ (qa : Aq) (s3 : Sv) w3, s3.fin = false → WrS ol E n t os (d.handle (mqOf qa)) s3 (i + 1) → (∃ to, (d.handle (mqOf qa)).out = some to) → i + 1 ≤ n + 2 →
      Sat W w3 (Blk gs s3.cells T_penstocklaw19_server :: ClM b d :: Blk g (hcells cf nn b hs) T_penstocklaw19_hold :: l) → (RunK .addr P (Instr.alloc T_api_Msg true (.tuple #[])) w3 fun (a18 : Addr) w19 =>
            StoreP P T_api_Msg (.pointer (some a18)) (.agg (qa.cells nsl).toArray) w19 fun w20 =>
             JoinP (T := Unit) (fun J21 =>
              ifB (!true)
               (K (.bool true) w20)
               (nilCk (some ⟨gs, 0, none⟩) fun (a24 : Addr) =>
                RunQ .bool P (Instr.loadAt T_bool (.pointer (some (a24.add 10)))) w20 fun (b25 : Bool) =>
                ifB b25
                (K (.bool true) w20)
                (J21 (some ()) w20)))
              fun t22 w23 =>
              ∃ S26 : World → Prop, (S26 w23.drew) ∧
                nilCk (some ⟨g, 0, none⟩) fun (a27 : Addr) =>
                HRun S26 .ptr P (Instr.loadAt T_p_client_Client (.pointer (some (a27.add 5)))) fun (p28 : Option Addr) =>
                HRun S26 .val P (Instr.loadAt T_api_Msg (.pointer (some a18))) fun (v29 : Value) =>
                CallP P F_client_Client_Handle [(.pointer p28), v29] w23.drew fun (v30 : Value) w31 =>
                TyP .sl v30 fun (s32 : Sl) =>
                (S26 w31) ∧ ((∃ (i1 : Nat) (d : Cl) (vs : Sl) (s2 : Sv) (to : Int), IntKind.i64.wrap ((i : Int) + 1) = i1 ∧ i1 ≤ n + 2 ∧ WrS ol E n t os d s2 i1 ∧ d.out = none ∧ vs.len = d.asked.vals.length ∧ Inv f [] (1 + 24 * i1) d ∧
      Sat W w31 (SlR T_api_Msg 59 s32 (({ d.asked with to := to } : Aq).cells vs) :: ClM b d :: Blk gs s2.cells T_penstocklaw19_server :: Blk g (hcells cf nn b hs) T_penstocklaw19_hold :: l)) ∧ 40 - (IntKind.i64.wrap ((i : Int) + 1)).toNat < 40 - ((i : Int)).toNat)) := by
    rintro qa s3 w3 hfin hws ⟨to3, hto3⟩ hi1 h4
    refine newAgg (z := zAq.cells nsl) (cs := qa.cells nsl) h4 (Aq.ones _ _) fun y w4 h5 => ?_
    refine ⟨fun _ w' => Sat W w' (Blk y (qa.cells nsl) T_api_Msg :: Blk gs s3.cells T_penstocklaw19_server :: ClM b d :: Blk g (hcells cf nn b hs) T_penstocklaw19_hold :: l), ?_, ?_⟩
    · rintro _ w5 h6
      let S : World → Prop := fun w => ∃ L, Sat W w (Blk y (qa.cells nsl) T_api_Msg :: Blk g (hcells cf nn b hs) T_penstocklaw19_hold :: L)
      have h7 : Sat W w5.drew (ClM b d :: Blk y (qa.cells nsl) T_api_Msg :: Blk g (hcells cf nn b hs) T_penstocklaw19_hold :: Blk gs s3.cells T_penstocklaw19_server :: l) := h6.drew.sel 4 [2, 0, 3, 1]
      refine ⟨S, ⟨_, h7.sel 3 [1, 2, 0]⟩, ?_⟩
      refine hldX (S := S) (fun w ⟨L, h⟩ => ⟨_, h.swap⟩) 5 (k := .ptr) (x := some ⟨b, 0, none⟩) ?_
      refine hldAggB (S := S) (cs := qa.cells nsl) (fun w ⟨L, h⟩ => ⟨_, h⟩) (by kernel_rfl) ?_
      refine hstep (f := f) (sn := []) (N := 1 + 24 * i) h7 (rpC_of qa nsl) (mq_rd qa) ⟨rfl, rfl⟩ hf q2 hout (by omega) fun s5 vs5 w6 hv5 q5 h8 => tyI (k := .sl) ?_
      have hv5 : vs5.len = (d.handle (mqOf qa)).asked.vals.length := hv5
      have q5 : Inv f [] (1 + 24 * i + 24) (d.handle (mqOf qa)) := q5
      have h8 : Sat W w6 (SlR T_api_Msg 59 s5 (outL (d.handle (mqOf qa)) vs5) :: ClM b { d.handle (mqOf qa) with out := none } :: Blk y (qa.cells nsl) T_api_Msg :: Blk g (hcells cf nn b hs) T_penstocklaw19_hold :: Blk gs s3.cells T_penstocklaw19_server :: l) := h8
      generalize d.handle (mqOf qa) = d2 at *
      have e5 : outL d2 vs5 = ({ d2.asked with to := to3 } : Aq).cells vs5 := by unfold outL; rw [hto3]
      rw [e5] at h8
      refine ⟨⟨_, h8.sel 4 [2, 3, 0, 1]⟩, ?_⟩
      rw [w_i64 (by omega) (by omega)]
      exact ⟨⟨i + 1, { d2 with out := none }, vs5, s3, to3, rfl, hi1, hws, rfl, hv5, q5.taken.mono (by omega), h8.sel 5 [0, 1, 4, 3]⟩, by omega⟩
    · simp only [Bool.not_true, ifB_false]
      refine ldX h5.swap 10 (k := .bool) (x := s3.fin) ?_
      rw [hfin]
      exact h5
  rcases hw with ⟨hi, qq, a1, a2⟩ | ⟨hi, qq, a1, a2⟩ | ⟨k, hi, hk, qq, a1, a2⟩ | ⟨hi, qq, a1, a2⟩
  · have kk : d.asked.kind = 7 := qq.2.2.2.2.2.1
    have ki : d.asked.inc = 0 := qq.2.2.2.2.2.2.2.1
    let qa : Aq := { re0 ({ d.asked with to := to } : Aq) with pid := 7, epoch := s2.ep, offset := -1 }
    refine all_pass (q := qa) (t := true) (R := Blk gs ({ s2 with ins := IntKind.i64.wrap (s2.ins + 1) } : Sv).cells T_penstocklaw19_server :: ClM b d :: Blk g (hcells cf nn b hs) T_penstocklaw19_hold :: l) h3 (by show d.asked.kind ≠ 5; omega) (fun l' w1 K' h1 hK' => answer_init h1 kk hK') fun w4 h4 => tup2vb ?_
    have gg := go0 (m := mqOf qa) hp hE qq rfl rfl ki rfl rfl v2
    exact rest qa { s2 with ins := IntKind.i64.wrap (s2.ins + 1) } w4 v4 ⟨⟨v1, v2, v3, v4⟩, .inr (.inl ⟨by omega, gg.1, a1, a2⟩)⟩ gg.2 (by omega) h4
  · have kk : d.asked.kind = 8 := qq.2.2.2.2.2.2.2.2.2.2.2.1
    have ki : d.asked.inc = 0 := qq.2.2.2.2.2.2.2.2.2.2.2.2.2.1
    have kp : d.asked.pid = 7 := qq.2.2.2.2.2.2.2.2.2.2.2.2.2.2.1
    have ke : d.asked.epoch = E := qq.2.2.2.2.2.2.2.2.2.2.2.2.2.2.2.1
    have ko : d.asked.offset = 0 := qq.2.2.2.2.2.2.2.2.2.2.2.2.2.2.2.2
    let qa : Aq := re0 ({ d.asked with to := to } : Aq)
    refine all_pass (q := qa) (t := true) (R := Blk gs ({ s2 with a0 := true } : Sv).cells T_penstocklaw19_server :: ClM b d :: Blk g (hcells cf nn b hs) T_penstocklaw19_hold :: l) h3 (by show d.asked.kind ≠ 5; omega) (fun l' w1 K' h1 hK' => answer_add h1 kk kp (ke.trans v2.symm) ko a1 hK') fun w4 h4 => tup2vb ?_
    have gg := go1 (m := mqOf qa) hp hE qq rfl rfl ki rfl
    have hpos := hp.pos
    exact rest qa { s2 with a0 := true } w4 v4 ⟨⟨v1, v2, v3, v4⟩, .inr (.inr (.inl ⟨0, by omega, hpos, gg.1, rfl, a2⟩))⟩ gg.2 (by omega) h4
  · have kk : d.asked.kind = 5 := qq.2.2.2.2.2.2.2.2.2.2.2.1
    have kv : d.asked.vals.length = 1 := qq.2.2.2.2.2.2.2.2.2.2.2.2.1
    have ki : d.asked.inc = 0 := qq.2.2.2.2.2.2.2.2.2.2.2.2.2.1
    have kp : d.asked.part = 0 := qq.2.2.2.2.2.2.2.2.2.2.2.2.2.2.1
    have ke : d.asked.be = E := qq.2.2.2.2.2.2.2.2.2.2.2.2.2.2.2.1
    have ko : d.asked.bs = k := qq.2.2.2.2.2.2.2.2.2.2.2.2.2.2.2.2
    let qa : Aq := { re0 ({ d.asked with to := to } : Aq) with offset := s2.at_ }
    refine all_send h3 kk kp a1 (ko.trans a2.symm) (ke.trans v2.symm) (by omega) fun w4 h4 => tup2vb ?_
    have gg := go2 (m := mqOf qa) hp hE hk qq rfl rfl ki rfl
    have hw1 : IntKind.i64.wrap (s2.at_ + 1) = (k : Int) + 1 := by rw [a2]; exact w_i64 (by omega) (by omega)
    refine rest qa { s2 with at_ := IntKind.i64.wrap (s2.at_ + 1) } w4 v4 ⟨⟨v1, v2, v3, v4⟩, ?_⟩ gg.2 (by omega) h4
    rcases gg.1 with ⟨g1, g2⟩ | ⟨g1, g2⟩
    · exact .inr (.inr (.inl ⟨k + 1, by omega, g1, g2, a1, hw1⟩))
    · exact .inr (.inr (.inr ⟨by omega, g2, a1, hw1.trans (by omega)⟩))
  · have kk : d.asked.kind = 9 := qq.2.2.2.2.2.2.2.1
    have kp : d.asked.pid = 7 := qq.2.2.2.2.2.2.2.2.2.2.1
    have ke : d.asked.epoch = E := qq.2.2.2.2.2.2.2.2.2.2.2.1
    have kc : d.asked.commit = t := qq.2.2.2.2.2.2.2.2.2.2.2.2
    have hat : s2.at_ = IntKind.i64.wrap ((s2.os.len : Int) - 1) := by rw [a2, v1, hos, w_i64 (by omega) (by omega)]; omega
    refine all_pass (q := { re0 ({ d.asked with to := to } : Aq) with epoch := IntKind.i64.wrap (s2.ep + 2) }) (t := true) (R := Blk gs ({ s2 with fin := true } : Sv).cells T_penstocklaw19_server :: ClM b d :: Blk g (hcells cf nn b hs) T_penstocklaw19_hold :: l) h3 (by show d.asked.kind ≠ 5; omega) (fun l' w1 K' h1 hK' => answer_end h1 kk kp (ke.trans v2.symm) (kc.trans v3.symm) hat hK') fun w4 h4 => tup2vb ?_
    refine newAgg (z := zAq.cells nsl) (cs := ({ re0 ({ d.asked with to := to } : Aq) with epoch := IntKind.i64.wrap (s2.ep + 2) } : Aq).cells nsl) h4 (Aq.ones _ _) fun y w5 h5 => ?_
    refine ⟨fun _ _ => False, fun _ _ hf => hf.elim, ?_⟩
    simp only [Bool.not_true, ifB_false]
    refine ldX h5.swap 10 (k := .bool) (x := true) ?_
    simp only [ifB_true]
    exact hK d { s2 with fin := true } w5 qq hout v2 (q2.mono (by omega)) (h5.tail.swap)
end
end Go.Proofs.Ytajhdjjmhfbhgaa
