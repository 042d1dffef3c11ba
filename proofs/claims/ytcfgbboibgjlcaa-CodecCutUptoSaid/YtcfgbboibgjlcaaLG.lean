/- Layer 3: the law of what was cut off. -/
import Derived.Test.YtcfgbboibgjlcaaLF
namespace Go.Proofs.Ytcfgbboibgjlcaa
open Go Go.Pk
/-- what the law does behind the cut -/
def CutTail (R : Value → World → Prop) (x0 : Sl) (p39 : Option Addr) (a40 : Addr) (w41 : World) : Prop :=
                LoopP (T := Int × Unit) (some (0, ())) w41 fun next42 t43 w44 =>
                ifB (decide (t43.fst < (↑x0.len : Int)))
                (RunQ .addr P (Instr.indexAt 39 x0.v (.int .i64 t43.fst)) w44 fun (a45 : Addr) =>
                RunQ .val P (Instr.loadAt 42 (.pointer (some a45))) w44 fun (v46 : Value) =>
                RunK .addr P (Instr.alloc 42 true (.tuple #[])) w44 fun (a47 : Addr) w48 =>
                StoreP P 42 (.pointer (some a47)) v46 w48 fun w49 =>
                RunQ (.int .i64) P (Instr.loadAt 3 (.pointer (some (Go.Addr.add a47 0)))) w49 fun (n50 : Int) =>
                CallP P F_law03_take [(.pointer p39), (.pointer (some a40)), (.int .i64 n50)] w49 fun (v51 : Value) w52 =>
                TyP .bool v51 fun (b53 : Bool) =>
                ifB (!b53)
                (R (.bool false) w52)
                (next42 (some ((IntKind.i64.wrap (t43.fst + 1)), ())) w52))
                (CallP P F_codec_Reader_State [(.pointer p39)] w44 fun (v54 : Value) w55 =>
                TupP [(.int .i64), (.int .i64), (.int .i64)] v54 fun (t56 : Int × Int × Int × Unit) =>
                ifB (t56.snd.snd.fst == 0)
                (R (.bool false) w55)
                (CallP P F_codec_Reader_State [(.pointer p39)] w55 fun (v57 : Value) w58 =>
                TupP [(.int .i64), (.int .i64), (.int .i64)] v57 fun (t59 : Int × Int × Int × Unit) =>
                CallP P F_codec_Reader_Uint [(.pointer p39)] w58 fun (v60 : Value) w61 =>
                TyP (.int .u64) v60 fun (n62 : Int) =>
                ifB (n62 == 0)
                (CallP P F_codec_Reader_Int [(.pointer p39)] w61 fun (v63 : Value) w64 =>
                TyP (.int .i64) v63 fun (n65 : Int) =>
                ifB (n65 == 0)
                (CallP P F_codec_Reader_Flag [(.pointer p39)] w64 fun (v66 : Value) w67 =>
                TyP .bool v66 fun (b68 : Bool) =>
                ifB (!b68)
                (CallP P F_codec_Reader_Fixed [(.pointer p39)] w67 fun (v69 : Value) w70 =>
                TyP (.int .u32) v69 fun (n71 : Int) =>
                ifB (n71 == 0)
                (CallP P F_codec_Reader_Bytes [(.pointer p39)] w70 fun (v72 : Value) w73 =>
                TyP .sl v72 fun (s74 : Sl) =>
                ifB ((↑s74.len : Int) == 0)
                (CallP P F_codec_Reader_Ints [(.pointer p39)] w73 fun (v75 : Value) w76 =>
                TyP .sl v75 fun (s77 : Sl) =>
                ifB ((↑s77.len : Int) == 0)
                (ifB (t56.fst == t59.fst)
                (ifB (t56.snd.snd.fst == t59.snd.snd.fst)
                (CallP P F_codec_Reader_End [(.pointer p39)] w76 fun (v78 : Value) w79 =>
                TyP (.int .i64) v78 fun (n80 : Int) =>
                R (.bool (n80 == t56.snd.snd.fst)) w79)
                (R (.bool false) w76))
                (R (.bool false) w76))
                (R (.bool false) w76))
                (R (.bool false) w73))
                (R (.bool false) w70))
                (R (.bool false) w67))
                (R (.bool false) w64))
                (R (.bool false) w61)))
section
variable {W w : World} {l : List Res} {K : Value → World → Prop}
theorem forms_le {its : List It} {i : Nat} : (forms (its.take i)).length ≤ (forms its).length := by
  have := congrArg List.length (congrArg forms (List.take_append_drop i its))
  simp only [forms, List.flatMap_append, List.length_append] at this ⊢; omega
theorem cut_tail {x0 s : Sl} {its : List It} {c a n : Nat} {t : List UInt8} (h : Sat W w (RdrR c t 0 0 :: RfR a s 0 0 :: l)) (hs : Rd W l s 1 (t.map vB)) (hx : Rd W l x0 6 (its.flatMap It.cells)) (hok : ∀ x ∈ its, x.ok W) (hsm : ∀ x ∈ its, x.small)
    (hl : its.length < 2 ^ 40) (hx0 : its.length = x0.len) (hte : t = (forms its).take n) (hn : n < (forms its).length) (htl : t.length ≤ 140737488355328) (hK : ∀ w', Sat W w' l → K (.bool true) w') : CutTail K x0 (some ⟨c, 0, none⟩) ⟨a, 0, none⟩ w := by
  have htn : t.length = n := by rw [hte, List.length_take]; omega
  refine ⟨fun z w' => ∃ (i p : Nat) (e : Int), z.1 = i ∧ i ≤ its.length ∧ p ≤ t.length ∧ (e = 0 → p = (forms (its.take i)).length) ∧ Sat W w' (RdrR c t p e :: RfR a s p e :: l), fun z _ => its.length - z.1.toNat,
    ⟨0, 0, 0, rfl, by omega, by omega, fun _ => rfl, h⟩, ?_⟩
  rintro ⟨i', u⟩ w1 ⟨i, p, e, hi, hil, hp, hpe, h1⟩
  simp only at hi ⊢
  subst hi
  refine ifB_dec (fun hlt => ?_) fun hge => ?_
  · have hi1 : i < its.length := by omega
    refine getOp h1 (Rd.cons (Rd.cons hx)) hi1 fun a2 w2 h2 => ?_
    have hm : its[i] ∈ its := List.getElem_mem hi1
    refine ldB h2 (i := 0) (x := its[i].k) ?_
    refine take_ok h2.tail hs hp htl fun w3 h3 => tyI ?_
    simp only [Bool.not_true, ifB_false]
    rw [w_i64 (by omega) (by omega)]
    refine ⟨⟨i + 1, _, _, rfl, by omega, takeS_bound hp, ?_, h3⟩, by omega⟩
    intro hz
    by_cases he : e = 0
    · subst he
      have hpf := hpe rfl
      have hd : t.drop p = (its[i].form ++ forms (its.drop (i + 1))).take (n - p) := by
        rw [hte, List.drop_take, hpf, forms_drop hi1]
      rcases Nat.lt_or_ge (n - p) its[i].form.length with hc | hc
      · exact absurd hz (takeS_cut (hok _ hm) (hsm _ hm) (cut_left hd (by omega)) hc)
      · rw [takeS_at (hok _ hm) (hsm _ hm) (cut_append hd hc), forms_succ hi1, List.length_append, hpf]
    · rw [takeS_err he] at hz
      exact absurd hz he
  · have he : e ≠ 0 := by
      intro he
      have h2 := hpe he
      rw [List.take_of_length_le (by omega)] at h2
      omega
    refine dState_ok h1 hp fun w2 h2 => ⟨(p, ((t.length - p : Nat) : Int), e, ()), rfl, ?_⟩
    refine ifB_beq (fun hh => absurd hh he) fun _ => ?_
    refine dState_ok h2 hp fun w3 h3 => ⟨(p, ((t.length - p : Nat) : Int), e, ()), rfl, ?_⟩
    refine dUint_ok h3 hp htl fun w4 h4 => tyI ?_
    rw [takeU_err he] at h4 ⊢
    refine ifB_beq (fun _ => ?_) fun hh => absurd rfl hh
    refine dInt_ok h4 hp htl fun w5 h5 => tyI ?_
    rw [takeI_err he] at h5 ⊢
    refine ifB_beq (fun _ => ?_) fun hh => absurd rfl hh
    refine dFlag_ok h5 hp htl fun w6 h6 => tyI ?_
    rw [takeF_err he] at h6 ⊢
    simp only [Bool.not_false, ifB_true]
    refine dFixed_ok h6 hp htl fun w7 h7 => tyI ?_
    rw [takeX_err he] at h7 ⊢
    refine ifB_beq (fun _ => ?_) fun hh => absurd rfl hh
    refine dBytes_ok h7 hp htl fun s1 w8 h8 => tyI ?_
    rw [takeB_err he] at h8
    have hb1 := Sat.bsLen h8
    refine ifB_beq (fun _ => ?_) fun hh => absurd (by simp at hb1; omega) hh
    refine dInts_ok h8.tail hp htl fun s2 w9 h9 => tyI ?_
    rw [takeL_err he] at h9
    have hb2 := Sat.isLen h9
    refine ifB_beq (fun _ => ?_) fun hh => absurd (by simp at hb2; omega) hh
    refine ifB_beq (fun _ => ?_) fun hh => absurd rfl hh
    refine ifB_beq (fun _ => ?_) fun hh => absurd rfl hh
    refine dEnd_ok h9.tail fun w10 h10 => tyI ?_
    have hee : endE t p e = e := by unfold endE; rw [if_neg (fun hh => he hh.1)]
    rw [hee]
    simp only [beq_self_eq_true]
    exact hK w10 h10.tail.tail
theorem law_cut {x0 : Sl} {x1 : Int} {its : List It} (h : Sat W w l) (h0 : 0 ≤ x1) (h1 : x1 < 65536) (hx : Rd W l x0 6 (its.flatMap It.cells)) (hok : ∀ x ∈ its, x.ok W) (hw : itW its < 2 ^ 40) (hold : ∀ {s' : Sl} {xs : List Value}, RdC W s' 1 xs → Rd W l s' 1 xs)
    (hK : ∀ w', Sat W w' l → K (.bool true) w') : CallP P F_law03_CodecCut [x0.v, .int .u16 x1] w K := by
  apply c_law03_CodecCut
  unfold S_law03_CodecCut
  have hl := (hx w h).1
  rw [ops_len] at hl
  have hil := itW_len its
  refine newWriter_ok h fun b w1 h1' => tyI ?_
  refine ⟨fun _ w' => Sat W w' (WrR b [] 0 :: l), ?_, ?_⟩
  · rintro _ w2 h2
    refine ⟨fun z w' => ∃ (i : Nat), z.2.1 = i ∧ i ≤ its.length ∧ (∀ x ∈ its.take i, x.small) ∧ Sat W w' (WrN (some b) (forms (its.take i)) 0 :: BsR z.1 (forms (its.take i)) :: l), fun z _ => its.length - z.2.1.toNat,
      ⟨0, rfl, by omega, by simp, (h2.nilSlr T_uint8 1).swap⟩, ?_⟩
    rintro ⟨s, i', u⟩ w3 ⟨i, hi, hile, hsm, h3⟩
    simp only at hi h3 ⊢
    subst hi
    have hfl := forms_len (l := its.take i) (fun x hx => hok x (List.mem_of_mem_take hx)) (by have := itW_take its i; omega)
    have hft := itW_take its i
    refine ifB_dec (fun hlt => ?_) fun hge => ?_
    · have hi1 : i < its.length := by omega
      refine getOp h3 (Rd.cons (Rd.cons hx)) hi1 fun a w4 h4 => ?_
      have hm : its[i] ∈ its := List.getElem_mem hi1
      have hwt := itW_mem hm
      have hbl := (hok _ hm).2.2.2.2.2.1.1
      have hnl := (hok _ hm).2.2.2.2.2.2.1
      simp at hbl hnl
      refine ⟨fun _ w' => its[i].small ∧ Sat W w' (Blk a its[i].cells T_penstocklaw03_Op :: WrN (some b) (forms (its.take i)) 0 :: BsR s (forms (its.take i)) :: l), ?_, ?_⟩
      · rintro _ w5 ⟨hs, h5⟩
        refine ldAggB h5 (by kernel_rfl) ?_
        have h6 : Sat W w5 (WrN (some b) (forms (its.take i)) 0 :: BsR s (forms (its.take i)) :: Blk a its[i].cells T_penstocklaw03_Op :: l) := h5.perm ((List.Perm.swap _ _ _).trans (List.Perm.cons _ (List.Perm.swap _ _ _)))
        refine lay_ok (p := some b) h6 (hok _ hm) (fun hr => Rd.cons (hold hr)) (by omega) (by omega) (by omega) fun s' w6 h7 => tyI ?_
        rw [← forms_succ hi1, small_err hs] at h7
        have h8 := h7.rot3.tail.swap
        rw [w_i64 (by omega) (by omega)]
        refine ⟨⟨i + 1, rfl, by omega, ?_, h8⟩, by omega⟩
        intro x hx
        rw [List.take_add_one, List.getElem?_eq_getElem hi1] at hx
        rcases List.mem_append.1 hx with hx | hx
        · exact hsm x hx
        · simp at hx; exact hx ▸ hs
      · refine ldB h4 (i := 4) (x := its[i].b) ?_
        refine ifB_dec (fun _ => hK w4 h4.tail.tail.tail) fun hc1 => ?_
        refine ldB h4 (i := 5) (x := its[i].n) ?_
        refine ifB_dec (fun _ => hK w4 h4.tail.tail.tail) fun hc2 => ?_
        exact ⟨⟨by omega, by omega⟩, h4⟩
    · have hii : its.take i = its := List.take_of_length_le (by omega)
      rw [hii] at h3 hsm hfl
      refine wOut0_ok h3 (by omega) fun s28 w4 h4 => tup2 ?_
      have hsl := Sat.bsLen h4.rot3
      have hsc := Sat.slLen h4.rot3
      have hs2 := Sat.bsLen h4
      have hs2c := Sat.slLen h4
      refine ⟨fun _ w' => s28.len ≠ 0 ∧ Sat W w' (BsR s28 (forms its) :: BsR s (forms its) :: l), ?_, ?_⟩
      · rintro _ w5 ⟨hne, h5⟩
        have e1 : IntKind.i64.wrap x1 = x1 := w_i64 (by omega) (by omega)
        rw [e1]
        refine remR (by simp only; omega) ?_
        simp only
        rw [Int.tmod_eq_emod_of_nonneg h0]
        have hn : (x1 % (s28.len : Int)).toNat < s28.len := by
          have := Int.emod_lt_of_pos x1 (b := (s28.len : Int)) (by omega)
          have := Int.emod_nonneg x1 (b := (s28.len : Int)) (by omega)
          omega
        have hnn := Int.emod_nonneg x1 (b := (s28.len : Int)) (by omega)
        generalize x1 % (s28.len : Int) = m at hn hnn
        refine ⟨fun w => Sat W w (BsR s28 (forms its) :: BsR s (forms its) :: l), h5.drew, ?_⟩
        refine ⟨⟨s28.a, m.toNat, s28.cap⟩, fun w _ => run_sliceHi et_bytes hnn (by omega) w, ?_⟩
        refine ⟨⟨s.a, m.toNat, s.cap⟩, fun w _ => run_sliceHi et_bytes hnn (by omega) w, ?_⟩
        have et : ((forms its).map vB).take (m.toNat * 1) = ((forms its).take m.toNat).map vB := by rw [Nat.mul_one, List.map_take]
        have r28 : Rd W (BsR s28 (forms its) :: BsR s (forms its) :: l) ⟨s28.a, m.toNat, s28.cap⟩ 1 (((forms its).take m.toNat).map vB) := by
          rw [← et]; exact Rd.hi Rd.own (by omega)
        have r10 : Rd W (BsR s28 (forms its) :: BsR s (forms its) :: l) ⟨s.a, m.toNat, s.cap⟩ 1 (((forms its).take m.toNat).map vB) := by
          rw [← et]; exact Rd.hi (Rd.cons Rd.own) (by omega)
        have htl : ((forms its).take m.toNat).length ≤ 140737488355328 := by simp; omega
        refine ⟨?_, ?_, trivial⟩
        · refine newReader_ok h5.drew r28 htl fun c w6 h6 => tyI ⟨h6.tail, ?_⟩
          refine boxB h6 fun a w7 h7 => ⟨h7.tail.tail, ?_⟩
          exact cut_tail (n := m.toNat) h7.swap r10 (Rd.cons (Rd.cons hx)) hok hsm (by omega) (by omega) rfl (by omega) htl fun w8 h8 => hK w8 h8.tail.tail
        · refine boxB h5.drew fun a w6 h6 => ⟨h6.tail, ?_⟩
          refine newReader_ok h6 (Rd.cons r28) htl fun c w7 h7 => tyI ⟨h7.tail.tail, ?_⟩
          exact cut_tail (n := m.toNat) h7 r10 (Rd.cons (Rd.cons hx)) hok hsm (by omega) (by omega) rfl (by omega) htl fun w8 h8 => hK w8 h8.tail.tail
      · refine ifB_bne (fun hne => absurd rfl hne) fun _ => ?_
        refine ifB_beq (fun hz => ?_) fun hz => ?_
        · refine ifB_beq (fun _ => ?_) fun hh => absurd rfl hh
          have : (((s.len : Nat) : Int) == 0) = true := by simp only at hz; simp; omega
          rw [this]
          exact hK w4 h4.tail.tail.tail
        · exact ⟨by simp only at hz; omega, h4.drop2⟩
  · refine awake_ok h1' fun w2 h2 => tyI ?_
    simp only [Bool.not_true, Option.isNone_some, ifB_false]
    exact h2
end
end Go.Proofs.Ytcfgbboibgjlcaa
