/- Layer 3: the law of laying, and of the writer and reader that are none. -/
import Derived.Test.YtcfgbboibgjlcaaLD
namespace Go.Proofs.Ytcfgbboibgjlcaa
open Go Go.Pk
theorem et_ops : ET P T_sl_penstocklaw03_Op T_penstocklaw03_Op 6 80 := ET.of (by kernel_rfl)
theorem ops_get : ∀ (its : List It) (i j : Nat) (hi : i < its.length) (u : Value), its[i].cells[j]? = some u → (its.flatMap It.cells)[i * 6 + j]? = some u
  | x :: its, 0, j, _, u, h => by
    simp only [List.getElem_cons_zero] at h
    simp only [List.flatMap_cons, Nat.zero_mul, Nat.zero_add]
    have : j < x.cells.length := by rcases Nat.lt_or_ge j x.cells.length with hlt | hge; exact hlt; rw [List.getElem?_eq_none hge] at h; cases h
    rw [List.getElem?_append_left this]; exact h
  | x :: its, i + 1, j, hi, u, h => by
    have := ops_get its i j (by simpa using hi) u (by simpa using h)
    have hl : x.cells.length = 6 := rfl
    simp only [List.flatMap_cons]
    rw [List.getElem?_append_right (by omega), hl, show (i + 1) * 6 + j - 6 = i * 6 + j by omega]; exact this
theorem ops_len : ∀ (its : List It), (its.flatMap It.cells).length = its.length * 6
  | [] => rfl
  | x :: its => by
    have := ops_len its
    have hl : x.cells.length = 6 := rfl
    simp only [List.flatMap_cons, List.length_append, List.length_cons]; omega
def itW : List It → Nat
  | [] => 0
  | x :: l => 1 + x.wt + itW l
theorem itW_mem : ∀ {l : List It} {x : It}, x ∈ l → x.wt ≤ itW l
  | y :: l, x, h => by
    rcases List.mem_cons.1 h with rfl | h
    · simp only [itW]; omega
    · have := itW_mem h; simp only [itW]; omega
theorem itW_len : ∀ (l : List It), l.length ≤ itW l
  | [] => Nat.le_refl _
  | y :: l => by have := itW_len l; simp only [itW, List.length_cons]; omega
theorem itW_take : ∀ (l : List It) (i : Nat), itW (l.take i) ≤ itW l
  | [], i => by simp
  | y :: l, 0 => by simp [itW]
  | y :: l, i + 1 => by have := itW_take l i; simp only [List.take_succ_cons, itW]; omega
def forms (l : List It) : List UInt8 := l.flatMap It.form
theorem forms_len {W : World} : ∀ {l : List It}, (∀ x ∈ l, x.ok W) → itW l < 2 ^ 40 → (forms l).length ≤ 10 * itW l
  | [], _, _ => by simp [forms]
  | y :: l, h, hw => by
    simp only [itW] at hw
    have h1 := forms_len (l := l) (fun x hx => h x (by simp [hx])) (by omega)
    have h2 := form_len (h y (by simp)) (by omega)
    simp only [forms, List.flatMap_cons, List.length_append, itW] at h1 ⊢; omega
theorem forms_succ {l : List It} {i : Nat} (hi : i < l.length) : forms (l.take (i + 1)) = forms (l.take i) ++ l[i].form := by
  simp only [forms]
  rw [List.take_add_one, List.getElem?_eq_getElem hi, List.flatMap_append]
  simp
section
variable {W w : World} {l : List Res} {K : Value → World → Prop}
theorem getOp {x0 : Sl} {its : List It} {i : Nat} (h : Sat W w l) (hx : Rd W l x0 6 (its.flatMap It.cells)) (hi : i < its.length) {K' : Addr → World → Prop}
    (hK : ∀ b w', Sat W w' (Blk b its[i].cells T_penstocklaw03_Op :: l) → K' ⟨b, 0, none⟩ w') :
    RunQ .addr P (Instr.indexAt T_sl_penstocklaw03_Op x0.v (.int .i64 i)) w fun a => RunQ .val P (Instr.loadAt T_penstocklaw03_Op (.pointer (some a))) w fun v =>
      RunK .addr P (Instr.alloc T_penstocklaw03_Op true (.tuple #[])) w fun a1 w1 => StoreP P T_penstocklaw03_Op (.pointer (some a1)) v w1 fun w2 => K' a1 w2 := by
  have hr := hx w h
  have hl := hr.1
  rw [ops_len] at hl
  refine ixA et_ops hr (by omega) (by omega) fun a ha => ?_
  refine ldAgg (cs := its[i].cells) (fun j u hu => ha j u ?_ ?_) (by kernel_rfl) ?_
  · have : its[i].cells.length = 6 := rfl
    rcases Nat.lt_or_ge j 6 with hlt | hge
    · exact hlt
    · rw [List.getElem?_eq_none (by omega)] at hu; cases hu
  · exact ops_get its i j hi u hu
  · refine allocB h (z := .agg #[.int .i64 0, .int .u64 0, .int .i64 0, .bool false, .slice none 0 0, .slice none 0 0]) (by kernel_rfl) fun b w1 h1 => ?_
    refine stAggB (cs' := its[i].cells) h1 rfl ?_ (by kernel_rfl) fun w2 h2 => hK b w2 h2
    intro u hu
    simp only [It.cells, List.mem_cons, List.not_mem_nil, or_false] at hu
    rcases hu with rfl | rfl | rfl | rfl | rfl | rfl <;> rfl
theorem law_lays {x0 : Sl} {its : List It} (h : Sat W w l) (hx : Rd W l x0 6 (its.flatMap It.cells)) (hok : ∀ x ∈ its, x.ok W) (hw : itW its < 2 ^ 40) (hold : ∀ {s' : Sl} {xs : List Value}, RdC W s' 1 xs → Rd W l s' 1 xs)
    (hK : ∀ w', Sat W w' l → K (.bool true) w') : CallP P F_law03_CodecLays [x0.v] w K := by
  apply c_law03_CodecLays
  unfold S_law03_CodecLays
  have hl := (hx w h).1
  rw [ops_len] at hl
  have hil := itW_len its
  refine newWriter_ok h fun b w1 h1 => tyI ?_
  refine ⟨fun _ w' => Sat W w' (WrR b [] 0 :: l), ?_, ?_⟩
  · rintro _ w2 h2
    refine ⟨fun z w' => ∃ (i : Nat) (e : Int), z.2.2.1 = i ∧ i ≤ its.length ∧ (e = 0 ∧ z.2.1 = false ∨ e = 2 ∧ z.2.1 = true) ∧ Sat W w' (WrN (some b) (forms (its.take i)) e :: BsR z.1 (forms (its.take i)) :: l), fun z _ => its.length - z.2.2.1.toNat,
      ⟨0, 0, rfl, by omega, .inl ⟨rfl, rfl⟩, (h2.nilSlr T_uint8 1).swap⟩, ?_⟩
    rintro ⟨s, bad, i', u⟩ w3 ⟨i, e, hi, hile, hbad, h3⟩
    simp only at hi hbad h3 ⊢
    subst hi
    have hfl := forms_len (l := its.take i) (fun x hx => hok x (List.mem_of_mem_take hx)) (by have := itW_take its i; omega)
    have hft := itW_take its i
    refine ifB_dec (fun hlt => ?_) fun hge => ?_
    · have hi1 : i < its.length := by omega
      refine getOp h3 (Rd.cons (Rd.cons hx)) hi1 fun a w4 h4 => ?_
      refine ldAggB h4 (by kernel_rfl) ?_
      have hm : its[i] ∈ its := List.getElem_mem hi1
      have hwt := itW_mem hm
      have h5 : Sat W w4 (WrN (some b) (forms (its.take i)) e :: BsR s (forms (its.take i)) :: Blk a its[i].cells T_penstocklaw03_Op :: l) := h4.perm ((List.Perm.swap _ _ _).trans (List.Perm.cons _ (List.Perm.swap _ _ _)))
      refine lay_ok (p := some b) h5 (hok _ hm) (fun hr => Rd.cons (hold hr)) (by omega) (by omega) (by omega) fun s' w5 h6 => tyI ?_
      rw [← forms_succ hi1] at h6
      have h7 : Sat W w5 (Blk a its[i].cells T_penstocklaw03_Op :: BsR s' (forms (its.take (i + 1))) :: WrN (some b) (forms (its.take (i + 1))) (its[i].err e) :: l) := h6.rot3
      have h8 := h7.tail.swap
      rw [w_i64 (by omega) (by omega)]
      rcases hbad with ⟨rfl, rfl⟩ | ⟨rfl, rfl⟩
      · simp only [ifB_false]
        refine ldB h7 (i := 0) (x := its[i].k) ?_
        refine ifB_beq (fun hk => ?_) fun hk => ?_
        · refine ldB h7 (i := 4) (x := its[i].b) ?_
          have hbl := (hok _ hm).2.2.2.2.2.1.1
          simp at hbl
          refine ⟨⟨i + 1, its[i].err 0, rfl, by omega, ?_, h8⟩, by omega⟩
          simp only [It.err, if_pos hk, wErr]
          by_cases hc : its[i].bs.length > 4096
          · exact .inr ⟨by simp [hc], decide_eq_true (by omega)⟩
          · exact .inl ⟨by simp [hc], decide_eq_false (by omega)⟩
        · have : its[i].err 0 = 0 := by simp [It.err, hk]
          rw [this] at h8
          exact ⟨⟨i + 1, 0, rfl, by omega, .inl (by simp), h8⟩, by omega⟩
      · simp only [ifB_true]
        have : its[i].err 2 = 2 := by simp [It.err, wErr]
        rw [this] at h8
        exact ⟨⟨i + 1, 2, rfl, by omega, .inr (by simp), h8⟩, by omega⟩
    · refine ⟨fun z w' => ∃ (i2 : Nat), z.1 = i2 ∧ i2 ≤ 2 ∧ Sat W w' (WrR b (forms (its.take i)) e :: BsR s (forms (its.take i)) :: l), fun z _ => 2 - z.1.toNat, ⟨0, rfl, by omega, h3⟩, ?_⟩
      rintro ⟨i2', u2⟩ w4 ⟨i2, hi2, hi2le, h4⟩
      simp only at hi2 ⊢
      subst hi2
      refine ifB_dec (fun hlt => ?_) fun hge2 => hK w4 h4.tail.tail
      rw [w_i64 (by omega) (by omega)]
      rcases hbad with ⟨rfl, rfl⟩ | ⟨rfl, rfl⟩
      · refine wOut0_ok h4 (by omega) fun s2 w5 h5 => tup2 ?_
        simp only [ifB_false]
        refine ⟨fun _ w' => Sat W w' (BsR s2 (forms (its.take i)) :: WrR b (forms (its.take i)) 0 :: BsR s (forms (its.take i)) :: l), ?_, ?_⟩
        · rintro _ w6 h6
          refine fillLoop (s := s2) 7 h6 fun w7 h7 => ⟨⟨i2 + 1, rfl, by omega, h7⟩, by omega⟩
        · refine ifB_bne (fun hne => absurd rfl hne) fun _ => ?_
          have hb1 := Sat.bsLen h5
          refine same_ok h5 Rd.own (Rd.cons (Rd.cons Rd.own)) (by omega) fun w6 h6 => tyI ?_
          simp only [decide_true, Bool.not_true, ifB_false]
          exact h6
      · refine wOut_ok h4 (by omega) (fun _ w5 h5 => ⟨(⟨none, 0, 0⟩, 2, ()), rfl, ?_⟩) fun h0 => absurd h0 (by decide)
        simp only [ifB_true]
        refine ifB_bne (fun hne => absurd rfl hne) fun _ => ?_
        refine ifB_bne (fun hne => absurd rfl hne) fun _ => ?_
        exact ⟨⟨i2 + 1, rfl, by omega, h5⟩, by omega⟩
  · refine awake_ok h1 fun w2 h2 => tyI ?_
    simp only [Bool.not_true, Option.isNone_some, ifB_false]
    exact h2
theorem law_none {x : It} (h : Sat W w l) (hok : x.ok W) (hw : x.wt < 2 ^ 40) (hold : ∀ {l' : List Res} {s' : Sl} {xs : List Value}, RdC W s' 1 xs → Rd W (l' ++ l) s' 1 xs)
    (hK : ∀ w', Sat W w' l → K (.bool true) w') : CallP P F_law03_CodecNone [.agg x.cells.toArray] w K := by
  apply c_law03_CodecNone
  unfold S_law03_CodecNone
  refine boxB h fun b w1 h1 => ?_
  refine ldAggB (cs := x.cells) h1 (by kernel_rfl) ?_
  have h2 : Sat W w1 (WrN none [] 0 :: BsR ⟨none, 0, 0⟩ [] :: Blk b x.cells T_penstocklaw03_Op :: l) := sat_pure.2 ⟨trivial, h1.nilSlr T_uint8 1⟩
  refine lay_ok (p := none) (s := ⟨none, 0, 0⟩) h2 hok (fun hr => hold (l' := [_]) hr) hw (by simp) (by simp) fun s w2 h3 => tyI ?_
  have h4 := h3.tail.tail.tail
  apply c_codec_Writer_Out
  refine ⟨(⟨none, 0, 0⟩, 5, ()), rfl, ?_⟩
  apply c_codec_Reader_State
  refine ⟨(0, 0, 5, ()), rfl, ?_⟩
  refine awake_ok h4 fun w3 h5 => tyI ?_
  have none_u : ∀ (w : World) (K : Value → World → Prop), K (.int .u64 0) w → CallP P F_codec_Reader_Uint [.pointer none] w K := by
    intro w K hK
    apply c_codec_Reader_Uint
    exact ⟨fun _ _ => False, fun _ _ h => h.elim, hK⟩
  have none_i : ∀ (w : World) (K : Value → World → Prop), K (.int .i64 0) w → CallP P F_codec_Reader_Int [.pointer none] w K := by
    intro w K hK
    apply c_codec_Reader_Int
    refine none_u w _ (tyI ?_)
    exact hK
  have yes : ∀ {A B : Prop}, A → ifB true A B := fun h => h
  refine yes (yes (yes (yes (yes (yes ?_)))))
  apply c_codec_Reader_End
  refine ⟨fun _ _ => False, fun _ _ h => h.elim, tyI (yes ?_)⟩
  refine none_u w3 _ (tyI (yes ?_))
  refine none_i w3 _ (tyI (yes ?_))
  apply c_codec_Reader_Flag
  refine none_u w3 _ (tyI ?_)
  refine ifB_dec (fun hh => absurd hh (by decide)) fun _ => tyI (yes ?_)
  apply c_codec_Reader_Fixed
  refine ⟨fun _ _ => False, fun _ _ h => h.elim, tyI (yes ?_)⟩
  apply c_codec_Reader_Bytes
  refine none_u w3 _ (tyI ?_)
  refine ⟨fun _ _ => False, fun _ _ h => h.elim, ⟨⟨none, 0, 0⟩, rfl, yes ?_⟩⟩
  apply c_codec_Reader_Ints
  refine none_u w3 _ (tyI ?_)
  refine ifB_dec (fun hh => absurd hh (by decide)) fun _ => ?_
  refine ⟨fun z w' => z = (⟨none, 0, 0⟩, 0, ()) ∧ Sat W w' l, fun _ _ => 0, ⟨rfl, h5⟩, ?_⟩
  rintro _ w4 ⟨rfl, h6⟩
  refine ifB_dec (fun hh => absurd hh (by decide)) fun _ => ⟨⟨none, 0, 0⟩, rfl, ?_⟩
  exact hK w4 h6
end
end Go.Proofs.Ytcfgbboibgjlcaa
