/- Layer 3: the laws of taking back what was laid, and of what was cut off. -/
import Derived.Test.YtcfgbboibgjlcaaLE
import Derived.Test.YtcfgbboibgjlcaaQC3
namespace Go.Pk
open Go
theorem remR {P : Program} {w : World} {k : IntKind} {x y : Int} {t : TypeId} {o1 o2 : Operand} {K : Int → World → Prop} (hy : y ≠ 0) (hK : K (x.tmod y) w) :
    RunK (.int k) P (do (eqGuard .rem t o1 o2 (.int k x) (.int k y)); (binOp .rem t (.int k x) (.int k y))) w K := by
  refine ⟨_, w, ?_, hK⟩
  simp [eqGuard, binOp, hy, Op.intDiv, Sem.run]
theorem RdC.hi {w : World} {s : Sl} {sz n : Nat} {xs : List Value} (h : RdC w s sz xs) (hn : n ≤ s.len) : RdC w ⟨s.a, n, s.cap⟩ sz (xs.take (n * sz)) := by
  obtain ⟨h1, h2, h3, h4⟩ := h
  refine ⟨?_, by simp only; omega, h3, fun a ha j u hu => h4 a ha j u ?_⟩
  · rw [List.length_take, h1]
    have := Nat.mul_le_mul_right sz hn
    simp only; omega
  · rw [List.getElem?_take] at hu
    split at hu
    · exact hu
    · cases hu
theorem Rd.hi {W : World} {l : List Res} {s : Sl} {sz n : Nat} {xs : List Value} (h : Rd W l s sz xs) (hn : n ≤ s.len) : Rd W l ⟨s.a, n, s.cap⟩ sz (xs.take (n * sz)) := fun w hw => (h w hw).hi hn
end Go.Pk
namespace Go.Proofs.Ytcfgbboibgjlcaa
open Go Go.Pk
def It.small (x : It) : Prop := x.bs.length ≤ 4096 ∧ x.ns.length ≤ 4096
theorem takeS_at {x : It} {W : World} (hok : x.ok W) (hs : x.small) {t r : List UInt8} {p : Nat} (h : t.drop p = x.form ++ r) : takeS x.k t p 0 = (p + x.form.length, 0) := by
  obtain ⟨h0, h1, h2, h3, h4, _, _⟩ := hok
  unfold It.form at h ⊢
  unfold takeS
  split
  · rename_i hk; rw [if_pos hk] at h; rw [takeU_at h (by omega)]
  rename_i hk; rw [if_neg hk] at h
  split
  · rename_i hk; rw [if_pos hk] at h; rw [takeI_at h h2 h3]
  rename_i hk; rw [if_neg hk] at h
  split
  · rename_i hk; rw [if_pos hk] at h; rw [takeF_at h]; simp [flagB]
  rename_i hk; rw [if_neg hk] at h
  split
  · rename_i hk; rw [if_pos hk] at h; rw [takeX_at h (by omega)]; simp [fixedB]
  rename_i hk; rw [if_neg hk] at h
  split
  · rename_i hk; rw [if_pos hk] at h; rw [takeB_at h hs.1]
  rename_i hk; rw [if_neg hk] at h
  rw [takeL_at h hs.2 h4]
theorem takeS_cut {x : It} {W : World} (hok : x.ok W) (hs : x.small) {t : List UInt8} {p m : Nat} (h : t.drop p = x.form.take m) (hm : m < x.form.length) : (takeS x.k t p 0).2 ≠ 0 := by
  obtain ⟨h0, h1, h2, h3, h4, _, _⟩ := hok
  unfold It.form at h hm
  unfold takeS
  split
  · rename_i hk; rw [if_pos hk] at h hm; exact (takeU_cut h (by omega) hm).2
  rename_i hk; rw [if_neg hk] at h hm
  split
  · rename_i hk; rw [if_pos hk] at h hm; exact (takeU_cut h (zig_lt h2 h3) hm).2
  rename_i hk; rw [if_neg hk] at h hm
  split
  · rename_i hk; rw [if_pos hk] at h hm; exact takeF_cut h hm
  rename_i hk; rw [if_neg hk] at h hm
  split
  · rename_i hk; rw [if_pos hk] at h hm; exact takeX_cut h hm
  rename_i hk; rw [if_neg hk] at h hm
  split
  · rename_i hk; rw [if_pos hk] at h hm; exact takeB_cut h hs.1 hm
  rename_i hk; rw [if_neg hk] at h hm
  exact takeL_cut h hs.2 h4 hm
theorem takeS_err {o : Int} {t : List UInt8} {p : Nat} {e : Int} (h : e ≠ 0) : takeS o t p e = (p, e) := by
  unfold takeS
  split
  · rw [takeU_err h]
  split
  · rw [takeI_err h]
  split
  · rw [takeF_err h]
  split
  · rw [takeX_err h]
  split
  · rw [takeB_err h]
  · rw [takeL_err h]
theorem forms_drop {its : List It} {i : Nat} (hi : i < its.length) : (forms its).drop (forms (its.take i)).length = its[i].form ++ forms (its.drop (i + 1)) := by
  have e : forms its = forms (its.take i) ++ (its[i].form ++ forms (its.drop (i + 1))) := by
    have := congrArg (List.flatMap It.form) (List.take_append_drop i its).symm
    rw [List.flatMap_append, List.drop_eq_getElem_cons hi, List.flatMap_cons] at this
    exact this
  rw [e, List.drop_left]
section
variable {W w : World} {l : List Res} {K : Value → World → Prop}
/-- one round of laying, where all that is long has been refused -/
theorem small_err {x : It} (h : x.small) : x.err 0 = 0 := by
  unfold It.err wErr
  split
  · rw [if_neg (by have := h.1; omega)]
  · rfl
theorem law_back {x0 x1 : Sl} {its : List It} {r : List UInt8} (h : Sat W w l) (hx : Rd W l x0 6 (its.flatMap It.cells)) (hx1 : Rd W l x1 1 (r.map vB)) (hr : r.length < 2 ^ 40) (hok : ∀ x ∈ its, x.ok W) (hw : itW its < 2 ^ 40) (hold : ∀ {s' : Sl} {xs : List Value}, RdC W s' 1 xs → Rd W l s' 1 xs)
    (hK : ∀ w', Sat W w' l → K (.bool true) w') : CallP P F_law03_CodecBack [x0.v, x1.v] w K := by
  apply c_law03_CodecBack
  unfold S_law03_CodecBack
  have hl := (hx w h).1
  rw [ops_len] at hl
  have hl1 := (hx1 w h).1
  simp at hl1
  have hil := itW_len its
  refine newWriter_ok h fun b w1 h1 => tyI ?_
  refine ⟨fun _ w' => Sat W w' (WrR b [] 0 :: l), ?_, ?_⟩
  · rintro _ w2 h2
    refine ⟨fun z w' => ∃ (i : Nat), z.2.1 = i ∧ i ≤ its.length ∧ (∀ x ∈ its.take i, x.small) ∧ Sat W w' (WrN (some b) (forms (its.take i)) 0 :: BsR z.1 (forms (its.take i)) :: l), fun z _ => its.length - z.2.1.toNat,
      ⟨0, rfl, by omega, by simp, (h2.nilSlr T_uint8 1).swap⟩, ?_⟩
    rintro ⟨s, i', u⟩ w3 ⟨i, hi, hile, hsm, h3⟩
    simp only at hi h3 ⊢
    subst hi
    have hfl := forms_len (l := its.take i) (fun x hx => hok x (List.mem_of_mem_take hx)) (by have := itW_take its i; omega)
    have hft := itW_take its i
    refine ifB_dec (fun hlt => ?_) fun hge => ?_
    · have hi1 : i < its.length := by omega
      refine getOp h3 (Rd.cons (Rd.cons hx)) hi1 fun a w4 h4 => ?_
      have hm : its[i] ∈ its := List.getElem_mem hi1
      have hwt := itW_mem hm
      have hbl := (hok _ hm).2.2.2.2.2.1.1
      have hnl := (hok _ hm).2.2.2.2.2.2.1
      simp at hbl hnl
      refine ⟨fun _ w' => its[i].small ∧ Sat W w' (Blk a its[i].cells T_penstocklaw03_Op :: WrN (some b) (forms (its.take i)) 0 :: BsR s (forms (its.take i)) :: l), ?_, ?_⟩
      · rintro _ w5 ⟨hs, h5⟩
        refine ldAggB h5 (by kernel_rfl) ?_
        have h6 : Sat W w5 (WrN (some b) (forms (its.take i)) 0 :: BsR s (forms (its.take i)) :: Blk a its[i].cells T_penstocklaw03_Op :: l) := h5.perm ((List.Perm.swap _ _ _).trans (List.Perm.cons _ (List.Perm.swap _ _ _)))
        refine lay_ok (p := some b) h6 (hok _ hm) (fun hr => Rd.cons (hold hr)) (by omega) (by omega) (by omega) fun s' w6 h7 => tyI ?_
        rw [← forms_succ hi1, small_err hs] at h7
        have h8 := h7.rot3.tail.swap
        rw [w_i64 (by omega) (by omega)]
        refine ⟨⟨i + 1, rfl, by omega, ?_, h8⟩, by omega⟩
        intro x hx
        rw [List.take_add_one, List.getElem?_eq_getElem hi1] at hx
        rcases List.mem_append.1 hx with hx | hx
        · exact hsm x hx
        · simp at hx; exact hx ▸ hs
      · refine ldB h4 (i := 4) (x := its[i].b) ?_
        refine ifB_dec (fun _ => hK w4 h4.tail.tail.tail) fun hc1 => ?_
        refine ldB h4 (i := 5) (x := its[i].n) ?_
        refine ifB_dec (fun _ => hK w4 h4.tail.tail.tail) fun hc2 => ?_
        exact ⟨⟨by omega, by omega⟩, h4⟩
    · have hii : its.take i = its := List.take_of_length_le (by omega)
      rw [hii] at h3 hsm hfl
      refine wOut0_ok h3 (by omega) fun s28 w4 h4 => tup2 ?_
      have hsl := Sat.bsLen h4.rot3
      refine appBytes h4 (hx1 w4 h4.tail.tail.tail) (by omega) fun s29 w5 h5 => ?_
      have htl : (forms its ++ r).length ≤ 140737488355328 := by simp; omega
      refine newReader_ok h5 Rd.own htl fun c w6 h6 => tyI ?_
      have h7 := h6.rot4.rot4.tail.rot3.tail
      refine appBytes h7 (hx1 w6 h7.tail.tail) (by omega) fun s34 w7 h8 => ?_
      refine boxB h8 fun a w8 h9 => ?_
      have h10 : Sat W w8 (RdrR c (forms its ++ r) 0 0 :: RfR a s34 0 0 :: BsR s34 (forms its ++ r) :: l) := h9.rot3
      refine ⟨fun z w' => ∃ (i : Nat), z.1 = i ∧ i ≤ its.length ∧ Sat W w' (RdrR c (forms its ++ r) (forms (its.take i)).length 0 :: RfR a s34 (forms (its.take i)).length 0 :: BsR s34 (forms its ++ r) :: l), fun z _ => its.length - z.1.toNat,
        ⟨0, rfl, by omega, h10⟩, ?_⟩
      rintro ⟨i', u⟩ w9 ⟨i, hi, hile, h11⟩
      simp only at hi ⊢
      subst hi
      have hpl : (forms (its.take i)).length ≤ (forms its ++ r).length := by
        have := congrArg List.length (congrArg forms (List.take_append_drop i its))
        simp only [forms, List.flatMap_append, List.length_append] at this ⊢; omega
      refine ifB_dec (fun hlt => ?_) fun hge => ?_
      · have hi1 : i < its.length := by omega
        refine getOp h11 (Rd.cons (Rd.cons (Rd.cons hx))) hi1 fun a2 w10 h12 => ?_
        have hm : its[i] ∈ its := List.getElem_mem hi1
        refine ldB h12 (i := 0) (x := its[i].k) ?_
        refine take_ok h12.tail Rd.own hpl htl fun w11 h13 => tyI ?_
        simp only [Bool.not_true, ifB_false]
        have hd : (forms its ++ r).drop (forms (its.take i)).length = its[i].form ++ (forms (its.drop (i + 1)) ++ r) := by
          have hpl2 : (forms (its.take i)).length ≤ (forms its).length := by
            have := congrArg List.length (congrArg forms (List.take_append_drop i its))
            simp only [forms, List.flatMap_append, List.length_append] at this ⊢; omega
          rw [List.drop_append_of_le_length hpl2, forms_drop hi1, List.append_assoc]
        rw [takeS_at (hok _ hm) (hsm _ hm) hd] at h13
        have e1 : (forms (its.take i)).length + its[i].form.length = (forms (its.take (i + 1))).length := by rw [forms_succ hi1, List.length_append]
        simp only [e1] at h13
        rw [w_i64 (by omega) (by omega)]
        exact ⟨⟨i + 1, rfl, by omega, h13⟩, by omega⟩
      · have hi2 : its.take i = its := List.take_of_length_le (by omega)
        rw [hi2] at h11 hpl
        refine dState_ok h11 hpl fun w10 h12 => ⟨((forms its).length, (((forms its ++ r).length - (forms its).length : Nat) : Int), 0, ()), rfl, ?_⟩
        refine ifB_beq (fun _ => ?_) fun hh => absurd rfl hh
        refine ifB_beq (fun _ => ?_) fun hh => absurd rfl hh
        refine ldB h12.swap (i := 2) (x := 0) ?_
        refine ifB_beq (fun _ => ?_) fun hh => absurd rfl hh
        refine ifB_beq (fun _ => ?_) fun hh => absurd (by show ((forms its).length : Int) = (s.len : Int); omega) hh
        refine ifB_beq (fun _ => ?_) fun hh => absurd (by show (((forms its ++ r).length - (forms its).length : Nat) : Int) = (x1.len : Int); simp; omega) hh
        refine dEnd_ok h12 fun w11 h13 => tyI ?_
        have he : ((endE (forms its ++ r) (forms its).length 0 == 0) == ((x1.len : Int) == 0)) = true := by
          unfold endE
          by_cases hz : r.length = 0
          · have hx0 : x1.len = 0 := by omega
            have : r = [] := List.length_eq_zero_iff.1 hz
            subst this
            simp [hx0]
          · rw [if_pos ⟨rfl, by simp; omega⟩]
            have : ¬ ((x1.len : Int) = 0) := by omega
            simp [this]
            omega
        rw [he]
        exact hK w11 h13.tail.tail.tail
  · refine awake_ok h1 fun w2 h2 => tyI ?_
    simp only [Bool.not_true, Option.isNone_some, ifB_false]
    exact h2
end
end Go.Proofs.Ytcfgbboibgjlcaa
