/- Layer 12: the law of one's own. -/
import Derived.Test.YtfbffgcoopelfaaRfQ
namespace Go.Proofs.Ytfbffgcoopelfaa
open Go Go.Pk
theorem et_lists : ET P T_sl_sl_uint8 T_sl_uint8 1 24 := ET.of (by kernel_rfl)
section
variable {W w : World} {l : List Res} {K : Value → World → Prop}
/-- from place i on, elements hold what was given -/
def Holds (es : List EnC) (xs : List (List UInt8)) (i : Nat) : Prop := es.length = xs.length + 1 ∧ ∀ j d, i ≤ j → xs[j]? = some d → ∃ e, es[j + 1]? = some e ∧ e.d = d
theorem Holds.set {es : List EnC} {xs : List (List UInt8)} {i : Nat} (h : Holds es xs (i + 1)) (e : EnC) : Holds (es.set (i + 1) e) xs (i + 1) :=
  ⟨by simpa using h.1, fun j d hj hd => by
    obtain ⟨e', h1, h2⟩ := h.2 j d hj hd
    exact ⟨e', by rw [List.getElem?_set_ne (by omega)]; exact h1, h2⟩⟩
theorem Holds.more {es : List EnC} {xs : List (List UInt8)} {i : Nat} (h : Holds es xs i) : Holds es xs (i + 1) := ⟨h.1, fun j d hj hd => h.2 j d (by omega) hd⟩
theorem law_own {x0 : Sl} {ss : List Sl} {xs : List (List UInt8)} (h : Sat W w l) (hx : Rd W l x0 1 (ss.map Sl.v)) (hl : xs.length = ss.length) (hxs : ∀ (i : Nat) (s : Sl) (b : List UInt8), ss[i]? = some s → xs[i]? = some b → Rd W l s 1 (b.map vB))
    (hK : ∀ w', Sat W w' l → K (.bool true) w') : CallP P F_law12_RaftOwn [x0.v] w K := by
  apply c_law12_RaftOwn
  unfold S_law12_RaftOwn
  have hx0 : x0.len = xs.length := by have := (hx w h).1; simp at this; omega
  let c : HdC := ⟨⟨0, -1, 0, 0, [], []⟩, ⟨none, 0, 0⟩, ⟨none, 0, 0⟩⟩
  have hc : HdRd W l c := ⟨Rd.nil rfl, [], rfl, Rd.nil rfl, fun e he => by simp at he⟩
  have hsm : Hd.Sm c.h := ⟨by decide, by decide, fun e he => by simp [c] at he⟩
  refine new_ok (c := c) h hc hsm (fun hb => by exact absurd hb (by decide)) fun _ b w1 h1 => ⟨(_, _, ()), rfl, ?_⟩
  have h1 : Sat W w1 (RaR b aw0 :: l) := h1
  refine ⟨fun _ w' => Sat W w' (RaR b aw0 :: l), ?_, awake12_ok h1 fun w2 h2 => tyI (k := .bool) h2⟩
  rintro _ w2 h2
  refine ⟨fun z w' => ∃ i : Nat, z.1 = i ∧ i ≤ 4 ∧ Sat W w' (RaR b (awT i) :: l), fun z _ => 4 - z.1.toNat, ⟨0, rfl, Nat.zero_le _, h2⟩, ?_⟩
  rintro ⟨i', u⟩ w3 ⟨i, hi, hil, h3⟩
  simp only at hi ⊢
  subst hi
  refine ifB_dec (fun hlt => ?_) fun hge => ?_
  · have hi4 : i < 4 := by omega
    have e := awT_small i hi4
    refine tick_ok h3 (by omega) (by rw [e]; exact sane_aw i hi4) (by rw [e]; exact ⟨by show (0 : Int) + 1 < _; decide, by show 0 + 400 < _; decide, by show 0 + 1 < _; decide⟩) (by rw [e]; intro hr; exact absurd hr (by show ¬ (0 : Int) = 3; decide)) fun w4 h4 => tupU rfl ?_
    rw [w_i64 (n := (i : Int) + 1) (by omega) (by omega)]
    exact ⟨⟨i + 1, rfl, by omega, h4⟩, by omega⟩
  obtain rfl : i = 4 := by omega
  rw [awT_four] at h3
  have h3 : Sat W w3 (RaR b (ow 0 true []) :: l) := h3
  -- what is proposed
  refine ⟨fun z w' => ∃ i : Nat, z.1 = i ∧ i ≤ xs.length ∧ i ≤ 51 ∧ (∀ d ∈ xs.take i, d.length ≤ 4096) ∧ Sat W w' (RaR b (ow 0 true (xs.take i)) :: l), fun z _ => 52 - z.1.toNat, ⟨0, rfl, Nat.zero_le _, by omega, by simp, h3⟩, ?_⟩
  rintro ⟨i', u⟩ w4 ⟨i, hi, hil, hi51, hsm4, h4⟩
  simp only at hi ⊢
  subst hi
  refine ifB_dec (fun hlt => ?_) fun hge => ?_
  · have hi1 : i < xs.length := by omega
    have hi2 : i < ss.length := by omega
    have hrd : Rd W l ss[i] 1 (xs[i].map vB) := hxs i _ _ (List.getElem?_eq_getElem hi2) (List.getElem?_eq_getElem hi1)
    refine ixld et_lists (hx _ h4.tail) (by omega) (k := .sl) (x := ss[i]) (by simp [hi2, Kd.v]) ?_
    have hsl : ss[i].len = xs[i].length := by have := (hrd _ h4.tail).1; simp at this; omega
    refine ⟨fun _ w' => xs[i].length ≤ 4096 ∧ i ≤ 50 ∧ Sat W w' (RaR b (ow 0 true (xs.take i)) :: l), ?_, ?_⟩
    · rintro _ w5 ⟨hd, h50, h5⟩
      refine copyBytes (n := xs[i]) h5 hrd.cons (by omega) fun s w6 h6 => ?_
      have hsl6 := Go.Proofs.Ytfbffgcoopelfaa.Sat.bsLen h6
      refine propose_ok (d := xs[i]) h6.swap Rd.own (sane_ow 0 true _ (by omega) (by rw [List.length_take]; omega) hsm4) (roomy_ow _ _ _ (by rw [List.length_take]; omega)) (fun _ => next_ow _ _ _) fun w7 h7 => ?_
      rw [ow_propose _ _ _ _ hd] at h7 ⊢
      refine ⟨(_, _, ()), rfl, ?_⟩
      refine ifB_bne (fun h => absurd rfl h) fun _ => ?_
      have h7 : Sat W w7 (RaR b (ow 0 true (xs.take i ++ [xs[i]])) :: BsR s xs[i] :: l) := h7
      have et : xs.take i ++ [xs[i]] = xs.take (i + 1) := by rw [List.take_add_one, List.getElem?_eq_getElem hi1]; rfl
      rw [et] at h7
      refine fillLoop 1 h7.swap fun w8 h8 => ?_
      rw [w_i64 (n := (i : Int) + 1) (by omega) (by omega)]
      refine ⟨⟨i + 1, rfl, by omega, by omega, fun d hd' => ?_, h8⟩, by omega⟩
      rw [← et] at hd'
      rcases List.mem_append.1 hd' with hd' | hd'
      · exact hsm4 d hd'
      · simp at hd'; subst hd'; exact hd
    · rw [hsl]
      refine ifB_dec (fun _ => hK w4 h4.tail) fun g1 => ?_
      refine ifB_dec (fun _ => hK w4 h4.tail) fun g2 => ⟨by omega, by omega, h4⟩
  -- what was taken
  have hin : i = xs.length := by omega
  subst hin
  rw [List.take_length] at h4 hsm4
  have hsane := sane_ow 0 true xs (by omega) (by omega) hsm4
  have hd4 : ∀ (j : Nat) (d : List UInt8), xs[j]? = some d → d.length ≤ 4096 := fun j d hd => hsm4 d (List.mem_of_getElem? hd)
  refine take_ok h4 (takes_ow 0 true xs (by omega) (by omega) hsm4) fun s1 s2 s3 s4 s5 w5 h5 => tyI (k := .val) ?_
  rw [ow_taken 0 true xs (by omega)] at h5
  have hA : Sat W w5 (PrR T_api_Entry s2 (ow 0 true xs).hd.log :: PrR T_api_Commit s5 (Rs.taken (ow 0 true xs)).1.commits :: RaR b (ow ((xs.length : Int) + 1) false xs) :: l) := h5.sel 6 [2, 5, 0]
  obtain ⟨es0, hes, hB⟩ := sat_pr.1 hA
  obtain ⟨ec0, hec, hC⟩ := sat_pr.1 hB.swap
  obtain ⟨hcl, hcg⟩ := ow_commits true xs
  have hE : Holds es0 xs 0 := by
    refine ⟨by have := congrArg List.length hes; simpa [ow] using this, fun j d _ hd => ?_⟩
    have e1 : (es0.map EnC.dat)[j + 1]? = some (1, d) := by rw [hes]; simp [ow, hd]
    rw [List.getElem?_map] at e1
    obtain ⟨e, h6, h7⟩ := Option.map_eq_some_iff.1 e1
    exact ⟨e, h6, congrArg Prod.snd h7⟩
  have hCm : Holds ec0 xs 0 := by
    refine ⟨by have := congrArg List.length hec; rw [List.length_map, hcl] at this; exact this, fun j d _ hd => ?_⟩
    obtain ⟨n, hn⟩ := hcg j d hd
    rw [← hec, List.getElem?_map] at hn
    obtain ⟨e, h6, h7⟩ := Option.map_eq_some_iff.1 hn
    exact ⟨e, h6, congrArg Prod.snd h7⟩
  refine newAgg (cs := rdcells (ow 0 true xs).save ⟨hdOf (ow 0 true xs), s1, s2⟩ s3 (ow 0 true xs).restore s4 s5) (z := zReady) hC (rdcells_ones _ _ _ _ _ _) fun a w6 h6 => ?_
  let RC : List Value := rdcells (ow 0 true xs).save ⟨hdOf (ow 0 true xs), s1, s2⟩ s3 (ow 0 true xs).restore s4 s5
  have h6 : Sat W w6 (Blk a RC T_api_Ready :: OwnS (elP T_api_Commit) s5 ec0 :: OwnS (elP T_api_Entry) s2 es0 :: RaR b (ow ((xs.length : Int) + 1) false xs) :: l) := h6
  let M : List EnC → List EnC → List Res := fun ec es => OwnS (elP T_api_Commit) s5 ec :: OwnS (elP T_api_Entry) s2 es :: Blk a RC T_api_Ready :: RaR b (ow ((xs.length : Int) + 1) false xs) :: l
  have h7 : Sat W w6 (M ec0 es0) := h6.sel 3 [1, 2, 0]
  have l5 := (own_len h7 (by decide : 0 < 2)).1
  have l2 := (own_len h7.swap (by decide : 0 < 2)).1
  have c1 := hE.1
  have c2 := hCm.1
  refine ⟨fun _ w' => Sat W w' (M ec0 es0), ?_, ?_⟩
  rotate_left
  · have hr : Sat W w6 (Blk a RC T_api_Ready :: _) := h7.up 2
    refine ldX (k := .sl) hr 6 (x := s2) ?_
    refine ldX (k := .sl) hr 10 (x := s5) ?_
    refine ifB_bne (fun h => absurd (by rw [l2, l5, c1, c2]) h) fun _ => ?_
    refine ldX (k := .sl) hr 10 (x := s5) ?_
    refine ldX (k := .sl) hr 10 (x := s5) ?_
    rw [hx0, l5, c2]
    rw [w_i64 (n := ((xs.length + 1 : Nat) : Int) - 1) (by omega) (by omega), if_neg (by omega), w_i64 (n := 1 + (xs.length : Int)) (by omega) (by omega)]
    exact ifB_bne (fun h => absurd (by omega) h) fun _ => h7
  rintro _ w7 h8
  refine ⟨fun z w' => ∃ (i : Nat) (ec es : List EnC), z.1 = i ∧ i ≤ xs.length ∧ Holds ec xs i ∧ Holds es xs i ∧ Sat W w' (M ec es), fun z _ => xs.length - z.1.toNat, ⟨0, ec0, es0, rfl, Nat.zero_le _, hCm, hE, h8⟩, ?_⟩
  rintro ⟨i', u⟩ w8 ⟨i, ec, es, hi, hil, hec1, hes1, h9⟩
  simp only at hi ⊢
  subst hi
  refine ifB_dec (fun hlt => ?_) fun hge => ?_
  · have hi1 : i < xs.length := by omega
    have hi2 : i < ss.length := by omega
    have hrd : Rd W l ss[i] 1 (xs[i].map vB) := hxs i _ _ (List.getElem?_eq_getElem hi2) (List.getElem?_eq_getElem hi1)
    have hdl := hd4 i _ (List.getElem?_eq_getElem hi1)
    refine ixld et_lists (hx _ h9.tail.tail.tail.tail) (by omega) (k := .sl) (x := ss[i]) (by simp [hi2, Kd.v]) ?_
    obtain ⟨eC, hC1, hC2⟩ := hec1.2 i _ (Nat.le_refl _) (List.getElem?_eq_getElem hi1)
    obtain ⟨eE, hE1, hE2⟩ := hes1.2 i _ (Nat.le_refl _) (List.getElem?_eq_getElem hi1)
    have w1' : IntKind.i64.wrap ((i : Int) + 1) = ((i + 1 : Nat) : Int) := by rw [w_i64 (n := (i : Int) + 1) (by omega) (by omega)]; omega
    rw [w1']
    have lC := (own_len h9 (by decide : 0 < 2)).1
    have lE := (own_len h9.swap (by decide : 0 < 2)).1
    have k1 := hec1.1
    have k2 := hes1.1
    have ixC : ∀ {w : World} {ec : List EnC} {L : List Res} {e : EnC} {K : Addr → Prop}, Sat W w (OwnS (elP T_api_Commit) s5 ec :: L) → ec[i + 1]? = some e → (∀ a, w.cell? (a.add 1) = some e.s.v → K a) → RunQ .addr P (Instr.indexAt T_sl_api_Commit s5.v (.int .i64 ((i + 1 : Nat) : Int))) w K := fun {w ec L e K} h he hk =>
      ixEl (E := elP T_api_Commit) (xs := ec) (x := e) et_coms rfl (Rd.ownS _ h) (i := ((i + 1 : Nat) : Int)) (by omega) he (by show i + 1 < s5.len; omega) fun a ha => hk a (ha 1 e.s.v rfl)
    have ixE : ∀ {w : World} {es : List EnC} {L : List Res} {e : EnC} {K : Addr → Prop}, Sat W w (OwnS (elP T_api_Entry) s2 es :: L) → es[i + 1]? = some e → (∀ a, w.cell? (a.add 1) = some e.s.v → K a) → RunQ .addr P (Instr.indexAt T_sl_api_Entry s2.v (.int .i64 ((i + 1 : Nat) : Int))) w K := fun {w es L e K} h he hk =>
      ixEl (E := elP T_api_Entry) (xs := es) (x := e) et_ents rfl (Rd.ownS _ h) (i := ((i + 1 : Nat) : Int)) (by omega) he (by show i + 1 < s2.len; omega) fun a ha => hk a (ha 1 e.s.v rfl)
    refine ⟨fun _ w' => Sat W w' (M ec es), ?_, ?_⟩
    · rintro _ w9 h10
      have hr : Sat W w9 (Blk a RC T_api_Ready :: _) := h10.up 2
      refine ldX (k := .sl) hr 10 (x := s5) ?_
      refine ixC h10 hC1 fun a1 ha1 => ldC (k := .sl) (x := eC.s) ha1 ?_
      have hCl : eC.s.len = xs[i].length := by
        have := (Rd.ownE (W := W) (s := s5) (E := elP T_api_Commit) (xs := ec) (t := eC.s) (sz := 1) (us := eC.d.map vB) hC1 (fun l => Rd.own) w9 h10).1
        rw [hC2] at this; simp at this; omega
      have hEl : eE.s.len = xs[i].length := by
        have := (Rd.ownE (W := W) (s := s2) (E := elP T_api_Entry) (xs := es) (t := eE.s) (sz := 1) (us := eE.d.map vB) hE1 (fun l => Rd.own) w9 h10.swap).1
        rw [hE2] at this; simp at this; omega
      refine ⟨fun z w' => ∃ (k : Nat) (ec' es' : List EnC), z.1 = k ∧ k ≤ xs[i].length ∧ Holds ec' xs (i + 1) ∧ Holds es' xs (i + 1) ∧ (∃ e, ec'[i + 1]? = some e ∧ e.s = eC.s) ∧ (∃ e, es'[i + 1]? = some e ∧ e.s = eE.s) ∧ Sat W w' (M ec' es'), fun z _ => xs[i].length - z.1.toNat,
        ⟨0, ec, es, rfl, Nat.zero_le _, hec1.more, hes1.more, ⟨eC, hC1, rfl⟩, ⟨eE, hE1, rfl⟩, h10⟩, ?_⟩
      rintro ⟨k', u2⟩ w10 ⟨k, ec', es', hk, hkl, m1, m2, ⟨e1, q1, q2⟩, ⟨e2, q3, q4⟩, h11⟩
      simp only at hk ⊢
      subst hk
      rw [hCl]
      refine ifB_dec (fun hklt => ?_) fun hkge => ?_
      · have hr1 : Sat W w10 (Blk a RC T_api_Ready :: _) := h11.up 2
        refine ldX (k := .sl) hr1 10 (x := s5) ?_
        refine ixC h11 q1 fun a2 ha2 => ldC (k := .sl) (x := e1.s) ha2 ?_
        refine stEl h11 q1 (by omega) (by rw [q2, hCl]; omega) 2 fun w11 h12 => ?_
        have h12' := h12.swap
        have hr2 : Sat W w11 (Blk a RC T_api_Ready :: _) := h12.up 2
        refine ldX (k := .sl) hr2 6 (x := s2) ?_
        refine ixE h12' q3 fun a3 ha3 => ldC (k := .sl) (x := e2.s) ha3 ?_
        refine stEl h12' q3 (by omega) (by rw [q4, hEl]; omega) 3 fun w12 h13 => ?_
        rw [w_i64 (n := (k : Int) + 1) (by omega) (by omega)]
        have b1 := m1.1
        have b2 := m2.1
        refine ⟨⟨k + 1, _, _, rfl, by omega, m1.set _, m2.set _, ⟨{ e1 with d := e1.d.set (k : Int).toNat 2 }, List.getElem?_set_self (by omega), q2⟩, ⟨{ e2 with d := e2.d.set (k : Int).toNat 3 }, List.getElem?_set_self (by omega), q4⟩, h13.swap⟩, by omega⟩
      · refine ⟨⟨i + 1, ec', es', by show ((i + 1 : Nat) : Int) = _; rfl, by omega, m1, m2, h11⟩, by omega⟩
    · have hr : Sat W w8 (Blk a RC T_api_Ready :: _) := h9.up 2
      refine ldX (k := .sl) hr 10 (x := s5) ?_
      refine ixC h9 hC1 fun a1 ha1 => ldC (k := .sl) (x := eC.s) ha1 ?_
      have r1 : Rd W (M ec es) eC.s 1 (eC.d.map vB) := Rd.ownE hC1 fun l => Rd.own
      refine same_ok h9 r1 (ys := xs[i]) hrd.cons.cons.cons.cons (by rw [hC2]; omega) fun w9 h10 => tyI (k := .bool) ?_
      rw [decide_eq_true hC2]
      refine ifB_intro (fun h => by cases h) fun _ => ?_
      have hr : Sat W w9 (Blk a RC T_api_Ready :: _) := h10.up 2
      refine ldX (k := .sl) hr 6 (x := s2) ?_
      refine ixE h10.swap hE1 fun a2 ha2 => ldC (k := .sl) (x := eE.s) ha2 ?_
      have r2 : Rd W (M ec es) eE.s 1 (eE.d.map vB) := Rd.cons (Rd.ownE hE1 fun l => Rd.own)
      refine same_ok h10 r2 (ys := xs[i]) hrd.cons.cons.cons.cons (by rw [hE2]; omega) fun w10 h11 => tyI (k := .bool) ?_
      rw [decide_eq_true hE2]
      exact ifB_intro (fun h => by cases h) fun _ => h11
  -- what is kept
  have h10 : Sat W w8 (RaR b (ow ((xs.length : Int) + 1) false xs) :: l) := h9.tail.tail.tail
  refine propose_ok (x := ⟨none, 0, 0⟩) (d := []) h10 (Rd.nil rfl) (sane_ow _ _ _ (by omega) (by omega) hsm4) (roomy_ow _ _ _ (by omega)) (fun _ => next_ow _ _ _) fun w9 h11 => ?_
  rw [ow_propose _ _ _ _ (by simp)] at h11 ⊢
  refine ⟨(_, _, ()), rfl, ?_⟩
  have h11 : Sat W w9 (RaR b (ow ((xs.length : Int) + 1) true (xs ++ [[]])) :: l) := h11
  refine take_ok h11 (takes_ow _ _ _ (by omega) (by simp; omega) fun d hd => ?_) fun t1 t2 t3 t4 t5 w10 h12 => tyI (k := .val) ?_
  · rcases List.mem_append.1 hd with hd | hd
    · exact hsm4 d hd
    · simp at hd; subst hd; simp
  have hA2 : Sat W w10 (PrR T_api_Entry t2 (ow ((xs.length : Int) + 1) true (xs ++ [[]])).hd.log :: l) := h12.sel 6 [2]
  obtain ⟨es2, hes2, hB2⟩ := sat_pr.1 hA2
  have hH : ∀ (j : Nat) (d : List UInt8), xs[j]? = some d → ∃ e, es2[j + 1]? = some e ∧ e.d = d := fun j d hd => by
    have hj : j < xs.length := (List.getElem?_eq_some_iff.1 hd).1
    have e1 : (es2.map EnC.dat)[j + 1]? = some (1, d) := by
      rw [hes2]
      show ((1, []) :: (xs ++ [[]]).map fun d => ((1 : Int), d))[j + 1]? = _
      rw [List.getElem?_cons_succ, List.getElem?_map, List.getElem?_append_left hj, hd]; rfl
    rw [List.getElem?_map] at e1
    obtain ⟨e, h6, h7⟩ := Option.map_eq_some_iff.1 e1
    exact ⟨e, h6, congrArg Prod.snd h7⟩
  refine newAgg (cs := rdcells (ow ((xs.length : Int) + 1) true (xs ++ [[]])).save ⟨hdOf (ow ((xs.length : Int) + 1) true (xs ++ [[]])), t1, t2⟩ t3 (ow ((xs.length : Int) + 1) true (xs ++ [[]])).restore t4 t5) (z := zReady) hB2 (rdcells_ones _ _ _ _ _ _) fun a2 w11 h13 => ?_
  let RD : List Value := rdcells (ow ((xs.length : Int) + 1) true (xs ++ [[]])).save ⟨hdOf (ow ((xs.length : Int) + 1) true (xs ++ [[]])), t1, t2⟩ t3 (ow ((xs.length : Int) + 1) true (xs ++ [[]])).restore t4 t5
  have h13 : Sat W w11 (Blk a2 RD T_api_Ready :: OwnS (elP T_api_Entry) t2 es2 :: l) := h13
  refine ⟨fun z w' => ∃ i : Nat, z.1 = i ∧ i ≤ xs.length ∧ Sat W w' (Blk a2 RD T_api_Ready :: OwnS (elP T_api_Entry) t2 es2 :: l), fun z _ => xs.length - z.1.toNat, ⟨0, rfl, Nat.zero_le _, h13⟩, ?_⟩
  rintro ⟨i', u⟩ w12 ⟨i, hi, hil, h14⟩
  simp only at hi ⊢
  subst hi
  refine ifB_dec (fun hlt => ?_) fun hge => hK w12 h14.tail.tail
  have hi1 : i < xs.length := by omega
  have hi2 : i < ss.length := by omega
  have hrd : Rd W l ss[i] 1 (xs[i].map vB) := hxs i _ _ (List.getElem?_eq_getElem hi2) (List.getElem?_eq_getElem hi1)
  have hdl := hd4 i _ (List.getElem?_eq_getElem hi1)
  refine ixld et_lists (hx _ h14.tail.tail) (by omega) (k := .sl) (x := ss[i]) (by simp [hi2, Kd.v]) ?_
  obtain ⟨e, he1, he2⟩ := hH i _ (List.getElem?_eq_getElem hi1)
  have w1' : IntKind.i64.wrap ((i : Int) + 1) = ((i + 1 : Nat) : Int) := by rw [w_i64 (n := (i : Int) + 1) (by omega) (by omega)]; omega
  rw [w1']
  have lE := (own_len h14.tail (by decide : 0 < 2)).1
  have hlt2 : i + 1 < es2.length := (List.getElem?_eq_some_iff.1 he1).1
  refine ldX (k := .sl) h14 6 (x := t2) ?_
  refine ixEl (E := elP T_api_Entry) (xs := es2) (x := e) et_ents rfl (Rd.ownS _ h14.tail) (i := ((i + 1 : Nat) : Int)) (by omega) he1 (by show i + 1 < t2.len; omega) fun a3 ha3 => ?_
  refine ldC (k := .sl) (x := e.s) (ha3 1 e.s.v rfl) ?_
  have r1 : Rd W (Blk a2 RD T_api_Ready :: OwnS (elP T_api_Entry) t2 es2 :: l) e.s 1 (e.d.map vB) := Rd.cons (Rd.ownE he1 fun l => Rd.own)
  refine same_ok h14 r1 (ys := xs[i]) hrd.cons.cons (by rw [he2]; omega) fun w13 h15 => tyI (k := .bool) ?_
  rw [decide_eq_true he2]
  refine ifB_intro (fun h => by cases h) fun _ => ?_
  exact ⟨⟨i + 1, rfl, by omega, h15⟩, by omega⟩
end
end Go.Proofs.Ytfbffgcoopelfaa
