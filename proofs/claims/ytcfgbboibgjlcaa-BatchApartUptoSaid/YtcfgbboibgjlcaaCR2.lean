/- Layer 3: the program's reader's contracts, second part. -/
import Derived.Test.YtcfgbboibgjlcaaCR
namespace Go.Proofs.Ytcfgbboibgjlcaa
open Go Go.Pk
section
variable {W w : World} {l : List Res} {K : Value → World → Prop} {b p : Nat} {t : List UInt8} {e : Int}
theorem dInt_ok (h : Sat W w (RdrR b t p e :: l)) (hp : p ≤ t.length) (ht : t.length ≤ 140737488355328)
    (hK : ∀ w', Sat W w' (RdrR b t (takeI t p e).2.1 (takeI t p e).2.2 :: l) → K (.int .i64 (takeI t p e).1) w') :
    CallP P F_codec_Reader_Int [.pointer (some ⟨b, 0, none⟩)] w K := by
  apply c_codec_Reader_Int
  unfold S_codec_Reader_Int
  refine dUint_ok h hp ht fun w' h' => tyI ?_
  rw [zag_code (takeU_bound hp).1]
  exact hK w' h'
theorem dFlag_ok (h : Sat W w (RdrR b t p e :: l)) (hp : p ≤ t.length) (ht : t.length ≤ 140737488355328)
    (hK : ∀ w', Sat W w' (RdrR b t (takeF t p e).2.1 (takeF t p e).2.2 :: l) → K (.bool (takeF t p e).1) w') :
    CallP P F_codec_Reader_Flag [.pointer (some ⟨b, 0, none⟩)] w K := by
  apply c_codec_Reader_Flag
  unfold S_codec_Reader_Flag
  refine dUint_ok h hp ht fun w' h' => tyI ?_
  refine ifB_dec (fun hc => ?_) fun hc => ?_
  · have hx : takeF t p e = (false, (takeU t p e).2.1, if (takeU t p e).2.2 = 0 then 7 else (takeU t p e).2.2) := by
      simp only [takeF]; rw [if_pos (by omega)]
    refine fail_ok h' fun w2 h2 => tupU rfl ?_
    have := hK w2; rw [hx] at this; exact this h2
  · have hx : takeF t p e = ((takeU t p e).1 == 1, (takeU t p e).2.1, (takeU t p e).2.2) := by
      simp only [takeF]; rw [if_neg (by omega)]
    have := hK w'; rw [hx] at this
    have h2 : (((takeU t p e).1 : Int) == 1) = ((takeU t p e).1 == 1) := by
      rw [Bool.eq_iff_iff]; simp; omega
    rw [h2]; exact this h'
theorem fixed_code (a b c d : UInt8) : IntKind.u32.wrap (↑(BitVec.ofInt 32 (IntKind.u32.wrap (↑(BitVec.ofInt 32 (IntKind.u32.wrap (↑(BitVec.ofInt 32 (IntKind.u32.wrap (a.toNat : Int)) ||| BitVec.ofInt 32 (IntKind.u32.wrap (IntKind.u32.wrap (b.toNat : Int) * 2 ^ 8))).toNat : Int)) ||| BitVec.ofInt 32 (IntKind.u32.wrap (IntKind.u32.wrap (c.toNat : Int) * 2 ^ 16))).toNat : Int)) ||| BitVec.ofInt 32 (IntKind.u32.wrap (IntKind.u32.wrap (d.toNat : Int) * 2 ^ 24))).toNat : Int)
    = ((a.toNat + b.toNat * 256 + c.toNat * 65536 + d.toNat * 16777216 : Nat) : Int) := by
  have ha := a.toNat_lt
  have hb := b.toNat_lt
  have hc := c.toNat_lt
  have hd := d.toNat_lt
  rw [w_u32 (n := (a.toNat : Int)) (by omega) (by omega), w_u32 (n := (b.toNat : Int)) (by omega) (by omega), w_u32 (n := (c.toNat : Int)) (by omega) (by omega), w_u32 (n := (d.toNat : Int)) (by omega) (by omega),
    w_u32 (n := (b.toNat : Int) * 2 ^ 8) (by omega) (by omega), w_u32 (n := (c.toNat : Int) * 2 ^ 16) (by omega) (by omega), w_u32 (n := (d.toNat : Int) * 2 ^ 24) (by omega) (by omega)]
  have step : ∀ (x y k : Nat), x < 2 ^ k → x + y * 2 ^ k < 2 ^ 32 → IntKind.u32.wrap (↑(BitVec.ofInt 32 (x : Int) ||| BitVec.ofInt 32 ((y * 2 ^ k : Nat) : Int)).toNat : Int) = ((x + y * 2 ^ k : Nat) : Int) := by
    intro x y k hx hxy
    have h1 : (BitVec.ofInt 32 (x : Int)).toNat = x := by rw [BitVec.toNat_ofInt]; omega
    have h2 : (BitVec.ofInt 32 ((y * 2 ^ k : Nat) : Int)).toNat = y * 2 ^ k := by rw [BitVec.toNat_ofInt]; omega
    have h3 : x ||| y * 2 ^ k = x + y * 2 ^ k := by
      have := Nat.two_pow_add_eq_or_of_lt hx y
      rw [Nat.or_comm, Nat.mul_comm y, ← this, Nat.add_comm]
    rw [BitVec.toNat_or, h1, h2, h3, w_u32 (by omega) (by omega)]
  have e1 : (b.toNat : Int) * 2 ^ 8 = ((b.toNat * 2 ^ 8 : Nat) : Int) := by omega
  have e2 : (c.toNat : Int) * 2 ^ 16 = ((c.toNat * 2 ^ 16 : Nat) : Int) := by omega
  have e3 : (d.toNat : Int) * 2 ^ 24 = ((d.toNat * 2 ^ 24 : Nat) : Int) := by omega
  rw [e1, e2, e3, step a.toNat b.toNat 8 (by omega) (by omega), step _ c.toNat 16 (by omega) (by omega), step _ d.toNat 24 (by omega) (by omega)]
theorem dFixed_ok (h : Sat W w (RdrR b t p e :: l)) (hp : p ≤ t.length) (ht : t.length ≤ 140737488355328)
    (hK : ∀ w', Sat W w' (RdrR b t (takeX t p e).2.1 (takeX t p e).2.2 :: l) → K (.int .u32 (takeX t p e).1) w') :
    CallP P F_codec_Reader_Fixed [.pointer (some ⟨b, 0, none⟩)] w K := by
  apply c_codec_Reader_Fixed
  unfold S_codec_Reader_Fixed
  simp only [Option.isNone_some, ifB_false, nilCk]
  refine ⟨fun _ w' => e = 0 ∧ Sat W w' (RdrR b t p e :: l), ?_, ?_⟩
  · rintro _ w1 ⟨rfl, h1⟩
    obtain ⟨s, h1⟩ := sat_rdr.1 h1
    have hsl := Sat.bsLen h1.tail
    refine ldB h1.drew (i := 0) (x := s) ?_
    refine ldB h1.drew (i := 1) (x := (p : Int)) ?_
    rw [w_i64 (by omega) (by omega)]
    refine ifB_dec (fun hc => ?_) fun hc => ?_
    · refine fail_ok (sat_rdr.2 ⟨s, h1.drew⟩) fun w2 h2 => tupU rfl ?_
      have hx : takeX t p 0 = (0, p, 6) := by simp only [takeX]; rw [if_neg (by simp), if_pos (by omega)]
      have := hK w2; rw [hx] at this; exact this h2
    · refine ldB h1.drew.drew (i := 0) (x := s) ?_
      refine ldB h1.drew.drew (i := 1) (x := (p : Int)) ?_
      have hrc := h1.drew.drew.swap.rdc
      refine ⟨subSl s 1 p s.len, ?_, ?_⟩
      · have := run_sliceLo (P := P) et_bytes (s := s) (lo := (p : Int)) (by omega) (by omega) hrc.2.1 w1.drew.drew (j := .i64)
        simpa [subSl] using this
      refine ldB h1.drew.drew (i := 1) (x := (p : Int)) ?_
      refine stB h1.drew.drew (i := 1) fun w2 h2 => ?_
      rw [w_i64 (by omega) (by omega)] at h2
      have hs2 := (h2.drew.swap.rdc).sub (lo := p) (hi := s.len) (by omega) (Nat.le_refl _)
      have hget : ∀ i, i < 4 → (((t.map vB).drop (p * 1)).take ((s.len - p) * 1))[i]? = (t[p + i]?).map vB := by
        intro i hi
        rw [List.getElem?_take, if_pos (by omega), List.getElem?_drop, Nat.mul_one, List.getElem?_map]
      have g : ∀ i (hi : i < 4), (((t.map vB).drop (p * 1)).take ((s.len - p) * 1))[((i : Nat) : Int).toNat]? = some (Kd.v (.int .u8) (t[p + i]'(by omega)).toNat) := by
        intro i hi
        show _[i]? = _
        rw [hget i hi, List.getElem?_eq_getElem (by omega)]; rfl
      refine ixld et_bytes hs2 (by decide) (k := .int .u8) (by exact g 0 (by omega)) ?_
      refine ixld et_bytes hs2 (by decide) (k := .int .u8) (by exact g 1 (by omega)) ?_
      refine ixld et_bytes hs2 (by decide) (k := .int .u8) (by exact g 2 (by omega)) ?_
      refine ixld et_bytes hs2 (by decide) (k := .int .u8) (by exact g 3 (by omega)) ?_
      rw [fixed_code]
      have hdr : t.drop p = t[p] :: t[p + 1] :: t[p + 2] :: t[p + 3] :: t.drop (p + 4) := by
        rw [List.drop_eq_getElem_cons (by omega), List.drop_eq_getElem_cons (i := p + 1) (by omega), List.drop_eq_getElem_cons (i := p + 2) (by omega), List.drop_eq_getElem_cons (i := p + 3) (by omega)]
      have hx : takeX t p 0 = (t[p].toNat + t[p + 1].toNat * 256 + t[p + 2].toNat * 65536 + t[p + 3].toNat * 16777216, p + 4, 0) := by
        simp only [takeX]; rw [if_neg (by simp), if_neg (by omega), hdr]; rfl
      have := hK w2.drew; rw [hx] at this
      exact this (sat_rdr.2 ⟨s, h2.drew⟩)
  · obtain ⟨s, h1⟩ := sat_rdr.1 h
    refine ldB h1 (i := 2) (x := e) ?_
    refine ifB_bne (fun he => ?_) fun he => ⟨he, h⟩
    have hx : takeX t p e = (0, p, e) := by simp [takeX, he]
    have := hK w
    rw [hx] at this
    exact this h
theorem dBytes_ok (h : Sat W w (RdrR b t p e :: l)) (hp : p ≤ t.length) (ht : t.length ≤ 140737488355328)
    (hK : ∀ s w', Sat W w' (BsR s (takeB t p e).1 :: RdrR b t (takeB t p e).2.1 (takeB t p e).2.2 :: l) → K s.v w') :
    CallP P F_codec_Reader_Bytes [.pointer (some ⟨b, 0, none⟩)] w K := by
  apply c_codec_Reader_Bytes
  unfold S_codec_Reader_Bytes
  refine dUint_ok h hp ht fun w1 h1 => tyI ?_
  have hb := takeU_bound (e := e) hp
  simp only [Option.isNone_some, ifB_false, nilCk]
  generalize hu : takeU t p e = u at *
  obtain ⟨n, q, e1⟩ := u
  simp only at h1 hb ⊢
  have hnil : ∀ w' q' e', takeB t p e = ([], q', e') → Sat W w' (RdrR b t q' e' :: l) → K (.slice none 0 0) w' := by
    intro w' q' e' hx h'
    have := hK ⟨none, 0, 0⟩ w'
    rw [hx] at this
    exact this (h'.nilSlr T_uint8 1)
  refine ⟨fun _ w' => e1 = 0 ∧ n ≤ 4096 ∧ q + n ≤ t.length ∧ Sat W w' (RdrR b t q 0 :: l), ?_, ?_⟩
  · rintro _ w2 ⟨rfl, hn, hqn, h2⟩
    obtain ⟨s, h2⟩ := sat_rdr.1 h2
    have hsl := Sat.bsLen h2.tail
    have hrd : ∀ w, Sat W w (Blk b [s.v, .int .i64 q, .int .i64 0] T_codec_Reader :: BsR s t :: l) → ∃ l', Sat W w (Blk b [s.v, .int .i64 q, .int .i64 0] T_codec_Reader :: l') := fun w h => ⟨_, h⟩
    refine ⟨fun w => Sat W w (Blk b [s.v, .int .i64 q, .int .i64 0] T_codec_Reader :: BsR s t :: l), h2.drew, ?_⟩
    refine hldB hrd (i := 0) (x := s) ?_
    refine hldB hrd (i := 1) (x := (q : Int)) ?_
    refine hldB hrd (i := 1) (x := (q : Int)) ?_
    rw [w_i64 (n := (n : Int)) (by omega) (by omega), w_i64 (n := (q : Int) + n) (by omega) (by omega)]
    have hcap := h2.tail.slLen.2.1
    refine ⟨subSl s 1 q (q + n), fun w3 h3 => ?_, ?_⟩
    · have := run_slice (P := P) et_bytes (s := s) (lo := (q : Int)) (hi := (q : Int) + n) (by omega) (by omega) (by omega) w3 (j := .i64) (k := .i64)
      rw [this]
      have e1 : ((q : Int) + n).toNat = q + n := by omega
      rw [e1]; rfl
    · have hr := (h2.drew.swap.rdc).sub (lo := q) (hi := q + n) (by omega) (by omega)
      have hx : takeB t p e = ((t.drop q).take n, q + n, 0) := by
        simp only [takeB, hu]; rw [if_neg (by simp), if_neg (by omega), if_neg (by omega)]
      have e2 : (List.take ((q + n - q) * 1) (List.drop (q * 1) (t.map vB))) = (((t.drop q).take n)).map vB := by
        rw [Nat.mul_one, Nat.mul_one, Nat.add_sub_cancel_left, List.map_take, List.map_drop]
      rw [e2] at hr
      refine appBytes (s := ⟨none, 0, 0⟩) (o := []) (Sat.nilSlr h2.drew T_uint8 1) hr (by simp; omega) fun s' w3 h3 => ?_
      rw [List.nil_append] at h3
      refine ⟨h3.tail, ?_⟩
      refine ldB h3.swap (i := 1) (x := (q : Int)) ?_
      refine stB h3.swap (i := 1) fun w4 h4 => ?_
      rw [w_i64 (by omega) (by omega)] at h4
      have := hK s' w4
      rw [hx] at this
      refine this (Sat.swap (sat_rdr.2 ⟨s, ?_⟩))
      have h5 := h4.perm (List.Perm.cons _ (List.Perm.swap _ _ _))
      exact h5
  · obtain ⟨s, h2⟩ := sat_rdr.1 h1
    refine ldB h2 (i := 2) (x := e1) ?_
    refine ifB_bne (fun he => hnil w1 q e1 (by simp only [takeB, hu]; rw [if_pos he]) h1) fun he => ?_
    subst he
    refine ifB_dec (fun hc => ?_) fun hc => ?_
    · refine fail_ok h1 fun w2 h3 => tupU rfl (hnil w2 q 2 (by simp only [takeB, hu]; rw [if_neg (by simp), if_pos (by omega)]) h3)
    · have hsl := Sat.bsLen h2.tail
      refine ldB h2.drew (i := 0) (x := s) ?_
      refine ldB h2.drew (i := 1) (x := (q : Int)) ?_
      rw [w_i64 (n := (n : Int)) (by omega) (by omega), w_i64 (by omega) (by omega)]
      refine ifB_dec (fun hc2 => ?_) fun hc2 => ?_
      · refine fail_ok (sat_rdr.2 ⟨s, h2.drew⟩) fun w2 h3 => tupU rfl (hnil w2 q 6 (by simp only [takeB, hu]; rw [if_neg (by simp), if_neg (by omega), if_pos (by omega)]) h3)
      · exact ⟨rfl, by omega, by omega, sat_rdr.2 ⟨s, h2.drew⟩⟩
theorem dInts_ok (h : Sat W w (RdrR b t p e :: l)) (hp : p ≤ t.length) (ht : t.length ≤ 140737488355328)
    (hK : ∀ s w', Sat W w' (IsR s (takeL t p e).1 :: RdrR b t (takeL t p e).2.1 (takeL t p e).2.2 :: l) → K s.v w') :
    CallP P F_codec_Reader_Ints [.pointer (some ⟨b, 0, none⟩)] w K := by
  apply c_codec_Reader_Ints
  unfold S_codec_Reader_Ints
  refine dUint_ok h hp ht fun w1 h1 => tyI ?_
  have hb := takeU_bound (e := e) hp
  simp only [nilCk]
  generalize hu : takeU t p e = u at *
  obtain ⟨n, q, e1⟩ := u
  simp only at h1 hb ⊢
  have hnil : ∀ w' q' e', takeL t p e = ([], q', e') → Sat W w' (RdrR b t q' e' :: l) → K (.slice none 0 0) w' := by
    intro w' q' e' hx h'
    have := hK ⟨none, 0, 0⟩ w'
    rw [hx] at this
    exact this (h'.nilSlr T_int 1)
  refine ifB_dec (fun hc => ?_) fun hc => ?_
  · have he : e1 = 0 := by
      by_cases he : e1 = 0
      · exact he
      · have := hb.2.2.2.1 he; omega
    subst he
    exact fail_ok h1 fun w2 h3 => tupU rfl (hnil w2 q 2 (by simp only [takeL, hu]; rw [if_neg (by simp), if_pos (by omega)]) h3)
  · by_cases he : e1 = 0
    · subst he
      have hx0 : takeL t p e = takeN t n q [] := by simp only [takeL, hu]; rw [if_neg (by simp), if_neg (by omega)]
      refine ⟨fun x w' => ∃ (i : Nat) (acc : List Int) (r : Nat), x.2.1 = i ∧ i ≤ n ∧ acc.length = i ∧ r ≤ t.length ∧ takeN t n q [] = takeN t (n - i) r acc ∧ Sat W w' (IsR x.1 acc :: RdrR b t r 0 :: l), fun x _ => n - x.2.1.toNat,
        ⟨0, [], q, rfl, by omega, rfl, by omega, rfl, h1.nilSlr T_int 1⟩, ?_⟩
      rintro ⟨s, i', u⟩ w2 ⟨i, acc, r, hi, hin, hal, hr, htn, h2⟩
      simp only at hi h2 ⊢
      subst hi
      refine ifB_dec (fun hlt => ?_) fun hge => ?_
      · refine dInt_ok h2.swap hr ht fun w3 h3 => tyI ?_
        have hbi := takeU_bound (e := 0) hr
        have hni : n - i = (n - (i + 1)) + 1 := by omega
        generalize hv : takeI t r 0 = v at *
        obtain ⟨x, r', e'⟩ := v
        have hr' : r' ≤ t.length := by
          have : r' = (takeU t r 0).2.1 := by
            have := congrArg (fun z => z.2.1) hv; simpa [takeI] using this.symm
          omega
        simp only at h3 ⊢
        have h3' := h3
        obtain ⟨s3, h3⟩ := sat_rdr.1 h3
        refine ldB h3 (i := 2) (x := e') ?_
        refine ifB_bne (fun he => ?_) fun he => ?_
        · refine hnil w3 r' e' ?_ h3'.drop2
          rw [hx0, htn, hni, takeN, hv]; simp [he]
        · subst he
          have hsl := Sat.isLen h3'.swap
          refine app1 et_ints h3'.swap rfl (by omega) (by omega) fun s4 w4 h4 _ => ?_
          rw [w_u64 (by omega) (by omega)]
          refine ⟨⟨i + 1, acc ++ [x], r', rfl, by omega, by simp [hal], hr', ?_, ?_⟩, by omega⟩
          · rw [htn, hni, takeN, hv]; simp
          · rw [IsR, List.map_append]; exact h4
      · have : n - i = 0 := by omega
        rw [this, takeN] at htn
        have := hK s w2
        rw [hx0, htn] at this
        exact this h2
    · have hn := hb.2.2.2.1 he
      subst hn
      refine ⟨fun x w' => x.1 = ⟨none, 0, 0⟩ ∧ x.2.1 = 0 ∧ Sat W w' (RdrR b t q e1 :: l), fun _ _ => 0, ⟨rfl, rfl, h1⟩, ?_⟩
      rintro ⟨s, i', u⟩ w2 ⟨hs, hi, h2⟩
      simp only at hs hi ⊢
      subst hs; subst hi
      refine ifB_dec (fun hlt => by omega) fun hge => ?_
      exact hnil w2 q e1 (by simp only [takeL, hu]; rw [if_pos he]) h2
end
end Go.Proofs.Ytcfgbboibgjlcaa
