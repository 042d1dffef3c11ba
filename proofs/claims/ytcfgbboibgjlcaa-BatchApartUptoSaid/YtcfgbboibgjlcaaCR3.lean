/- Layer 3: State, End; the reference's reader. -/
import Derived.Test.YtcfgbboibgjlcaaCR2
namespace Go.Proofs.Ytcfgbboibgjlcaa
open Go Go.Pk
section
variable {W w : World} {l : List Res} {K : Value → World → Prop} {b p : Nat} {t : List UInt8} {e : Int}
theorem dState_ok (h : Sat W w (RdrR b t p e :: l)) (hp : p ≤ t.length)
    (hK : ∀ w', Sat W w' (RdrR b t p e :: l) → K (.tuple #[.int .i64 p, .int .i64 ((t.length - p : Nat) : Int), .int .i64 e]) w') :
    CallP P F_codec_Reader_State [.pointer (some ⟨b, 0, none⟩)] w K := by
  apply c_codec_Reader_State
  unfold S_codec_Reader_State
  simp only [Option.isNone_some, ifB_false, nilCk]
  obtain ⟨s, h⟩ := sat_rdr.1 h
  have hsl := Sat.bsLen h.tail
  refine ldB h.drew (i := 1) (x := (p : Int)) ?_
  refine ldB h.drew (i := 0) (x := s) ?_
  refine ldB h.drew (i := 1) (x := (p : Int)) ?_
  refine ldB h.drew (i := 2) (x := e) ?_
  rw [w_i64 (by omega) (by omega)]
  have : ((t.length - p : Nat) : Int) = (s.len : Int) - p := by omega
  have h2 := hK w.drew (sat_rdr.2 ⟨s, h.drew⟩)
  rw [this] at h2
  exact h2
theorem dEnd_ok (h : Sat W w (RdrR b t p e :: l)) (hK : ∀ w', Sat W w' (RdrR b t p e :: l) → K (.int .i64 (endE t p e)) w') :
    CallP P F_codec_Reader_End [.pointer (some ⟨b, 0, none⟩)] w K := by
  apply c_codec_Reader_End
  unfold S_codec_Reader_End
  simp only [Option.isNone_some, ifB_false, nilCk]
  obtain ⟨s, h⟩ := sat_rdr.1 h
  have hsl := Sat.bsLen h.tail
  refine ⟨fun _ w' => ¬ (e = 0 ∧ p < t.length) ∧ Sat W w' (Blk b [s.v, .int .i64 p, .int .i64 e] T_codec_Reader :: BsR s t :: l), ?_, ?_⟩
  · rintro _ w1 ⟨hn, h1⟩
    refine ldB h1 (i := 2) (x := e) ?_
    have := hK w1 (sat_rdr.2 ⟨s, h1⟩)
    rw [endE, if_neg hn] at this
    exact this
  · refine ldB h.drew (i := 2) (x := e) ?_
    refine ifB_beq (fun he => ?_) fun he => ⟨fun hh => he hh.1, h.drew⟩
    refine ldB h.drew (i := 1) (x := (p : Int)) ?_
    refine ldB h.drew (i := 0) (x := s) ?_
    refine ifB_dec (fun hc => ?_) fun hc => ⟨by omega, h.drew⟩
    have := hK w.drew (sat_rdr.2 ⟨s, h.drew⟩)
    rw [endE, if_pos ⟨he, by omega⟩] at this
    exact this

/-! ### the reference's reader -/
abbrev RfR (b : Nat) (s : Sl) (p : Nat) (e : Int) : Res := Blk b [s.v, .int .i64 p, .int .i64 e] T_penstockref03_Reader
variable {s : Sl}
theorem rfail_ok {x : Int} (h : Sat W w (RfR b s p e :: l)) (hK : ∀ w', Sat W w' (RfR b s p (if e = 0 then x else e) :: l) → K (.tuple #[]) w') :
    CallP P F_ref03_Reader_fail [.pointer (some ⟨b, 0, none⟩), .int .i64 x] w K := by
  apply c_ref03_Reader_fail
  unfold S_ref03_Reader_fail
  simp only [nilCk]
  refine ldB h (i := 2) (x := e) ?_
  refine ifB_beq (fun he => ?_) fun he => ?_
  · refine stB h (i := 2) fun w1 h1 => hK w1 ?_
    rw [if_pos he]; simpa using h1
  · refine hK w ?_
    rw [if_neg he]; exact h
theorem rEnd_ok (h : Sat W w (RfR b s p e :: l)) (hr : Rd W l s 1 (t.map vB)) (hK : ∀ w', Sat W w' (RfR b s p e :: l) → K (.int .i64 (endE t p e)) w') :
    CallP P F_ref03_Reader_End [.pointer (some ⟨b, 0, none⟩)] w K := by
  apply c_ref03_Reader_End
  unfold S_ref03_Reader_End
  simp only [nilCk]
  have hsl := (hr w h.tail).1
  simp at hsl
  refine ⟨fun _ w' => ¬ (e = 0 ∧ p < t.length) ∧ Sat W w' (RfR b s p e :: l), ?_, ?_⟩
  · rintro _ w1 ⟨hn, h1⟩
    refine ldB h1 (i := 2) (x := e) ?_
    have := hK w1 h1
    rw [endE, if_neg hn] at this
    exact this
  · refine ldB h.drew (i := 2) (x := e) ?_
    refine ifB_beq (fun he => ?_) fun he => ⟨fun hh => he hh.1, h.drew⟩
    refine ldB h.drew (i := 1) (x := (p : Int)) ?_
    refine ldB h.drew (i := 0) (x := s) ?_
    refine ifB_dec (fun hc => ?_) fun hc => ⟨by omega, h.drew⟩
    have := hK w.drew h.drew
    rw [endE, if_pos ⟨he, by omega⟩] at this
    exact this
set_option maxRecDepth 4000 in
theorem rUintD_ok (h : Sat W w (RfR b s p e :: l)) (hr : Rd W l s 1 (t.map vB)) (hp : p ≤ t.length) (ht : t.length ≤ 140737488355328)
    (hK : ∀ w', Sat W w' (RfR b s (takeU t p e).2.1 (takeU t p e).2.2 :: l) → K (.int .u64 (takeU t p e).1) w') :
    CallP P F_ref03_Reader_Uint [.pointer (some ⟨b, 0, none⟩)] w K := by
  apply c_ref03_Reader_Uint
  unfold S_ref03_Reader_Uint
  simp only [nilCk]
  have hsl := (hr w h.tail).1
  simp at hsl
  refine ldB h (i := 2) (x := e) ?_
  refine ifB_bne (fun he => ?_) fun he => ?_
  · have := hK w
    rw [(takeU_bound hp).2.2.2.2 he] at this
    exact this h
  · subst he
    refine ⟨fun x w' => ∃ k n : Nat, x.1 = n ∧ x.2.1 = k ∧ k ≤ 9 ∧ n < 128 ^ k ∧ p + k ≤ t.length ∧ rdU (t.drop p) 0 0 = rdU (t.drop (p + k)) k n ∧ Sat W w' (RfR b s p 0 :: l),
      fun x _ => 10 - x.2.1.toNat, ⟨0, 0, rfl, rfl, by omega, by simp, by omega, rfl, h⟩, ?_⟩
    rintro ⟨n', k', u⟩ w2 ⟨k, n, hn, hk', hk, hn128, hpk, hrd, h2⟩
    simp only at hn hk' ⊢
    subst hn; subst hk'
    refine ifB_dec (fun hk10 => ?_) fun hk10 => by omega
    refine ldB h2.drew (i := 1) (x := (p : Int)) ?_
    refine ldB h2.drew (i := 0) (x := s) ?_
    rw [w_i64 (n := (p : Int) + k) (by omega) (by omega)]
    have bad : ∀ (w4 : World) (x : Int), Sat W w4 (RfR b s p 0 :: l) → takeU t p 0 = (0, p, x) →
        CallP P F_ref03_Reader_fail [(.pointer (some ⟨b, 0, none⟩)), (.int .i64 x)] w4 fun v9 w10 => TupP [] v9 fun _ => K (.int .u64 0) w10 := by
      intro w4 x h4 hx
      refine rfail_ok h4 fun w6 h6 => tupU rfl ?_
      have := hK w6
      rw [hx] at this
      exact this h6
    refine ifB_dec (fun hc => ?_) fun hc => ?_
    · refine bad _ _ h2.drew ?_
      simp only [takeU, ne_eq, not_true_eq_false, if_false, hrd]
      rw [List.drop_of_length_le (by omega)]; rfl
    · have hlt : p + k < t.length := by omega
      have hdrop : t.drop (p + k) = t[p + k] :: t.drop (p + k + 1) := List.drop_eq_getElem_cons hlt
      have hb := t[p + k].toNat_lt
      refine ldB h2.drew.drew (i := 0) (x := s) ?_
      refine ldB h2.drew.drew (i := 1) (x := (p : Int)) ?_
      refine ixld et_bytes (hr _ h2.drew.drew.tail) (by rw [w_i64 (by omega) (by omega)]; omega) (k := .int .u8) (x := (t[p + k].toNat : Int)) (by rw [w_i64 (by omega) (by omega)]; exact getElem?_vB hlt) ?_
      have hwb : IntKind.u64.wrap (t[p + k].toNat : Int) = (t[p + k].toNat : Int) := w_u64 (by omega) (by omega)
      have hbad7 : (k = 9 ∧ t[p + k].toNat > 1) ∨ (t[p + k].toNat = 0 ∧ k > 0) → takeU t p 0 = (0, p, 7) := by
        intro hbad
        simp only [takeU, ne_eq, not_true_eq_false, if_false, hrd, hdrop, rdU]
        rw [if_pos hbad]
      refine ⟨fun _ w' => ¬ ((k = 9 ∧ t[p + k].toNat > 1) ∨ (t[p + k].toNat = 0 ∧ k > 0)) ∧ Sat W w' (RfR b s p 0 :: l), ?_, ?_⟩
      · rintro _ w4 ⟨hgood, h4⟩
        have hm : Int.tmod (t[p + k].toNat : Int) 128 = ((t[p + k].toNat % 128 : Nat) : Int) := by rw [Int.tmod_eq_emod_of_nonneg (by omega)]; omega
        rw [hwb, hm, w_i64 (n := 7 * (k : Int)) (by omega) (by omega), w_u64 (n := 7 * (k : Int)) (by omega) (by omega)]
        refine shlR (by omega) ?_
        have hsum : n + t[p + k].toNat % 128 * 128 ^ k < 2 ^ 64 := by
          rcases Nat.lt_or_ge k 9 with h9 | h9
          · have : 128 ^ (k + 1) ≤ 128 ^ 9 := Nat.pow_le_pow_right (by decide) (by omega)
            have h3 : t[p + k].toNat % 128 * 128 ^ k ≤ 127 * 128 ^ k := Nat.mul_le_mul_right _ (by omega)
            rw [Nat.pow_succ] at this
            omega
          · have : k = 9 := by omega
            subst this
            have : t[p + 9].toNat ≤ 1 := by omega
            have h3 : t[p + 9].toNat % 128 * 128 ^ 9 ≤ 1 * 128 ^ 9 := Nat.mul_le_mul_right _ (by omega)
            omega
        have hsh : IntKind.u64.wrap ((n : Int) + IntKind.u64.wrap (((t[p + k].toNat % 128 : Nat) : Int) * 2 ^ (min (7 * (k : Int)).toNat IntKind.u64.bits))) = ((n + t[p + k].toNat % 128 * 128 ^ k : Nat) : Int) := by
          have hmin : min (7 * (k : Int)).toNat IntKind.u64.bits = 7 * k := by show min (7 * (k : Int)).toNat 64 = 7 * k; omega
          have h128 : 128 ^ k = 2 ^ (7 * k) := by rw [Nat.pow_mul]
          rw [hmin]
          have hc : (((t[p + k].toNat % 128 : Nat) : Int) * 2 ^ (7 * k)) = ((t[p + k].toNat % 128 * 128 ^ k : Nat) : Int) := by rw [h128]; push_cast; rfl
          rw [hc, w_u64 (n := ((t[p + k].toNat % 128 * 128 ^ k : Nat) : Int)) (by omega) (by omega), w_u64 (by omega) (by omega)]
          omega
        rw [hsh]
        generalize hmm : n + t[p + k].toNat % 128 * 128 ^ k = m at *
        refine ifB_dec (fun hlt8 => ?_) fun hge8 => ?_
        · have hx : takeU t p 0 = (m, p + (k + 1), 0) := by
            simp only [takeU, ne_eq, not_true_eq_false, if_false, hrd, hdrop, rdU]
            rw [if_neg hgood, if_pos (by omega), ← hmm, Nat.mod_eq_of_lt (by omega)]
          refine ldB h4 (i := 1) (x := (p : Int)) ?_
          refine stB h4 (i := 1) fun w5 h5 => ?_
          rw [w_i64 (n := (p : Int) + k) (by omega) (by omega), w_i64 (by omega) (by omega)] at h5
          have := hK w5
          rw [hx] at this
          exact this h5
        · have hk9 : k < 9 := by
            rcases Nat.lt_or_ge k 9 with h | h
            · exact h
            · exact absurd (Or.inl ⟨by omega, by omega⟩) hgood
          have hmod : t[p + k].toNat % 128 = t[p + k].toNat - 128 := by omega
          rw [w_i64 (by omega) (by omega)]
          refine ⟨⟨k + 1, m, rfl, by omega, by omega, ?_, by omega, ?_, h4⟩, by omega⟩
          · rw [Nat.pow_succ, ← hmm]
            have h3 : t[p + k].toNat % 128 * 128 ^ k ≤ 127 * 128 ^ k := Nat.mul_le_mul_right _ (by omega)
            omega
          · rw [hrd, hdrop]
            simp only [rdU]
            rw [if_neg hgood, if_neg (by omega), ← hmm, hmod]; rfl
      · rw [hwb]
        refine ifB_beq (fun h9 => ?_) fun h9 => ?_
        · refine ifB_dec (fun hgt => bad _ _ h2.drew.drew (hbad7 (Or.inl ⟨by omega, by omega⟩))) fun hgt => ?_
          refine ifB_dec (fun hk0 => ?_) fun hk0 => ⟨by omega, h2.drew.drew⟩
          exact ifB_beq (fun hz => bad _ _ h2.drew.drew (hbad7 (Or.inr ⟨by omega, by omega⟩))) fun hz => ⟨by omega, h2.drew.drew⟩
        · refine ifB_dec (fun hk0 => ?_) fun hk0 => ⟨by omega, h2.drew.drew⟩
          exact ifB_beq (fun hz => bad _ _ h2.drew.drew (hbad7 (Or.inr ⟨by omega, by omega⟩))) fun hz => ⟨by omega, h2.drew.drew⟩
theorem rZag_ok {n : Nat} (hn : n < 2 ^ 64) (hK : K (.int .i64 (zag n)) w) : CallP P F_ref03_Zag [.int .u64 n] w K := by
  apply c_ref03_Zag
  unfold S_ref03_Zag
  have h1 : Int.tmod (n : Int) 2 = (n : Int) % 2 := Int.tmod_eq_emod_of_nonneg (by omega)
  have h2 : Int.tdiv (n : Int) 2 = (n : Int) / 2 := Int.tdiv_eq_ediv_of_nonneg (by omega)
  rw [h1, h2, w_u64 (n := (n : Int) / 2) (by omega) (by omega), w_i64 (n := (n : Int) / 2) (by omega) (by omega), w_i64 (n := 0 - (n : Int) / 2) (by omega) (by omega), w_i64 (by omega) (by omega)]
  unfold zag at hK
  refine ifB_beq (fun hc => ?_) fun hc => ?_
  · rw [if_pos (by omega)] at hK; exact hK
  · rw [if_neg (by omega)] at hK
    have : 0 - (n : Int) / 2 - 1 = -((n / 2 : Nat) : Int) - 1 := by omega
    rw [this]; exact hK
theorem rIntD_ok (h : Sat W w (RfR b s p e :: l)) (hr : Rd W l s 1 (t.map vB)) (hp : p ≤ t.length) (ht : t.length ≤ 140737488355328)
    (hK : ∀ w', Sat W w' (RfR b s (takeI t p e).2.1 (takeI t p e).2.2 :: l) → K (.int .i64 (takeI t p e).1) w') :
    CallP P F_ref03_Reader_Int [.pointer (some ⟨b, 0, none⟩)] w K := by
  apply c_ref03_Reader_Int
  unfold S_ref03_Reader_Int
  refine rUintD_ok h hr hp ht fun w' h' => tyI ?_
  refine rZag_ok (takeU_bound hp).1 (tyI ?_)
  exact hK w' h'
theorem rFlagD_ok (h : Sat W w (RfR b s p e :: l)) (hr : Rd W l s 1 (t.map vB)) (hp : p ≤ t.length) (ht : t.length ≤ 140737488355328)
    (hK : ∀ w', Sat W w' (RfR b s (takeF t p e).2.1 (takeF t p e).2.2 :: l) → K (.bool (takeF t p e).1) w') :
    CallP P F_ref03_Reader_Flag [.pointer (some ⟨b, 0, none⟩)] w K := by
  apply c_ref03_Reader_Flag
  unfold S_ref03_Reader_Flag
  refine rUintD_ok h hr hp ht fun w' h' => tyI ?_
  refine ifB_dec (fun hc => ?_) fun hc => ?_
  · have hx : takeF t p e = (false, (takeU t p e).2.1, if (takeU t p e).2.2 = 0 then 7 else (takeU t p e).2.2) := by
      simp only [takeF]; rw [if_pos (by omega)]
    refine rfail_ok h' fun w2 h2 => tupU rfl ?_
    have := hK w2; rw [hx] at this; exact this h2
  · have hx : takeF t p e = ((takeU t p e).1 == 1, (takeU t p e).2.1, (takeU t p e).2.2) := by
      simp only [takeF]; rw [if_neg (by omega)]
    have := hK w'; rw [hx] at this
    have h2 : (((takeU t p e).1 : Int) == 1) = ((takeU t p e).1 == 1) := by
      rw [Bool.eq_iff_iff]; simp; omega
    rw [h2]; exact this h'
theorem rFixedD_ok (h : Sat W w (RfR b s p e :: l)) (hr : Rd W l s 1 (t.map vB)) (hp : p ≤ t.length) (ht : t.length ≤ 140737488355328)
    (hK : ∀ w', Sat W w' (RfR b s (takeX t p e).2.1 (takeX t p e).2.2 :: l) → K (.int .u32 (takeX t p e).1) w') :
    CallP P F_ref03_Reader_Fixed [.pointer (some ⟨b, 0, none⟩)] w K := by
  apply c_ref03_Reader_Fixed
  unfold S_ref03_Reader_Fixed
  simp only [nilCk]
  have hsl := (hr w h.tail).1
  simp at hsl
  refine ldB h (i := 2) (x := e) ?_
  refine ifB_bne (fun he => ?_) fun he => ?_
  · have hx : takeX t p e = (0, p, e) := by simp [takeX, he]
    have := hK w
    rw [hx] at this
    exact this h
  · subst he
    refine ldB h.drew (i := 1) (x := (p : Int)) ?_
    refine ldB h.drew (i := 0) (x := s) ?_
    rw [w_i64 (by omega) (by omega)]
    refine ifB_dec (fun hc => ?_) fun hc => ?_
    · refine rfail_ok h.drew fun w2 h2 => tupU rfl ?_
      have hx : takeX t p 0 = (0, p, 6) := by simp only [takeX]; rw [if_neg (by simp), if_pos (by omega)]
      have := hK w2; rw [hx] at this; exact this h2
    · have hp4 : p + 4 ≤ t.length := by omega
      have hdr : t.drop p = t[p] :: t[p + 1] :: t[p + 2] :: t[p + 3] :: t.drop (p + 4) := by
        rw [List.drop_eq_getElem_cons (by omega), List.drop_eq_getElem_cons (i := p + 1) (by omega), List.drop_eq_getElem_cons (i := p + 2) (by omega), List.drop_eq_getElem_cons (i := p + 3) (by omega)]
      have hx : takeX t p 0 = (t[p].toNat + t[p + 1].toNat * 256 + t[p + 2].toNat * 65536 + t[p + 3].toNat * 16777216, p + 4, 0) := by
        simp only [takeX]; rw [if_neg (by simp), if_neg (by omega), hdr]; rfl
      let f : Nat → Nat := fun i => fixedN ((t.drop (p + 4 - i)).take i ++ [0, 0, 0, 0])
      let v (i : Nat) : Nat := match i with
        | 0 => 0
        | 1 => t[p + 3].toNat
        | 2 => t[p + 3].toNat * 256 + t[p + 2].toNat
        | 3 => (t[p + 3].toNat * 256 + t[p + 2].toNat) * 256 + t[p + 1].toNat
        | _ => ((t[p + 3].toNat * 256 + t[p + 2].toNat) * 256 + t[p + 1].toNat) * 256 + t[p].toNat
      have hb0 := t[p].toNat_lt
      have hb1 := t[p + 1].toNat_lt
      have hb2 := t[p + 2].toNat_lt
      have hb3 := t[p + 3].toNat_lt
      refine ⟨fun x w' => ∃ i : Nat, i ≤ 4 ∧ x.1 = v i ∧ x.2.1 = 3 - (i : Int) ∧ Sat W w' (RfR b s p 0 :: l), fun x _ => (x.2.1 + 1).toNat, ⟨0, by omega, rfl, rfl, h.drew⟩, ?_⟩
      rintro ⟨n', i', u⟩ w2 ⟨i, hi, hn, hi', h2⟩
      simp only at hn hi' ⊢
      subst hn; subst hi'
      refine ifB_dec (fun hc => ?_) fun hc => ?_
      · refine ldB h2.drew (i := 0) (x := s) ?_
        refine ldB h2.drew (i := 1) (x := (p : Int)) ?_
        refine ixld et_bytes (hr _ h2.drew.tail) (by rw [w_i64 (by omega) (by omega)]; omega) (k := .int .u8) (x := ((t[p + (3 - i)]'(by omega)).toNat : Int)) ?_ ?_
        · rw [w_i64 (by omega) (by omega)]
          have : ((p : Int) + (3 - (i : Int))).toNat = p + (3 - i) := by omega
          rw [this]; exact getElem?_vB (by omega)
        · have hby := (t[p + (3 - i)]'(by omega)).toNat_lt
          refine ⟨⟨i + 1, by omega, ?_, by rw [w_i64 (by omega) (by omega)]; omega, h2.drew⟩, by rw [w_i64 (by omega) (by omega)]; omega⟩
          have : i = 0 ∨ i = 1 ∨ i = 2 ∨ i = 3 := by omega
          rcases this with rfl | rfl | rfl | rfl
          all_goals
            simp only [v, Nat.sub_zero, Nat.sub_self, Nat.reduceSub, Nat.add_zero] at hby ⊢
            rw [w_u32 (n := 256 * _) (by omega) (by omega), w_u32 (n := ((UInt8.toNat _ : Nat) : Int)) (by omega) (by omega), w_u32 (by omega) (by omega)]
            omega
      · have : i = 4 := by omega
        subst this
        refine ldB h2 (i := 1) (x := (p : Int)) ?_
        refine stB h2 (i := 1) fun w3 h3 => ?_
        rw [w_i64 (by omega) (by omega)] at h3
        have := hK w3
        rw [hx] at this
        have hv : ((v 4 : Nat) : Int) = ((t[p].toNat + t[p + 1].toNat * 256 + t[p + 2].toNat * 65536 + t[p + 3].toNat * 16777216 : Nat) : Int) := by simp only [v]; omega
        rw [hv]
        exact this h3
end
end Go.Proofs.Ytcfgbboibgjlcaa
