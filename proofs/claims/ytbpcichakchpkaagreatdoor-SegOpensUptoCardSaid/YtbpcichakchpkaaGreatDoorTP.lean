/- Layer 8: the reference's frames are read. -/
import Derived.Test.YtbpcichakchpkaaGreatDoorTJ
namespace Go.Pk
open Go
theorem fixedN_take {t : List UInt8} {n : Nat} (h : 4 ≤ t.length) (hn : 4 ≤ n) : fixedN (t.take n) = fixedN t := by
  match t, h with
  | a :: b :: c :: d :: r, _ =>
    obtain ⟨m, rfl⟩ : ∃ m, n = m + 4 := ⟨n - 4, by omega⟩
    rfl
theorem fixedN_lt (t : List UInt8) : fixedN t < 4294967296 := by
  match t with
  | a :: b :: c :: d :: r =>
    have h1 := a.toNat_lt
    have h2 := b.toNat_lt
    have h3 := c.toNat_lt
    have h4 := d.toNat_lt
    simp only [fixedN]
    omega
  | [] => simp [fixedN]
  | [_] => simp [fixedN]
  | [_, _] => simp [fixedN]
  | [_, _, _] => simp [fixedN]
theorem takeX_cases (t : List UInt8) (p : Nat) : (t.length - p < 4 ∧ takeX t p 0 = (0, p, 6)) ∨ (4 ≤ t.length - p ∧ takeX t p 0 = (fixedN (t.drop p), p + 4, 0)) := by
  unfold takeX
  by_cases h : t.length - p < 4
  · exact .inl ⟨h, by rw [if_neg (by decide), if_pos h]⟩
  · exact .inr ⟨by omega, by rw [if_neg (by decide), if_neg h]⟩
end Go.Pk
namespace Go.Proofs.YtbpcichakchpkaaGreatDoor
open Go Go.Pk
section
variable {W w : World} {l : List Res} {K : Value → World → Prop}
theorem rdec_ok {x : Sl} {b : List UInt8} {at_ : Nat} (h : Sat W w l) (hx : Rd W l x 1 (b.map vB)) (hb : b.length ≤ 1099511627776) (ha : at_ ≤ b.length)
    (hK : ∀ s n w', Sat W w' l → K (.tuple #[Sl.v s, .int .i64 n, .int .i64 (fdec (b.drop at_)).2.2]) w') : CallP P F_ref04_DocDecode [x.v, .int .i64 (at_ : Int)] w K := by
  apply c_ref04_DocDecode
  unfold S_ref04_DocDecode
  have hxl : x.len = b.length := by have := (hx w h).1; simp at this; omega
  refine boxB h fun a0 w1 h1 => ?_
  have h1 : Sat W w1 (RfR a0 x at_ 0 :: l) := h1
  have hdl : (b.drop at_).length = b.length - at_ := by simp
  refine rFixedD_ok h1 hx ha (by omega) fun w3 h2 => tyI (k := .int .u32) ?_
  rcases takeX_cases b at_ with ⟨c1, e1⟩ | ⟨c1, e1⟩
  · -- too short for the first number
    have hf : (fdec (b.drop at_)).2.2 = 6 := by
      have e2 : takeX ((b.drop at_).take 8) 0 0 = (0, 0, 6) := by
        rcases takeX_cases ((b.drop at_).take 8) 0 with ⟨_, e⟩ | ⟨c, _⟩
        · exact e
        · rw [List.length_take] at c; omega
      unfold fdec
      simp only [e2]
      rw [if_pos]
      unfold takeX
      rw [if_pos (by decide)]; decide
    rw [e1] at h2
    refine rFixedD_ok h2 hx ha (by omega) fun w6 h3 => tyI (k := .int .u32) ?_
    have e3 : takeX b at_ 6 = (0, at_, 6) := by unfold takeX; rw [if_pos (by decide)]
    rw [e3] at h3
    refine ldB h3 (i := 2) (x := (6 : Int)) ?_
    refine ifB_bne (fun _ => ?_) fun c => absurd c (by decide)
    have := hK ⟨none, 0, 0⟩ 0 w6 h3.tail
    rw [hf] at this; exact this
  · rw [e1] at h2
    have e2 : takeX ((b.drop at_).take 8) 0 0 = (fixedN (b.drop at_), 4, 0) := by
      rcases takeX_cases ((b.drop at_).take 8) 0 with ⟨c, _⟩ | ⟨c, e⟩
      · rw [List.length_take] at c; omega
      · rw [e, List.drop_zero, fixedN_take (by omega) (by omega)]
    refine rFixedD_ok h2 hx (by show at_ + 4 ≤ _; omega) (by omega) fun w6 h3 => tyI (k := .int .u32) ?_
    rcases takeX_cases b (at_ + 4) with ⟨c2, e3⟩ | ⟨c2, e3⟩
    · have hf : (fdec (b.drop at_)).2.2 = 6 := by
        have e4 : takeX ((b.drop at_).take 8) 4 0 = (0, 4, 6) := by
          rcases takeX_cases ((b.drop at_).take 8) 4 with ⟨_, e⟩ | ⟨c, _⟩
          · exact e
          · rw [List.length_take] at c; omega
        unfold fdec
        simp only [e2, e4]
        rw [if_pos (by decide)]
      simp only [e1, e3] at h3
      refine ldB h3 (i := 2) (x := (6 : Int)) ?_
      refine ifB_bne (fun _ => ?_) fun c => absurd c (by decide)
      have := hK ⟨none, 0, 0⟩ 0 w6 h3.tail
      rw [hf] at this; exact this
    · have e4 : takeX ((b.drop at_).take 8) 4 0 = (fixedN (b.drop (at_ + 4)), 8, 0) := by
        rcases takeX_cases ((b.drop at_).take 8) 4 with ⟨c, _⟩ | ⟨c, e⟩
        · rw [List.length_take] at c; omega
        · rw [e, List.drop_take, List.drop_drop]
          have : fixedN (List.take 4 (b.drop (at_ + 4))) = fixedN (b.drop (at_ + 4)) := fixedN_take (by simp; omega) (Nat.le_refl _)
          rw [this]
      have hN := fixedN_lt (b.drop at_)
      have hM := fixedN_lt (b.drop (at_ + 4))
      have hfd : fdec (b.drop at_) = if fixedN (b.drop at_) > 4096 then ([], 0, 2) else if ((b.drop at_).length : Int) - 8 < fixedN (b.drop at_) then ([], 0, 6) else
          if (crc (((b.drop at_).drop 8).take (fixedN (b.drop at_)))).toNat ≠ fixedN (b.drop (at_ + 4)) then ([], 0, 8) else (((b.drop at_).drop 8).take (fixedN (b.drop at_)), (8 : Int) + (fixedN (b.drop at_) : Nat), 0) := by
        unfold fdec
        simp only [e2, e4]
        rw [if_neg (by decide)]
      simp only [e1, e3] at h3 ⊢
      have h3 : Sat W w6 (RfR a0 x (at_ + 4 + 4) 0 :: l) := h3
      generalize fixedN (b.drop at_) = n at *
      generalize fixedN (b.drop (at_ + 4)) = m at *
      refine ldB h3 (i := 2) (x := (0 : Int)) ?_
      refine ifB_bne (fun c => absurd rfl c) fun _ => ?_
      refine ifB_dec (fun c3 => ?_) fun c3 => ?_
      · rw [if_pos (by omega)] at hfd
        have := hK ⟨none, 0, 0⟩ 0 w6 h3.tail
        rw [hfd] at this; exact this
      · rw [if_neg (by omega)] at hfd
        have h4 := h3.drew
        have ew : IntKind.i64.wrap (n : Int) = n := w_i64 (by omega) (by omega)
        refine ldB h3 (i := 1) (x := ((at_ + 4 + 4 : Nat) : Int)) ?_
        rw [ew, w_i64 (n := ((at_ + 4 + 4 : Nat) : Int) + n) (by omega) (by omega)]
        refine ifB_dec (fun c4 => ?_) fun c4 => ?_
        · rw [if_pos (by omega)] at hfd
          have := hK ⟨none, 0, 0⟩ 0 w6 h3.tail
          rw [hfd] at this; exact this
        · rw [if_neg (by omega)] at hfd
          refine ldB h4 (i := 1) (x := ((at_ + 4 + 4 : Nat) : Int)) ?_
          refine ldB h4 (i := 1) (x := ((at_ + 4 + 4 : Nat) : Int)) ?_
          rw [w_i64 (n := ((at_ + 4 + 4 : Nat) : Int) + n) (by omega) (by omega)]
          have hcap := (hx w h).2.1
          refine ⟨subSl x 1 (at_ + 8) (at_ + 8 + n), ?_, ?_⟩
          · have := run_slice et_bytes (s := x) (lo := ((at_ + 4 + 4 : Nat) : Int)) (hi := ((at_ + 4 + 4 : Nat) : Int) + n) (by omega) (by omega) (by omega) w6.drew (j := .i64) (k := .i64)
            rw [this]
            have t1 : (((at_ + 4 + 4 : Nat) : Int)).toNat = at_ + 8 := by omega
            have t2 : (((at_ + 4 + 4 : Nat) : Int) + n).toNat = at_ + 8 + n := by omega
            rw [t1, t2]; rfl
          · have hsub := Rd.sub hx (lo := at_ + 8) (hi := at_ + 8 + n) (by omega) (by omega)
            have e6 : ((b.map vB).drop ((at_ + 8) * 1)).take ((at_ + 8 + n - (at_ + 8)) * 1) = (((b.drop at_).drop 8).take n).map vB := by
              rw [List.drop_drop, ← List.map_drop, ← List.map_take, Nat.mul_one, Nat.mul_one]
              congr 2
              omega
            rw [e6] at hsub
            have hlt : (((b.drop at_).drop 8).take n).length < 4611686018427387904 := by simp; omega
            generalize ((b.drop at_).drop 8).take n = q at *
            refine rmore_ok h4 hsub.cons hlt fun w14 h5 => tyI (k := .int .u32) ?_
            refine ifB_bne (fun c5 => ?_) fun c5 => ?_
            · rw [if_pos (by omega)] at hfd
              have := hK ⟨none, 0, 0⟩ 0 w14 h5.tail
              rw [hfd] at this; exact this
            · rw [if_neg (by omega)] at hfd
              refine ldB h5.drew (i := 1) (x := ((at_ + 4 + 4 : Nat) : Int)) ?_
              have := hK (subSl x 1 (at_ + 8) (at_ + 8 + n)) (IntKind.i64.wrap (((at_ + 4 + 4 : Nat) : Int) + n)) w14.drew h5.drew.tail
              rw [hfd] at this; exact this
end
end Go.Proofs.YtbpcichakchpkaaGreatDoor
