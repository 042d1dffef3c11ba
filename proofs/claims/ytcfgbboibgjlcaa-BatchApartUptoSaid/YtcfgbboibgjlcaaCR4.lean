/- Layer 3: the reference's reader of bytes and of numbers; sameness. -/
import Derived.Test.YtcfgbboibgjlcaaCR3
namespace Go.Proofs.Ytcfgbboibgjlcaa
open Go Go.Pk
section
variable {W w : World} {l : List Res} {K : Value → World → Prop} {b p : Nat} {t : List UInt8} {e : Int} {s : Sl}
theorem rBytesD_ok (h : Sat W w (RfR b s p e :: l)) (hr : Rd W l s 1 (t.map vB)) (hp : p ≤ t.length) (ht : t.length ≤ 140737488355328)
    (hK : ∀ s' w', Sat W w' (BsR s' (takeB t p e).1 :: RfR b s (takeB t p e).2.1 (takeB t p e).2.2 :: l) → K s'.v w') :
    CallP P F_ref03_Reader_Bytes [.pointer (some ⟨b, 0, none⟩)] w K := by
  apply c_ref03_Reader_Bytes
  unfold S_ref03_Reader_Bytes
  refine rUintD_ok h hr hp ht fun w1 h1 => tyI ?_
  have hb := takeU_bound (e := e) hp
  simp only [nilCk]
  generalize hu : takeU t p e = u at *
  obtain ⟨n, q, e1⟩ := u
  simp only at h1 hb ⊢
  have hnil : ∀ w' q' e', takeB t p e = ([], q', e') → Sat W w' (RfR b s q' e' :: l) → K (.slice none 0 0) w' := by
    intro w' q' e' hx h'
    have := hK ⟨none, 0, 0⟩ w'
    rw [hx] at this
    exact this (h'.nilSlr T_uint8 1)
  refine ldB h1 (i := 2) (x := e1) ?_
  refine ifB_bne (fun he => hnil w1 q e1 (by simp only [takeB, hu]; rw [if_pos he]) h1) fun he => ?_
  subst he
  refine ifB_dec (fun hc => ?_) fun hc => ?_
  · exact rfail_ok h1 fun w2 h3 => tupU rfl (hnil w2 q 2 (by simp only [takeB, hu]; rw [if_neg (by simp), if_pos (by omega)]) h3)
  · have hsl := (hr _ h1.tail).1
    simp at hsl
    refine ldB h1.drew (i := 1) (x := (q : Int)) ?_
    refine ldB h1.drew (i := 0) (x := s) ?_
    rw [w_i64 (n := (n : Int)) (by omega) (by omega), w_i64 (by omega) (by omega)]
    refine ifB_dec (fun hc2 => ?_) fun hc2 => ?_
    · exact rfail_ok h1.drew fun w2 h3 => tupU rfl (hnil w2 q 6 (by simp only [takeB, hu]; rw [if_neg (by simp), if_neg (by omega), if_pos (by omega)]) h3)
    · have hx : takeB t p e = ((t.drop q).take n, q + n, 0) := by
        simp only [takeB, hu]; rw [if_neg (by simp), if_neg (by omega), if_neg (by omega)]
      refine ⟨fun x w' => ∃ i : Nat, x.2.1 = i ∧ i ≤ n ∧ Sat W w' (BsR x.1 ((t.drop q).take i) :: RfR b s q 0 :: l), fun x _ => n - x.2.1.toNat,
        ⟨0, rfl, by omega, h1.drew.nilSlr T_uint8 1⟩, ?_⟩
      rintro ⟨s1, i', u⟩ w2 ⟨i, hi, hin, h2⟩
      simp only at hi h2 ⊢
      subst hi
      refine ifB_dec (fun hlt => ?_) fun hge => ?_
      · have hrd : ∀ w, Sat W w (RfR b s q 0 :: l) → ∃ l', Sat W w (RfR b s q 0 :: l') := fun w h => ⟨_, h⟩
        refine ⟨fun w => Sat W w (RfR b s q 0 :: l), h2.drew.tail, ?_⟩
        refine hldB hrd (i := 0) (x := s) ?_
        refine hldB hrd (i := 1) (x := (q : Int)) ?_
        rw [w_i64 (n := (q : Int) + i) (by omega) (by omega)]
        obtain ⟨a, ha⟩ := some_of_lt (hr _ h2.tail.tail) (n := q + i) (by omega)
        refine ⟨_, fun w _ => run_ix et_bytes ha (by omega) (by omega) w, ?_⟩
        have hqi : q + i < t.length := by omega
        refine hld (x := ((t[q + i]'hqi).toNat : Int)) (fun w hw => ?_) ?_
        · have e1 : ((q : Int) + i).toNat = q + i := by omega
          rw [e1]
          have := (hr w hw.tail).2.2.2 a ha (q + i) _ (getElem?_vB hqi)
          simpa using this
        · refine bsB h2.drew (cs := [vB (t[q + i]'hqi)]) (e := T_uint8) (fun w => run_bs1 et_bytes rfl w) fun g w3 h3 => ⟨h3.tail.tail, ?_⟩
          have hsl1 := Sat.bsLen h3.swap
          simp at hsl1
          refine appB et_bytes (by decide) (s := s1) (x := ⟨some ⟨g, 0, none⟩, 1, 1⟩) h3.swap (rdBlk h3 rfl) (by simp [vB, Value.oneCell']) (by simp; omega) (by simp; omega) fun s' w4 h4 hl => ⟨h4.drop2.tail, ?_⟩
          rw [w_i64 (by omega) (by omega)]
          refine ⟨⟨i + 1, rfl, by omega, ?_⟩, by omega⟩
          have : (t.drop q).take (i + 1) = (t.drop q).take i ++ [t[q + i]'hqi] := by
            rw [List.take_add_one, List.getElem?_drop, List.getElem?_eq_getElem hqi]; rfl
          rw [this, BsR, List.map_append]
          exact h4.drop2
      · have : i = n := by omega
        subst this
        refine ldB h2.swap (i := 1) (x := (q : Int)) ?_
        refine stB h2.swap (i := 1) fun w3 h3 => ?_
        rw [w_i64 (by omega) (by omega)] at h3
        have := hK s1 w3
        rw [hx] at this
        exact this h3.swap
theorem rIntsD_ok (h : Sat W w (RfR b s p e :: l)) (hr : Rd W l s 1 (t.map vB)) (hp : p ≤ t.length) (ht : t.length ≤ 140737488355328)
    (hK : ∀ s' w', Sat W w' (IsR s' (takeL t p e).1 :: RfR b s (takeL t p e).2.1 (takeL t p e).2.2 :: l) → K s'.v w') :
    CallP P F_ref03_Reader_Ints [.pointer (some ⟨b, 0, none⟩)] w K := by
  apply c_ref03_Reader_Ints
  unfold S_ref03_Reader_Ints
  refine rUintD_ok h hr hp ht fun w1 h1 => tyI ?_
  have hb := takeU_bound (e := e) hp
  simp only [nilCk]
  generalize hu : takeU t p e = u at *
  obtain ⟨n, q, e1⟩ := u
  simp only at h1 hb ⊢
  have hnil : ∀ w' q' e', takeL t p e = ([], q', e') → Sat W w' (RfR b s q' e' :: l) → K (.slice none 0 0) w' := by
    intro w' q' e' hx h'
    have := hK ⟨none, 0, 0⟩ w'
    rw [hx] at this
    exact this (h'.nilSlr T_int 1)
  refine ⟨fun _ w' => ∃ e2, (e2 ≠ 0 → takeL t p e = ([], q, e2)) ∧ (e2 = 0 → n ≤ 4096 ∧ takeL t p e = takeN t n q []) ∧ Sat W w' (RfR b s q e2 :: l), ?_, ?_⟩
  · rintro _ w2 ⟨e2, hx1, hx0, h2⟩
    refine ldB h2 (i := 2) (x := e2) ?_
    refine ifB_bne (fun he => hnil w2 q e2 (hx1 he) h2) fun he => ?_
    subst he
    obtain ⟨hn, hx⟩ := hx0 rfl
    refine ⟨fun x w' => ∃ (i : Nat) (acc : List Int) (r : Nat) (e' : Int), x.2.1 = i ∧ i ≤ n ∧ acc.length = i ∧ r ≤ t.length ∧ (e' ≠ 0 → takeL t p e = ([], r, e')) ∧ (e' = 0 → takeL t p e = takeN t (n - i) r acc) ∧ Sat W w' (IsR x.1 acc :: RfR b s r e' :: l), fun x _ => n - x.2.1.toNat,
      ⟨0, [], q, 0, rfl, by omega, rfl, by omega, fun h => absurd rfl h, fun _ => hx, h2.nilSlr T_int 1⟩, ?_⟩
    rintro ⟨s1, i', u⟩ w3 ⟨i, acc, r, e', hi, hin, hal, hrl, hy1, hy0, h3⟩
    simp only at hi h3 ⊢
    subst hi
    refine ⟨fun _ w' => i < n ∧ e' = 0 ∧ Sat W w' (IsR s1 acc :: RfR b s r 0 :: l), ?_, ?_⟩
    · rintro _ w4 ⟨hlt, he, h4⟩
      subst he
      have hy := hy0 rfl
      refine rIntD_ok h4.swap (Rd.cons hr) hrl ht fun w5 h5 => tyI ?_
      have hbi := takeU_bound (e := 0) hrl
      have hni : n - i = (n - (i + 1)) + 1 := by omega
      generalize hv : takeI t r 0 = v at *
      obtain ⟨x, r', e'⟩ := v
      have hr' : r' ≤ t.length := by
        have : r' = (takeU t r 0).2.1 := by
          have := congrArg (fun z => z.2.1) hv; simpa [takeI] using this.symm
        omega
      simp only at h5 ⊢
      have hsl := Sat.isLen h5.swap
      refine app1 et_ints h5.swap rfl (by omega) (by omega) fun s4 w6 h6 _ => ?_
      rw [w_i64 (by omega) (by omega)]
      refine ⟨⟨i + 1, acc ++ [x], r', e', rfl, by omega, by simp [hal], hr', ?_, ?_, ?_⟩, by omega⟩
      · intro he; rw [hy, hni, takeN, hv]; simp [he]
      · intro he; rw [hy, hni, takeN, hv]; simp [he]
      · rw [IsR, List.map_append]; exact h6
    · rw [w_i64 (n := (n : Int)) (by omega) (by omega)]
      have done : ∀ (hz : ¬ (i < n ∧ e' = 0)), RunQ (.int .i64) P (Instr.loadAt 3 (.pointer (some ((⟨b, 0, none⟩ : Addr).add 2)))) w3 fun n24 => ifB (n24 != 0) (K (.slice none 0 0) w3) (K s1.v w3) := by
        intro hz
        refine ldB h3.swap (i := 2) (x := e') ?_
        refine ifB_bne (fun he => hnil w3 r e' (hy1 he) h3.tail) fun he => ?_
        have := hK s1 w3
        have hin' : n - i = 0 := by omega
        rw [hy0 he, hin', takeN] at this
        exact this (he ▸ h3)
      refine ifB_dec (fun hlt => ?_) fun hge => done (by omega)
      refine ldB h3.swap (i := 2) (x := e') ?_
      refine ifB_beq (fun he => ?_) fun he => done (fun hh => he hh.2)
      subst he
      exact ⟨by omega, rfl, h3⟩
  · refine ldB h1 (i := 2) (x := e1) ?_
    refine ifB_beq (fun he => ?_) fun he => ?_
    · subst he
      refine ifB_dec (fun hc => ?_) fun hc => ?_
      · exact rfail_ok h1 fun w2 h3 => tupU rfl ⟨2, fun _ => by simp only [takeL, hu]; rw [if_neg (by simp), if_pos (by omega)], fun h => absurd h (by decide), h3⟩
      · exact ⟨0, fun h => absurd rfl h, fun _ => ⟨by omega, by simp only [takeL, hu]; rw [if_neg (by simp), if_neg (by omega)]⟩, h1⟩
    · exact ⟨e1, fun _ => by simp only [takeL, hu]; rw [if_pos he], fun h => absurd h he, h1⟩

/-! ### sameness -/
theorem same_ok {x y : Sl} {xs ys : List UInt8} (h : Sat W w l) (hx : Rd W l x 1 (xs.map vB)) (hy : Rd W l y 1 (ys.map vB)) (hm : xs.length < 9223372036854775808)
    (hK : ∀ w', Sat W w' l → K (.bool (decide (xs = ys))) w') : CallP P F_ref03_Same [x.v, y.v] w K := by
  apply c_ref03_Same
  unfold S_ref03_Same
  have hxl := (hx w h).1
  have hyl := (hy w h).1
  simp at hxl hyl
  refine ifB_bne (fun hc => ?_) fun hc => ?_
  · have := hK w h
    rw [decide_eq_false (by rintro rfl; omega)] at this
    exact this
  · refine ⟨fun z w' => ∃ i : Nat, z.1 = i ∧ i ≤ xs.length ∧ xs.take i = ys.take i ∧ Sat W w' l, fun z _ => xs.length - z.1.toNat, ⟨0, rfl, by omega, by simp, h⟩, ?_⟩
    rintro ⟨i', u⟩ w1 ⟨i, hi, hil, heq, h1⟩
    simp only at hi ⊢
    subst hi
    refine ifB_dec (fun hlt => ?_) fun hge => ?_
    · have hi1 : i < xs.length := by omega
      have hi2 : i < ys.length := by omega
      refine ixld et_bytes (hx _ h1.drew) (by omega) (k := .int .u8) (x := (xs[i].toNat : Int)) (by exact getElem?_vB hi1) ?_
      refine ixld et_bytes (hy _ h1.drew) (by omega) (k := .int .u8) (x := (ys[i].toNat : Int)) (by exact getElem?_vB hi2) ?_
      refine ifB_bne (fun hne => ?_) fun he => ?_
      · have := hK _ h1.drew
        rw [decide_eq_false (by rintro rfl; exact hne rfl)] at this
        exact this
      · rw [w_i64 (by omega) (by omega)]
        refine ⟨⟨i + 1, rfl, by omega, ?_, h1.drew⟩, by omega⟩
        have : xs[i] = ys[i] := UInt8.toNat_inj.1 (by omega)
        rw [List.take_add_one, List.take_add_one, heq, List.getElem?_eq_getElem hi1, List.getElem?_eq_getElem hi2, this]
    · have := hK _ h1
      have hi : xs.length ≤ i := by omega
      rw [List.take_of_length_le hi, List.take_of_length_le (by omega)] at heq
      rw [decide_eq_true heq] at this
      exact this
theorem getElem?_vI {t : List Int} {i : Nat} (h : i < t.length) : (t.map vI)[i]? = some (Kd.v (.int .i64) (t[i])) := by simp [vI, h]
theorem sameInts_ok {x y : Sl} {xs ys : List Int} (h : Sat W w l) (hx : Rd W l x 1 (xs.map vI)) (hy : Rd W l y 1 (ys.map vI)) (hm : xs.length < 9223372036854775808)
    (hK : ∀ w', Sat W w' l → K (.bool (decide (xs = ys))) w') : CallP P F_ref03_SameInts [x.v, y.v] w K := by
  apply c_ref03_SameInts
  unfold S_ref03_SameInts
  have hxl := (hx w h).1
  have hyl := (hy w h).1
  simp at hxl hyl
  refine ifB_bne (fun hc => ?_) fun hc => ?_
  · have := hK w h
    rw [decide_eq_false (by rintro rfl; omega)] at this
    exact this
  · refine ⟨fun z w' => ∃ i : Nat, z.1 = i ∧ i ≤ xs.length ∧ xs.take i = ys.take i ∧ Sat W w' l, fun z _ => xs.length - z.1.toNat, ⟨0, rfl, by omega, by simp, h⟩, ?_⟩
    rintro ⟨i', u⟩ w1 ⟨i, hi, hil, heq, h1⟩
    simp only at hi ⊢
    subst hi
    refine ifB_dec (fun hlt => ?_) fun hge => ?_
    · have hi1 : i < xs.length := by omega
      have hi2 : i < ys.length := by omega
      refine ixld et_ints (hx _ h1.drew) (by omega) (k := .int .i64) (x := xs[i]) (by exact getElem?_vI hi1) ?_
      refine ixld et_ints (hy _ h1.drew) (by omega) (k := .int .i64) (x := ys[i]) (by exact getElem?_vI hi2) ?_
      refine ifB_bne (fun hne => ?_) fun he => ?_
      · have := hK _ h1.drew
        rw [decide_eq_false (by rintro rfl; exact hne rfl)] at this
        exact this
      · rw [w_i64 (by omega) (by omega)]
        refine ⟨⟨i + 1, rfl, by omega, ?_, h1.drew⟩, by omega⟩
        rw [List.take_add_one, List.take_add_one, heq, List.getElem?_eq_getElem hi1, List.getElem?_eq_getElem hi2, he]
    · have := hK _ h1
      have hi : xs.length ≤ i := by omega
      rw [List.take_of_length_le hi, List.take_of_length_le (by omega)] at heq
      rw [decide_eq_true heq] at this
      exact this
end
end Go.Proofs.Ytcfgbboibgjlcaa
