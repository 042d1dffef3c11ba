/- Layer 7: the reference's check; sizes; copies. -/
import Derived.Test.YtcfgbboibgjlcaaBA
namespace Go.Proofs.Ytcfgbboibgjlcaa
open Go Go.Pk
section
variable {W w : World} {l : List Res} {K : Value → World → Prop} {d : Dc}
theorem size_ok (h : Sat W w l) (hv : VRd W l d) (hK : ∀ w', Sat W w' l → K (.int .i64 (if d.ct then 1 else (d.bs.length : Int))) w') : CallP P F_batch_Size [.agg d.cells.toArray] w K := by
  apply c_batch_Size
  unfold S_batch_Size
  refine boxB h fun b w1 h1 => ?_
  have hA : Sat W w1 (Blk b d.cells 66 :: l) := h1
  have hl := hv.len h
  have := hK w1 hA.tail
  refine ldB hA (o := 0) ?_
  cases hct : d.ct <;> rw [hct] at this
  · refine ldB hA (o := 0) ?_
    rw [← hl.1] at this
    exact this
  · exact this
theorem rsize_ok (h : Sat W w l) (hv : VRd W l d) (hK : ∀ w', Sat W w' l → K (.int .i64 (if d.ct then 1 else (d.bs.length : Int))) w') : CallP P F_ref07_Size [.agg d.cells.toArray] w K := by
  apply c_ref07_Size
  unfold S_ref07_Size
  refine boxB h fun b w1 h1 => ?_
  have hA : Sat W w1 (Blk b d.cells 66 :: l) := h1
  have hl := hv.len h
  have := hK w1 hA.tail
  refine ldB hA (o := 0) ?_
  cases hct : d.ct <;> rw [hct] at this
  · refine ldB hA (o := 0) ?_
    rw [← hl.1] at this
    exact this
  · exact this
set_option maxHeartbeats 2000000 in
theorem rcheck_ok (h : Sat W w l) (hv : VRd W l d) (hK : ∀ w', Sat W w' l → K (.int .i64 (chk d)) w') : CallP P F_ref07_DocCheck [.agg d.cells.toArray] w K := by
  apply c_ref07_DocCheck
  unfold S_ref07_DocCheck
  refine boxB h fun b w1 h1 => ?_
  have hA : Sat W w1 (Blk b d.cells 66 :: l) := h1
  have hl := hv.len h
  have hl1 := hl.1
  refine ldB hA (o := 0) ?_
  refine ldB hA (o := 0) ?_
  refine ldB hA (o := 0) ?_
  refine ldB hA (o := 0) ?_
  have r1 : bad1 d → ∀ w, Sat W w (Blk b d.cells 66 :: l) → K (.int .i64 1) w := fun hb w h => by have := hK w h.tail; rwa [chk_eq1 hb] at this
  have r7 : ¬ bad1 d → bad7 d → ∀ w, Sat W w (Blk b d.cells 66 :: l) → K (.int .i64 7) w := fun hb h7 w h => by have := hK w h.tail; rwa [chk_eq7 hb h7] at this
  have r2 : ¬ bad1 d → ¬ bad7 d → bad2 d → ∀ w, Sat W w (Blk b d.cells 66 :: l) → K (.int .i64 2) w := fun hb h7 h2 w h => by have := hK w h.tail; rwa [chk_eq2 hb h7 h2] at this
  have r0 : ¬ bad1 d → ¬ bad7 d → ¬ bad2 d → ∀ w, Sat W w (Blk b d.cells 66 :: l) → K (.int .i64 0) w := fun hb h7 h2 w h => by have := hK w h.tail; rwa [chk_eq0 hb h7 h2] at this
  clear hK
  refine bsB hA (cs := [d.ba, d.ep, d.pe, d.sq].map vI) (e := T_int) (fun w => by kernel_rfl) fun g w2 h2 => ?_
  refine ⟨fun z w' => ∃ i : Nat, z.1 = i ∧ i ≤ 4 ∧ (∀ j, j < i → ∀ n, [d.ba, d.ep, d.pe, d.sq][j]? = some n → 0 ≤ n) ∧ Sat W w' (Blk g ([d.ba, d.ep, d.pe, d.sq].map vI) T_int :: Blk b d.cells 66 :: l), fun z _ => 4 - z.1.toNat, ⟨0, rfl, by omega, by omega, h2⟩, ?_⟩
  rintro ⟨i', u⟩ w3 ⟨i, hi, hil, hall, h3⟩
  simp only at hi ⊢
  subst hi
  refine ifB_dec (fun hlt => ?_) fun hge => ?_
  · have hi1 : i < [d.ba, d.ep, d.pe, d.sq].length := by simp; omega
    refine ixld et_ints (rdBlk h3 (n := 4) (sz := 1) rfl) (by omega) (k := .int .i64) (x := [d.ba, d.ep, d.pe, d.sq][i]) (by exact getElem?_vI hi1) ?_
    refine ifB_dec (fun hneg => ?_) fun hpos => ?_
    · refine r1 ?_ _ h3.tail
      unfold bad1
      have : i = 0 ∨ i = 1 ∨ i = 2 ∨ i = 3 := by omega
      rcases this with rfl | rfl | rfl | rfl <;> simp at hneg <;> omega
    · rw [w_i64 (by omega) (by omega)]
      refine ⟨⟨i + 1, rfl, by omega, ?_, h3⟩, by omega⟩
      intro j hj n hn
      rcases Nat.lt_or_ge j i with h | h
      · exact hall j h n hn
      · have : j = i := by omega
        subst this
        rw [List.getElem?_eq_getElem hi1] at hn
        cases hn; omega
  · have p0 := hall 0 (by omega) _ rfl
    have p1 := hall 1 (by omega) _ rfl
    have p2 := hall 2 (by omega) _ rfl
    have p3 := hall 3 (by omega) _ rfl
    have hB := h3.tail
    refine ⟨fun _ w' => ¬ bad1 d ∧ Sat W w' (Blk b d.cells 66 :: l), ?_, ?_⟩
    · rintro _ w4 ⟨n1, h4⟩
      refine ⟨fun _ w' => ¬ (match d.ct with | true => d.bs.length > 0 ∨ d.tx = false ∨ d.pid = 0 ∨ d.sq ≠ 0 | false => d.bs.length = 0 ∨ d.cm = true) ∧ Sat W w' (Blk b d.cells 66 :: l), ?_, ?_⟩
      · rintro _ w5 ⟨n7a, h5⟩
        refine ⟨fun _ w' => ¬ bad7 d ∧ Sat W w' (Blk b d.cells 66 :: l), ?_, ?_⟩
        · rintro _ w6 ⟨n7, h6⟩
          refine ldB h6 (o := 0) ?_
          refine ifB_dec (fun hc => r2 n1 n7 (.inl (by omega)) _ h6) fun hc => ?_
          refine ⟨fun z w' => ∃ i : Nat, z.1 = i ∧ i ≤ d.bs.length ∧ (∀ b ∈ d.bs.take i, b.length ≤ 64) ∧ Sat W w' (Blk b d.cells 66 :: l), fun z _ => d.bs.length - z.1.toNat, ⟨0, rfl, by omega, by simp, h6⟩, ?_⟩
          rintro ⟨i', u⟩ w7 ⟨i, hi, hil, hall, h7⟩
          simp only at hi ⊢
          subst hi
          refine ldB h7 (o := 0) ?_
          refine ifB_dec (fun hlt => ?_) fun hge => ?_
          · have hi1 : i < d.bs.length := by omega
            refine ldB h7 (o := 0) ?_
            refine (hv.cons (R := Blk b d.cells 66)).ld h7 hi1 fun s hs hsl _ => ?_
            refine ifB_dec (fun hc => r2 n1 n7 (.inr ⟨_, List.getElem_mem hi1, by omega⟩) _ h7) fun hc => ?_
            rw [w_i64 (by omega) (by omega)]
            refine ⟨⟨i + 1, rfl, by omega, ?_, h7⟩, by omega⟩
            intro b hb
            rw [List.take_add_one, List.getElem?_eq_getElem hi1] at hb
            rcases List.mem_append.1 hb with hb | hb
            · exact hall b hb
            · simp at hb; subst hb; omega
          · rw [List.take_of_length_le (by omega)] at hall
            exact r0 n1 n7 (by rintro (h | ⟨b, hb, h⟩); omega; have := hall b hb; omega) _ h7
        · clear r0 r2
          simp only [bad7] at r7 ⊢
          have h7p : d.pid = 0 → (d.tx = true ∨ d.pe > 0 ∨ d.sq > 0) → K (.int .i64 7) w5 := fun a b => r7 n1 (.inr ⟨a, b⟩) _ h5
          clear r7
          refine ldB h5 (o := 0) ?_
          refine ifB_beq (fun hp => ?_) fun hp => ⟨fun hh => hh.elim n7a fun hh => hp hh.1, h5⟩
          refine ldB h5 (o := 0) ?_
          refine ifB_intro (fun ht => h7p hp (.inl ht)) fun ht => ?_
          refine ldB h5 (o := 0) ?_
          refine ifB_dec (fun hc => h7p hp (.inr (.inl hc))) fun hc1 => ?_
          refine ldB h5 (o := 0) ?_
          refine ifB_dec (fun hc => h7p hp (.inr (.inr hc))) fun hc2 => ?_
          refine ⟨fun hh => hh.elim n7a fun hh => ?_, h5⟩
          rcases hh.2 with h | h | h
          · change d.tx = false at ht; rw [h] at ht; cases ht
          · exact hc1 h
          · exact hc2 h
      · clear r0 r2
        simp only [bad7] at r7 ⊢
        have h7p : (match d.ct with | true => d.bs.length > 0 ∨ d.tx = false ∨ d.pid = 0 ∨ d.sq ≠ 0 | false => d.bs.length = 0 ∨ d.cm = true) → K (.int .i64 7) w4 := fun a => r7 n1 (.inl a) _ h4
        clear r7
        refine ldB h4 (o := 0) ?_
        cases hct : d.ct <;> simp only [hct] at h7p ⊢
        · simp only [ifB_false]
          refine ldB h4 (o := 0) ?_
          refine ifB_beq (fun hp => h7p (.inl (by omega))) fun hp => ?_
          refine ldB h4 (o := 0) ?_
          refine ifB_intro (fun ht => h7p (.inr ht)) fun ht => ⟨?_, h4⟩
          rintro (h | h)
          · omega
          · change d.cm = false at ht; rw [h] at ht; cases ht
        · simp only [ifB_true]
          refine ldB h4 (o := 0) ?_
          refine ifB_dec (fun hp => h7p (.inl (by omega))) fun hp0 => ?_
          refine ldB h4 (o := 0) ?_
          refine ifB_not ?_
          refine ifB_intro (fun ht => ?_) fun ht => h7p (.inr (.inl ht))
          refine ldB h4 (o := 0) ?_
          refine ifB_beq (fun hp => h7p (.inr (.inr (.inl hp)))) fun hp1 => ?_
          refine ldB h4 (o := 0) ?_
          refine ifB_bne (fun hp => h7p (.inr (.inr (.inr hp)))) fun hp2 => ⟨?_, h4⟩
          rintro (h | h | h | h)
          · omega
          · change d.tx = true at ht; rw [h] at ht; cases ht
          · exact hp1 h
          · exact h hp2
    · refine ldB hB (o := 0) ?_
      refine ifB_dec (fun hc => r1 (by unfold bad1; right; right; right; right; left; exact hc) _ hB) fun hc1 => ?_
      refine ldB hB (o := 0) ?_
      refine ifB_dec (fun hc => r1 (by unfold bad1; right; right; right; right; right; exact hc) _ hB) fun hc2 => ?_
      refine ⟨?_, hB⟩
      unfold bad1
      change ¬ d.pe > 1000 at hc1
      change ¬ d.pid > 1000 at hc2
      omega
end
end Go.Proofs.Ytcfgbboibgjlcaa
