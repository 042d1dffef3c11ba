/- Layer 19: Handle. -/
import Derived.Test.YtajhdjjmhfbhgaaKZ
namespace Go.Proofs.Ytajhdjjmhfbhgaa
open Go Go.Pk
theorem decides_more : ∀ (n : Nat) (c : Cl), (decides n c).waits = false → (decides n c).done = false → decides (n + 1) c = (decides n c).decide
  | 0, c, h1, h2 => by
    have h1 : c.waits = false := h1
    have h2 : c.done = false := h2
    show (if c.waits = true ∨ c.done = true then c else decides 0 c.decide) = c.decide
    rw [if_neg (by rw [h1, h2]; decide)]; rfl
  | n + 1, c, h1, h2 => by
    have e : decides (n + 1) c = if c.waits = true ∨ c.done = true then c else decides n c.decide := rfl
    by_cases hc : c.waits = true ∨ c.done = true
    · rw [e, if_pos hc] at h1 h2
      rcases hc with hc | hc
      · rw [hc] at h1; cases h1
      · rw [hc] at h2; cases h2
    · rw [e, if_neg hc] at h1 h2
      rw [e, if_neg hc]
      show (if c.waits = true ∨ c.done = true then c else decides (n + 1) c.decide) = _
      rw [if_neg hc]
      exact decides_more n c.decide h1 h2
theorem decides_stop {n : Nat} {c : Cl} (h : c.waits = true ∨ c.done = true) : decides n c = c := by
  cases n with
  | zero => rfl
  | succ n => exact if_pos h
section
variable {W w : World} {l : List Res} {K : Value → World → Prop} {b : Nat} {c : Cl} {p : ClP} {cs : List Value} {m : Rp}
/-- up to n times it decides, and then what is to be sent is taken -/
theorem handle_ok (h : Sat W w (ClM b c :: l)) (hm : RpC cs m) (hr : RpRd W l m) (q : Good c) (hw : c.waits = true → Waits c) (hn : m.bl.length ≤ 1000000000 ∧ vtot m.bl ≤ 1000000000 ∧ m.al.length ≤ 1000000000)
    (hg : c.waits = true → ∀ n, n < 8 → ∀ c1, c1 = decides n (if m.er = 0 then ({ c with waits := false } : Cl).answered m else ({ c with waits := false } : Cl).refused m.er) → c1.waits = false → c1.done = false → Good c1)
    (hNo : ∀ w', (c.handle m).out = none → Sat W w' (ClM b (c.handle m) :: l) → K (.slice none 0 0) w')
    (hK : ∀ (p : ClP) w', Sat W w' (SlR T_api_Msg 59 p.out (outL (c.handle m) p.vs) :: ClL b { c.handle m with out := none } { p with out := ⟨none, 0, 0⟩ } l) → K p.out.v w') : CallP P F_client_Client_Handle [.pointer (some ⟨b, 0, none⟩), .agg cs.toArray] w K := by
  apply c_client_Client_Handle
  unfold S_client_Client_Handle
  refine boxB h fun g w1 h1 => ?_
  have h1 : Sat W w1 (Blk g cs T_api_Msg :: ClM b c :: l) := h1
  obtain ⟨p, h2⟩ := sat_cl.1 h1.swap
  have ho := q.out
  refine ⟨fun _ w' => ¬ (c.waits = false ∨ m.kind ≠ 15 ∨ m.corr ≠ c.asked.corr ∨ m.inc ≠ c.inc) ∧ Sat W w' (ClL b c p (Blk g cs T_api_Msg :: l)), ?_, ?_⟩
  · rintro _ w2 ⟨n1, h3⟩
    have hwt : c.waits = true := by
      rcases Bool.eq_false_or_eq_true c.waits with h | h
      · exact h
      · exact absurd (.inl h) n1
    have eh : c.handle m = if m.er = 12 then { c with age := 5 } else if m.er = 16 ∨ m.er = 1 ∨ m.er = 5 ∨ m.er = 4 ∨ m.er = 9 ∨ m.er = 3 then { c with age := 4, busy := true }
      else decides 8 (if m.er = 0 then ({ c with waits := false } : Cl).answered m else ({ c with waits := false } : Cl).refused m.er) := if_neg n1
    refine ⟨fun _ w' => ¬ m.er = 12 ∧ ¬ (m.er = 16 ∨ m.er = 1 ∨ m.er = 5 ∨ m.er = 4 ∨ m.er = 9 ∨ m.er = 3) ∧ Sat W w' (ClL b c p (Blk g cs T_api_Msg :: l)), ?_, ?_⟩
    · rintro _ w3 ⟨n2, n3, h4⟩
      rw [if_neg n2, if_neg n3] at eh
      obtain ⟨p', h4⟩ : ∃ p', Sat W w3 (ClL b c p' (Blk g cs T_api_Msg :: l)) := ⟨p, h4⟩
      refine stX h4 72 fun w4 h5 => ?_
      have h5 : Sat W w4 (ClL b { c with waits := false } p' (Blk g cs T_api_Msg :: l)) := h5
      generalize hd0 : (if m.er = 0 then ({ c with waits := false } : Cl).answered m else ({ c with waits := false } : Cl).refused m.er) = d0 at eh hg
      have q' : Good { c with waits := false } := ⟨q.parts, q.nodes, q.targets, q.tg, q.opsN, q.ops, q.op, q.next, q.att, q.sure, q.mine, q.mlen, q.turn, q.dry, q.values, q.seen, q.added, q.out⟩
      have hw' : Waits { c with waits := false } := ⟨(hw hwt).part, (hw hwt).op, (hw hwt).vals⟩
      refine ⟨fun _ w' => Sat W w' (ClM b d0 :: Blk g cs T_api_Msg :: l), ?_, ?_⟩
      · rintro _ w5 h6
        have tk : ∀ {w' : World} {c' : Cl}, c' = c.handle m → Sat W w' (ClM b c' :: Blk g cs T_api_Msg :: l) → CallP P F_client_Client_take [.pointer (some ⟨b, 0, none⟩)] w' fun v w'' => TyP .sl v fun (s : Sl) => K s.v w'' := by
          rintro w' c' rfl h'
          obtain ⟨p3, h7⟩ := sat_cl.1 (h'.cut 1)
          exact take_ok h7 fun w6 h8 => tyI (k := .sl) (hK p3 w6 h8)
        refine ⟨fun z w' => ∃ n : Nat, z.1 = n ∧ n ≤ 8 ∧ decides (8 - n) (decides n d0) = c.handle m ∧ Sat W w' (ClM b (decides n d0) :: Blk g cs T_api_Msg :: l), fun z _ => 8 - z.1.toNat, ⟨0, rfl, by omega, by rw [eh]; rfl, h6⟩, ?_⟩
        rintro ⟨n', u⟩ w6 ⟨n, hn', hn8, hd, h7⟩
        simp only at hn' ⊢
        subst hn'
        obtain ⟨p3, h8⟩ := sat_cl.1 h7
        refine ifB_dec (fun hlt => ?_) fun hge => ?_
        · refine ldX h8 72 (k := .bool) (x := (decides n d0).waits) ?_
          refine ifB_intro (fun hwt2 => ?_) fun hwf => ?_
          · rw [decides_stop (.inl hwt2)] at hd
            exact tk hd h7
          refine ldX h8 9 (k := .bool) (x := (decides n d0).done) ?_
          refine ifB_intro (fun hdt => ?_) fun hdf => ?_
          · rw [decides_stop (.inr hdt)] at hd
            exact tk hd h7
          have gd := hg hwt n (by omega) _ rfl hwf hdf
          refine decide_ok h7 gd fun w7 h9 => tupU rfl ?_
          rw [w_i64 (by omega) (by omega)]
          have em := decides_more n d0 hwf hdf
          refine ⟨⟨n + 1, rfl, by omega, ?_, by rw [em]; exact h9⟩, by omega⟩
          rw [em, ← hd]
          have e8 : 8 - n = (8 - (n + 1)) + 1 := by omega
          rw [e8]
          show _ = (if (decides n d0).waits = true ∨ (decides n d0).done = true then _ else decides (8 - (n + 1)) (decides n d0).decide)
          rw [if_neg (by rw [hwf, hdf]; decide)]
        · have e8 : n = 8 := by omega
          subst e8
          exact tk hd h7
      · have hb : Sat W w4 (Blk g cs T_api_Msg :: _) := Sat.up (L := ClL b { c with waits := false } p' (Blk g cs T_api_Msg :: l)) h5 13
        have h6 : Sat W w4 (ClM b { c with waits := false } :: Blk g cs T_api_Msg :: l) := sat_cl.2 ⟨p', h5⟩
        refine ldX hb 4 (x := m.er) ?_ (hx := hm.er)
        refine ifB_beq (fun e => ?_) fun e => ?_
        · rw [if_pos e] at hd0
          refine ldAggB h6.swap (by rw [hm.len]; kernel_rfl) ?_
          refine answered_ok h6 hm hr.cons q' hw' hn fun w5 h7 => tupU rfl ?_
          rw [← hd0]; exact h7
        · rw [if_neg e] at hd0
          refine ldX hb 4 (x := m.er) ?_ (hx := hm.er)
          refine refused_ok h6 q' fun w5 h7 => tupU rfl ?_
          rw [← hd0]; exact h7
    · have hb : Sat W w2 (Blk g cs T_api_Msg :: _) := Sat.up (L := ClL b c p (Blk g cs T_api_Msg :: l)) h3 13
      have busy : m.er ≠ 12 → (m.er = 16 ∨ m.er = 1 ∨ m.er = 5 ∨ m.er = 4 ∨ m.er = 9 ∨ m.er = 3) → StoreP P T_int (.pointer (some ((⟨b, 0, none⟩ : Addr).add 73))) (.int .i64 4) w2 fun w21 => StoreP P T_bool (.pointer (some ((⟨b, 0, none⟩ : Addr).add 74))) (.bool true) w21 fun w23 => K (.slice none 0 0) w23 := fun a1 a2 => by
        rw [if_neg a1, if_pos a2] at eh
        refine stX h3 73 fun w4 h5 => ?_
        refine stX h5 74 fun w5 h6 => ?_
        have h6 : Sat W w5 (ClL b { c with age := 4, busy := true } p (Blk g cs T_api_Msg :: l)) := h6
        exact hNo _ (by rw [eh]; exact ho) (by rw [eh]; exact (sat_cl.2 ⟨p, h6⟩ : Sat W w5 (ClM b _ :: Blk g cs T_api_Msg :: l)).cut 1)
      refine ldX hb 4 (x := m.er) ?_ (hx := hm.er)
      refine ifB_beq (fun e => ?_) fun e12 => ?_
      · rw [if_pos e] at eh
        refine stX h3 73 fun w4 h5 => ?_
        have h6 : Sat W w4 (ClL b { c with age := 5 } p (Blk g cs T_api_Msg :: l)) := h5
        exact hNo _ (by rw [eh]; exact ho) (by rw [eh]; exact (sat_cl.2 ⟨p, h6⟩ : Sat W w4 (ClM b _ :: Blk g cs T_api_Msg :: l)).cut 1)
      refine ifB_beq (fun e => busy e12 (by omega)) fun e16 => ?_
      refine ifB_beq (fun e => busy e12 (by omega)) fun e1 => ?_
      refine ifB_beq (fun e => busy e12 (by omega)) fun e5 => ?_
      refine ifB_beq (fun e => busy e12 (by omega)) fun e4 => ?_
      refine ifB_beq (fun e => busy e12 (by omega)) fun e9 => ?_
      refine ifB_beq (fun e => busy e12 (by omega)) fun e3 => ?_
      exact ⟨e12, by omega, h3⟩
  · have h3 := h2.drew
    have no : (c.waits = false ∨ m.kind ≠ 15 ∨ m.corr ≠ c.asked.corr ∨ m.inc ≠ c.inc) → K (.slice none 0 0) w1.drew := fun hc => by
      have e : c.handle m = c := if_pos hc
      exact hNo _ (by rw [e]; exact ho) (by rw [e]; exact (sat_cl.2 ⟨p, h3⟩ : Sat W w1.drew (ClM b c :: Blk g cs T_api_Msg :: l)).cut 1)
    have hb : Sat W w1.drew (Blk g cs T_api_Msg :: _) := Sat.up (L := ClL b c p (Blk g cs T_api_Msg :: l)) h3 13
    simp only [Option.isNone_some, ifB_false]
    refine ldX h3 72 (k := .bool) (x := c.waits) ?_
    refine ifB_intro (fun hf => no (.inl (by simpa using hf))) fun hf => ?_
    have hwt : c.waits = true := by simpa using hf
    refine ldX hb 0 (x := m.kind) ?_ (hx := hm.kind)
    refine ifB_bne (fun n1 => no (.inr (.inl n1))) fun n1 => ?_
    refine ldX hb 3 (x := m.corr) ?_ (hx := hm.corr)
    refine ldX h3 16 (x := c.asked.corr) ?_
    refine ifB_bne (fun n2 => no (.inr (.inr (.inl n2)))) fun n2 => ?_
    refine ldX hb 48 (x := m.inc) ?_ (hx := hm.inc)
    refine ldX h3 10 (x := c.inc) ?_
    refine ifB_bne (fun n3 => no (.inr (.inr (.inr n3)))) fun n3 => ?_
    exact ⟨by rintro (h | h | h | h); rw [hwt] at h; cases h; exact h n1; exact h n2; exact h n3, h3⟩
end
end Go.Proofs.Ytajhdjjmhfbhgaa
