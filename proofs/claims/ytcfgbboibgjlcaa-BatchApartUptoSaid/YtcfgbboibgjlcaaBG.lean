/- Layer 7: the reference takes a batch. -/
import Derived.Test.YtcfgbboibgjlcaaBF
namespace Go.Proofs.Ytcfgbboibgjlcaa
open Go Go.Pk
theorem chk_dat {d1 d2 : Dc} (hd : d1.dat = d2.dat) : chk d1 = chk d2 := by
  obtain ⟨⟩ := d1; obtain ⟨⟩ := d2
  simp only [Dc.dat, Prod.mk.injEq] at hd
  obtain ⟨rfl, rfl, rfl, rfl, rfl, rfl, rfl, rfl, rfl⟩ := hd
  rfl
section
variable {W w : World} {l : List Res} {K : Value → World → Prop} {t : List UInt8} {b : Nat} {a : Nat}
def DecJ (W : World) (l : List Res) (t : List UInt8) (s : Sl) (b a a0 : Nat) (i : Nat) (w : World) : Prop :=
  ∃ vs ss, ss.length = i ∧ Sat W w (RfR b s (takeVs t i (st9 t).2.1 (st9 t).2.2).2.1 (takeVs t i (st9 t).2.1 (st9 t).2.2).2.2 :: VsR vs ss (takeVs t i (st9 t).2.1 (st9 t).2.2).1 :: Blk a (decV t vs ss).cells T_api_Batch :: Blk a0 zeroDc.cells T_api_Batch :: l)
theorem rdecode_ok {x : Sl} (h : Sat W w l) (hx : Rd W l x 1 (t.map vB)) (ht : t.length ≤ 140737488355328)
    (hK0 : decE t ≠ 0 → ∀ w', Sat W w' l → K (.tuple #[.agg zeroDc.cells.toArray, .int .i64 (decE t)]) w')
    (hK1 : decE t = 0 → ∀ vs ss w', ss.length = (decD t).bs.length → Sat W w' (VsR vs ss (decD t).bs :: l) → K (.tuple #[.agg (decV t vs ss).cells.toArray, .int .i64 0]) w') :
    CallP P F_ref07_DocDecode [x.v] w K := by
  apply c_ref07_DocDecode
  unfold S_ref07_DocDecode
  have hb := st_bounds t
  obtain ⟨b1, b2, b3, b4, b5, b6, b7, b8, b9, bV⟩ := hb
  have hn := dec_num t ht
  refine allocB h (z := .agg zeroDc.cells.toArray) (by kernel_rfl) fun a0 w1 h1 => ?_
  have hA : Sat W w1 (Blk a0 zeroDc.cells T_api_Batch :: l) := h1
  refine boxB hA fun b w2 h2 => ?_
  have h2' : Sat W w2 (RfR b x 0 0 :: Blk a0 zeroDc.cells T_api_Batch :: l) := h2
  refine allocB h2' (z := .agg zeroDc.cells.toArray) (by kernel_rfl) fun a w3 h3 => ?_
  have h3' : Sat W w3 (Blk a zeroDc.cells T_api_Batch :: RfR b x 0 0 :: Blk a0 zeroDc.cells T_api_Batch :: l) := h3
  have hr : Rd W (Blk a0 zeroDc.cells T_api_Batch :: l) x 1 (t.map vB) := hx.cons
  refine rIntD_ok h3'.swap hr.cons (Nat.zero_le _) ht fun w4 h4 => tyI ?_
  refine stB h4.swap (o := 0) (hi := (by show 0 < 9; decide)) fun w5 h5 => ?_
  refine rIntD_ok (p := (st1 t).2.1) (e := (st1 t).2.2) h5.swap hr.cons b1 ht fun w6 h6 => tyI ?_
  refine stB h6.swap (o := 0) (hi := (by show 1 < 9; decide)) fun w7 h7 => ?_
  refine rUintD_ok (p := (st2 t).2.1) (e := (st2 t).2.2) h7.swap hr.cons b2 ht fun w8 h8 => tyI ?_
  refine stB h8.swap (o := 0) (hi := (by show 2 < 9; decide)) fun w9 h9 => ?_
  refine rIntD_ok (p := (st3 t).2.1) (e := (st3 t).2.2) h9.swap hr.cons b3 ht fun w10 h10 => tyI ?_
  refine stB h10.swap (o := 0) (hi := (by show 3 < 9; decide)) fun w11 h11 => ?_
  refine rIntD_ok (p := (st4 t).2.1) (e := (st4 t).2.2) h11.swap hr.cons b4 ht fun w12 h12 => tyI ?_
  refine stB h12.swap (o := 0) (hi := (by show 4 < 9; decide)) fun w13 h13 => ?_
  refine rFlagD_ok (p := (st5 t).2.1) (e := (st5 t).2.2) h13.swap hr.cons b5 ht fun w14 h14 => tyI ?_
  refine stB h14.swap (o := 0) (hi := (by show 5 < 9; decide)) fun w15 h15 => ?_
  refine rFlagD_ok (p := (st6 t).2.1) (e := (st6 t).2.2) h15.swap hr.cons b6 ht fun w16 h16 => tyI ?_
  refine stB h16.swap (o := 0) (hi := (by show 6 < 9; decide)) fun w17 h17 => ?_
  refine rFlagD_ok (p := (st7 t).2.1) (e := (st7 t).2.2) h17.swap hr.cons b7 ht fun w18 h18 => tyI ?_
  refine stB h18.swap (o := 0) (hi := (by show 7 < 9; decide)) fun w19 h19 => ?_
  refine rUintD_ok (p := (st8 t).2.1) (e := (st8 t).2.2) h19.swap hr.cons b8 ht fun w20 h20 => tyI ?_
  have h14 : Sat W w20 (RfR b x (st9 t).2.1 (st9 t).2.2 :: Blk a (decV t ⟨none, 0, 0⟩ []).cells T_api_Batch :: Blk a0 zeroDc.cells T_api_Batch :: l) := h20
  have en : (takeU t (st8 t).2.1 (st8 t).2.2).1 = (st9 t).1 := rfl
  rw [en]
  clear h20 h19 h18 h17 h16 h15 h13 h12 h11 h10 h9 h8 h7 h6 h5 h4 h3 h2 h1 h2' h3' en
  refine ⟨fun _ w' => (st9 t).1 ≤ 16 ∧ Sat W w' (RfR b x (st9 t).2.1 (st9 t).2.2 :: Blk a (decV t ⟨none, 0, 0⟩ []).cells T_api_Batch :: Blk a0 zeroDc.cells T_api_Batch :: l), ?_, ?_⟩
  · rintro _ w1 ⟨hn16, h1⟩
    have hs : DecJ W l t x b a a0 0 w1 := ⟨⟨none, 0, 0⟩, [], rfl, by
      have := (sat_vs (ss := []) (bs := [])).2 (Sat.nilSlr ((sat_all (l' := [])).2 h1) T_sl_uint8 1)
      exact this.swap⟩
    refine ⟨fun z w' => ∃ i : Nat, z.1 = i ∧ i ≤ (st9 t).1 ∧ DecJ W l t x b a a0 i w', fun z _ => (st9 t).1 - z.1.toNat, ⟨0, rfl, Nat.zero_le _, hs⟩, ?_⟩
    rintro ⟨i', u⟩ w2 ⟨i, hi, hil, vs, ss, hsl, h2⟩
    simp only at hi h2 ⊢
    subst hi
    have bi : (takeVs t i (st9 t).2.1 (st9 t).2.2).2.1 ≤ t.length := takeVs_bound _ _ _ b9
    have li := takeVs_len (t := t) i (st9 t).2.1 (st9 t).2.2
    have hc : ¬ ((st9 t).2.2 = 0 ∧ (st9 t).1 > 16) := by omega
    rw [w_i64 (n := ((st9 t).1 : Int)) (by omega) (by omega)]
    refine ⟨fun _ w' => i < (st9 t).1 ∧ w' = w2, ?_, ?_⟩
    · rintro _ w3 ⟨hlt, rfl⟩
      have nx : ∀ w3, (∃ vs' s, Sat W w3 (Blk a (decV t vs' (ss ++ [s])).cells T_api_Batch :: VsR vs' (ss ++ [s]) ((takeVs t i (st9 t).2.1 (st9 t).2.2).1 ++ [(takeB t (takeVs t i (st9 t).2.1 (st9 t).2.2).2.1 (takeVs t i (st9 t).2.1 (st9 t).2.2).2.2).1]) ::
          RfR b x (takeB t (takeVs t i (st9 t).2.1 (st9 t).2.2).2.1 (takeVs t i (st9 t).2.1 (st9 t).2.2).2.2).2.1 (takeB t (takeVs t i (st9 t).2.1 (st9 t).2.2).2.1 (takeVs t i (st9 t).2.1 (st9 t).2.2).2.2).2.2 :: Blk a0 zeroDc.cells T_api_Batch :: l)) →
          ((∃ j : Nat, IntKind.i64.wrap ((i : Int) + 1) = j ∧ j ≤ (st9 t).1 ∧ DecJ W l t x b a a0 j w3) ∧ (st9 t).1 - (IntKind.i64.wrap ((i : Int) + 1)).toNat < (st9 t).1 - (i : Int).toNat) := by
        rintro w3 ⟨vs', s, h3⟩
        rw [w_i64 (by omega) (by omega)]
        refine ⟨⟨i + 1, rfl, by omega, vs', ss ++ [s], by simp [hsl], ?_⟩, by omega⟩
        rw [takeVs_snoc]
        exact (h3.up 1).up 2
      have hld : ∀ {w4 : World} {L : List Res} {K : Sl → Prop}, Sat W w4 (Blk a (decV t vs ss).cells T_api_Batch :: L) → K vs → RunQ .sl P (Instr.loadAt T_sl_sl_uint8 (.pointer (some ((⟨a, 0, none⟩ : Addr).add 8)))) w4 K := fun h hk => ldB h (x := vs) hk
      have fin : ∀ {w4 : World} {g : Nat} {s : Sl} {K : World → Prop}, Sat W w4 (Blk g [s.v] T_sl_uint8 :: BsR s (takeB t (takeVs t i (st9 t).2.1 (st9 t).2.2).2.1 (takeVs t i (st9 t).2.1 (st9 t).2.2).2.2).1 ::
          RfR b x (takeB t (takeVs t i (st9 t).2.1 (st9 t).2.2).2.1 (takeVs t i (st9 t).2.1 (st9 t).2.2).2.2).2.1 (takeB t (takeVs t i (st9 t).2.1 (st9 t).2.2).2.1 (takeVs t i (st9 t).2.1 (st9 t).2.2).2.2).2.2 :: VsR vs ss (takeVs t i (st9 t).2.1 (st9 t).2.2).1 :: Blk a (decV t vs ss).cells T_api_Batch :: Blk a0 zeroDc.cells T_api_Batch :: l) →
          (∀ w3, (∃ vs' s, Sat W w3 (Blk a (decV t vs' (ss ++ [s])).cells T_api_Batch :: VsR vs' (ss ++ [s]) ((takeVs t i (st9 t).2.1 (st9 t).2.2).1 ++ [(takeB t (takeVs t i (st9 t).2.1 (st9 t).2.2).2.1 (takeVs t i (st9 t).2.1 (st9 t).2.2).2.2).1]) ::
          RfR b x (takeB t (takeVs t i (st9 t).2.1 (st9 t).2.2).2.1 (takeVs t i (st9 t).2.1 (st9 t).2.2).2.2).2.1 (takeB t (takeVs t i (st9 t).2.1 (st9 t).2.2).2.1 (takeVs t i (st9 t).2.1 (st9 t).2.2).2.2).2.2 :: Blk a0 zeroDc.cells T_api_Batch :: l)) → K w3) →
          RunK .sl P (Builtin.append_ #[T_sl_sl_uint8, T_sl_sl_uint8] T_sl_sl_uint8 #[vs.v, Sl.v ⟨some ⟨g, 0, none⟩, 1, 1⟩]) w4 fun s6 w6 => True ∧ StoreP P T_sl_sl_uint8 (.pointer (some ((⟨a, 0, none⟩ : Addr).add 8))) s6.v w6 fun w7 => True ∧ K w7 := by
        intro w4 g s K h4 hk
        refine app_vs (((h4.up 3).up 2).up 2) (by omega) (by omega) fun vs' w5 h5 => ⟨trivial, ?_⟩
        refine stB (h5.up 2) (i := 8) (v := vs'.v) (hi := (by show 8 < 9; decide)) fun w6 h6 => ⟨trivial, hk w6 ⟨vs', s, h6⟩⟩
      have hrr : ∀ {R R' : Res}, Rd W (R :: R' :: Blk a0 zeroDc.cells T_api_Batch :: l) x 1 (t.map vB) := hr.cons.cons
      refine ⟨?_, ?_, trivial⟩
      · refine hld (h2.drew.up 2) ⟨trivial, ?_⟩
        refine rBytesD_ok h2.drew hrr bi ht fun s w3 h3 => tyI ⟨trivial, ?_⟩
        exact bs1_vs h3 fun g w4 h4 => ⟨trivial, fin h4 nx⟩
      · refine rBytesD_ok h2.drew hrr bi ht fun s w3 h3 => tyI ⟨trivial, ?_, ?_, trivial⟩
        · refine hld (h3.up 3) ⟨trivial, ?_⟩
          exact bs1_vs h3 fun g w4 h4 => ⟨trivial, fin h4 nx⟩
        · refine bs1_vs h3 fun g w4 h4 => ⟨trivial, ?_⟩
          exact hld (h4.up 4) ⟨trivial, fin h4 nx⟩
    · refine ifB_dec (fun hlt => ?_) fun hge => ?_
      · refine ldB h2 (i := 2) (x := (takeVs t i (st9 t).2.1 (st9 t).2.2).2.2) ?_
        refine ifB_beq (fun he => ⟨by omega, rfl⟩) fun hne => ?_
        have hrr : ∀ {R R' : Res}, Rd W (R :: R' :: Blk a0 zeroDc.cells T_api_Batch :: l) x 1 (t.map vB) := hr.cons.cons
        have hend : endE t (takeVs t i (st9 t).2.1 (st9 t).2.2).2.1 (takeVs t i (st9 t).2.1 (st9 t).2.2).2.2 = endE t (stV t).2.1 (stV t).2.2 := by
          have key : ∀ (k j p : Nat) (e : Int), (takeVs t j p e).2.2 ≠ 0 → (takeVs t (j + k) p e).2 = (takeVs t j p e).2 := by
            intro k
            induction k with
            | zero => intro j p e _; rfl
            | succ k ih =>
              intro j p e he
              have h1 := ih j p e he
              rw [← Nat.add_assoc, takeVs_snoc]
              show (takeB t (takeVs t (j + k) p e).2.1 (takeVs t (j + k) p e).2.2).2 = _
              rw [h1, takeB_err he]
          have h3 := key ((st9 t).1 - i) i (st9 t).2.1 (st9 t).2.2 hne
          have h4 : i + ((st9 t).1 - i) = (st9 t).1 := by omega
          rw [h4] at h3
          rw [stV, h3]
        have hE0 : endE t (stV t).2.1 (stV t).2.2 ≠ 0 := by
          rw [← hend]; unfold endE; rw [if_neg (by simp [hne])]; exact hne
        refine rEnd_ok h2 hrr fun w3 h4 => tyI ?_
        rw [hend]
        refine ifB_bne (fun _ => ?_) fun he => absurd he hE0
        have hE : decE t = endE t (stV t).2.1 (stV t).2.2 := by unfold decE; rw [if_neg hc, if_pos hE0]
        refine stAggB (cs' := zeroDc.cells) (h4.up 3) rfl (Dc.ones _) (by kernel_rfl) fun w4 h5 => ?_
        have := hK0 (by rw [hE]; exact hE0) w4 h5.tail.tail.tail.tail
        rw [hE] at this
        exact ldAggB h5 (by kernel_rfl) this
      · have hii : i = (st9 t).1 := by omega
        subst hii
        have h3 : Sat W w2 (RfR b x (stV t).2.1 (stV t).2.2 :: VsR vs ss (decV t vs ss).bs :: Blk a (decV t vs ss).cells T_api_Batch :: Blk a0 zeroDc.cells T_api_Batch :: l) := h2
        have hrr : Rd W (VsR vs ss (decV t vs ss).bs :: Blk a (decV t vs ss).cells T_api_Batch :: Blk a0 zeroDc.cells T_api_Batch :: l) x 1 (t.map vB) := hr.cons.cons
        refine rEnd_ok h3 hrr fun w3 h4 => tyI ?_
        refine ifB_bne (fun hne => ?_) fun he => ?_
        · have hE : decE t = endE t (stV t).2.1 (stV t).2.2 := by unfold decE; rw [if_neg hc, if_pos hne]
          refine stAggB (cs' := zeroDc.cells) (h4.up 3) rfl (Dc.ones _) (by kernel_rfl) fun w4 h5 => ?_
          have := hK0 (by rw [hE]; exact hne) w4 h5.tail.tail.tail.tail
          rw [hE] at this
          exact ldAggB h5 (by kernel_rfl) this
        · have hE : decE t = chk (decV t vs ss) := by
            unfold decE
            rw [if_neg hc, if_neg (by simpa using he)]
            exact chk_dat rfl
          have hv : VRd W (VsR vs ss (decV t vs ss).bs :: RfR b x (stV t).2.1 (stV t).2.2 :: Blk a (decV t vs ss).cells T_api_Batch :: Blk a0 zeroDc.cells T_api_Batch :: l) (decV t vs ss) :=
            VRd.own (d := decV t vs ss) (by show ss.length = (stV t).1.length; rw [stV, takeVs_len]; exact hsl)
          refine ldAggB (h4.up 2) (by kernel_rfl) ?_
          refine rcheck_ok h4.swap hv fun w4 h5 => tyI ?_
          refine ifB_bne (fun hne => ?_) fun he => ?_
          · refine stAggB (cs' := zeroDc.cells) (h5.up 3) rfl (Dc.ones _) (by kernel_rfl) fun w5 h6 => ?_
            have := hK0 (by rw [hE]; exact hne) w5 h6.tail.tail.tail.tail
            rw [hE] at this
            exact ldAggB h6 (by kernel_rfl) this
          · refine ldAggB (h5.up 2) (by kernel_rfl) ?_
            refine stAggB (cs' := (decV t vs ss).cells) (h5.up 3) rfl (Dc.ones _) (by kernel_rfl) fun w5 h6 => ?_
            refine ldAggB h6 (by kernel_rfl) ?_
            refine hK1 (by rw [hE]; exact he) vs ss w5 (by show ss.length = (stV t).1.length; rw [stV, takeVs_len]; exact hsl) ?_
            exact (((h6.tail).cut 1).cut 1)
  · refine ldB h14 (i := 2) (x := (st9 t).2.2) ?_
    refine ifB_beq (fun he => ?_) fun hne => ?_
    · refine ifB_dec (fun hgt => ?_) fun hle => ?_
      · have hE : decE t = 2 := by unfold decE; rw [if_pos ⟨he, by omega⟩]
        refine stAggB (cs' := zeroDc.cells) (h14.up 2) rfl (Dc.ones _) (by kernel_rfl) fun w3 h3 => ?_
        have := hK0 (by rw [hE]; decide) w3 h3.tail.tail.tail
        rw [hE] at this
        exact ldAggB h3 (by kernel_rfl) this
      · exact ⟨by omega, h14⟩
    · exact ⟨by have := hn.2 hne; omega, h14⟩
end
end Go.Proofs.Ytcfgbboibgjlcaa
