/- Layer 7: a batch is taken. -/
import Derived.Test.YtcfgbboibgjlcaaQD
import Derived.Test.YtcfgbboibgjlcaaPkS6
namespace Go.Proofs.Ytcfgbboibgjlcaa
open Go Go.Pk
def zeroDc : Dc := ⟨0, 0, 0, 0, 0, false, false, false, ⟨none, 0, 0⟩, [], []⟩
def decV (t : List UInt8) (vs : Sl) (ss : List Sl) : Dc := { decD t with vs := vs, ss := ss }
theorem Dc.ones (d : Dc) : ∀ u ∈ d.cells, u.oneCell' = true := by
  intro u hu
  simp only [Dc.cells, List.mem_cons, List.not_mem_nil, or_false] at hu
  rcases hu with rfl | rfl | rfl | rfl | rfl | rfl | rfl | rfl | rfl <;> rfl
section
variable {W w : World} {l : List Res} {K : Value → World → Prop} {t : List UInt8} {b : Nat} {a : Nat}
theorem bs1_vs {s : Sl} (h : Sat W w l) {K : Sl → World → Prop} (hK : ∀ g w', Sat W w' (Blk g [s.v] T_sl_uint8 :: l) → K ⟨some ⟨g, 0, none⟩, 1, 1⟩ w') :
    RunK .sl P (Instr.buildSlice T_sl_sl_uint8 1 #[(0, s.v)]) w K := bsB h (cs := [s.v]) (e := T_sl_uint8) (fun w => run_bs1 et_vs rfl w) hK
theorem app_vs {s vs : Sl} {ss : List Sl} {bb : List UInt8} {bs : List (List UInt8)} {g : Nat} {ty : TypeId} {K : Sl → World → Prop}
    (h : Sat W w (Blk g [s.v] T_sl_uint8 :: BsR s bb :: VsR vs ss bs :: l)) (hl : ss.length = bs.length) (hn : bs.length < 2 ^ 40)
    (hK : ∀ vs' w', Sat W w' (VsR vs' (ss ++ [s]) (bs ++ [bb]) :: l) → K vs' w') :
    RunK .sl P (Builtin.append_ #[T_sl_sl_uint8, T_sl_sl_uint8] ty #[vs.v, Sl.v ⟨some ⟨g, 0, none⟩, 1, 1⟩]) w K := by
  have h1 := sat_vs.1 (h.up 2)
  have hle := h1.slLen
  simp only [List.length_map, Nat.mul_one] at hle
  refine appB et_vs (by decide) (s := vs) (x := ⟨some ⟨g, 0, none⟩, 1, 1⟩) (news := [s.v]) h1 (rdBlk (h1.up 2) rfl) (by intro u hu; simp only [List.mem_singleton] at hu; subst hu; rfl) (by simp only; omega) (by simp only; omega) fun s' w' h2 _ => ?_
  refine hK s' w' ?_
  refine sat_vs.2 ?_
  have h3 : Sat W w' (SlR T_sl_uint8 1 s' ((ss ++ [s]).map Sl.v) :: All (vals ss bs) :: Blk g [s.v] T_sl_uint8 :: BsR s bb :: l) := by
    rw [List.map_append]; exact h2
  have h4 : Sat W w' (BsR s bb :: All (vals ss bs) :: SlR T_sl_uint8 1 s' ((ss ++ [s]).map Sl.v) :: l) := ((h3.cut 2).up 1).up 2
  exact (vals_snoc hl h4).swap
def DecI (W : World) (l : List Res) (t : List UInt8) (b a a0 : Nat) (i : Nat) (w : World) : Prop :=
  ∃ vs ss, ss.length = i ∧ Sat W w (RdrR b t (takeVs t i (st9 t).2.1 (st9 t).2.2).2.1 (takeVs t i (st9 t).2.1 (st9 t).2.2).2.2 :: VsR vs ss (takeVs t i (st9 t).2.1 (st9 t).2.2).1 :: Blk a (decV t vs ss).cells T_api_Batch :: Blk a0 zeroDc.cells T_api_Batch :: l)
/-- the end, alike for all who decode -/
theorem dec_num (t : List UInt8) (ht : t.length ≤ 140737488355328) : (st9 t).1 < 2 ^ 64 ∧ ((st9 t).2.2 ≠ 0 → (st9 t).1 = 0) := by
  have := st_bounds t
  have h := takeU_bound (t := t) (p := (st8 t).2.1) (e := (st8 t).2.2) this.2.2.2.2.2.2.2.1
  exact ⟨h.1, h.2.2.2.1⟩
theorem decode_ok {x : Sl} (h : Sat W w l) (hx : Rd W l x 1 (t.map vB)) (ht : t.length ≤ 140737488355328)
    (hK0 : decE t ≠ 0 → ∀ w', Sat W w' l → K (.tuple #[.agg zeroDc.cells.toArray, .int .i64 (decE t)]) w')
    (hK1 : decE t = 0 → ∀ vs ss w', ss.length = (decD t).bs.length → Sat W w' (VsR vs ss (decD t).bs :: l) → K (.tuple #[.agg (decV t vs ss).cells.toArray, .int .i64 0]) w') :
    CallP P F_batch_Decode [x.v] w K := by
  apply c_batch_Decode
  unfold S_batch_Decode
  have hb := st_bounds t
  obtain ⟨b1, b2, b3, b4, b5, b6, b7, b8, b9, bV⟩ := hb
  have hn := dec_num t ht
  refine allocB h (z := .agg zeroDc.cells.toArray) (by kernel_rfl) fun a0 w1 h1 => ?_
  have hA : Sat W w1 (Blk a0 zeroDc.cells T_api_Batch :: l) := h1
  refine newReader_ok hA hx.cons ht fun b w2 h2 => tyI ?_
  refine dInt_ok h2 (Nat.zero_le _) ht fun w3 h3 => tyI ?_
  refine dInt_ok (p := (st1 t).2.1) (e := (st1 t).2.2) h3 b1 ht fun w4 h4 => tyI ?_
  refine dUint_ok (p := (st2 t).2.1) (e := (st2 t).2.2) h4 b2 ht fun w5 h5 => tyI ?_
  refine dInt_ok (p := (st3 t).2.1) (e := (st3 t).2.2) h5 b3 ht fun w6 h6 => tyI ?_
  refine dInt_ok (p := (st4 t).2.1) (e := (st4 t).2.2) h6 b4 ht fun w7 h7 => tyI ?_
  refine dFlag_ok (p := (st5 t).2.1) (e := (st5 t).2.2) h7 b5 ht fun w8 h8 => tyI ?_
  refine dFlag_ok (p := (st6 t).2.1) (e := (st6 t).2.2) h8 b6 ht fun w9 h9 => tyI ?_
  refine dFlag_ok (p := (st7 t).2.1) (e := (st7 t).2.2) h9 b7 ht fun w10 h10 => tyI ?_
  refine allocB h10 (z := .agg zeroDc.cells.toArray) (by kernel_rfl) fun a w11 h11 => ?_
  refine stAggB (cs := zeroDc.cells) (cs' := (decV t ⟨none, 0, 0⟩ []).cells) h11 rfl (Dc.ones _) (by kernel_rfl) fun w12 h12 => ?_
  refine dUint_ok (p := (st8 t).2.1) (e := (st8 t).2.2) h12.swap b8 ht fun w13 h13 => tyI ?_
  have h14 : Sat W w13 (RdrR b t (st9 t).2.1 (st9 t).2.2 :: Blk a (decV t ⟨none, 0, 0⟩ []).cells T_api_Batch :: Blk a0 zeroDc.cells T_api_Batch :: l) := h13
  have en : (takeU t (st8 t).2.1 (st8 t).2.2).1 = (st9 t).1 := rfl
  rw [en]
  clear h13 h12 h11 h10 h9 h8 h7 h6 h5 h4 h3 h2 h1 en
  refine ⟨fun _ w' => (st9 t).1 ≤ 16 ∧ Sat W w' (RdrR b t (st9 t).2.1 (st9 t).2.2 :: Blk a (decV t ⟨none, 0, 0⟩ []).cells T_api_Batch :: Blk a0 zeroDc.cells T_api_Batch :: l), ?_, ?_⟩
  · rintro _ w1 ⟨hn16, h1⟩
    have hs : DecI W l t b a a0 0 w1 := ⟨⟨none, 0, 0⟩, [], rfl, by
      have := (sat_vs (ss := []) (bs := [])).2 (Sat.nilSlr ((sat_all (l' := [])).2 h1) T_sl_uint8 1)
      exact this.swap⟩
    refine ⟨fun z w' => ∃ i : Nat, z.1 = i ∧ i ≤ (st9 t).1 ∧ DecI W l t b a a0 i w', fun z _ => (st9 t).1 - z.1.toNat, ⟨0, rfl, Nat.zero_le _, hs⟩, ?_⟩
    rintro ⟨i', u⟩ w2 ⟨i, hi, hil, vs, ss, hsl, h2⟩
    simp only at hi h2 ⊢
    subst hi
    have bi : (takeVs t i (st9 t).2.1 (st9 t).2.2).2.1 ≤ t.length := takeVs_bound _ _ _ b9
    have li := takeVs_len (t := t) i (st9 t).2.1 (st9 t).2.2
    refine ifB_dec (fun hlt => ?_) fun hge => ?_
    · have nx : ∀ w3, (∃ vs' s, Sat W w3 (Blk a (decV t vs' (ss ++ [s])).cells T_api_Batch :: VsR vs' (ss ++ [s]) ((takeVs t i (st9 t).2.1 (st9 t).2.2).1 ++ [(takeB t (takeVs t i (st9 t).2.1 (st9 t).2.2).2.1 (takeVs t i (st9 t).2.1 (st9 t).2.2).2.2).1]) ::
          RdrR b t (takeB t (takeVs t i (st9 t).2.1 (st9 t).2.2).2.1 (takeVs t i (st9 t).2.1 (st9 t).2.2).2.2).2.1 (takeB t (takeVs t i (st9 t).2.1 (st9 t).2.2).2.1 (takeVs t i (st9 t).2.1 (st9 t).2.2).2.2).2.2 :: Blk a0 zeroDc.cells T_api_Batch :: l)) →
          ((∃ j : Nat, IntKind.u64.wrap ((i : Int) + 1) = j ∧ j ≤ (st9 t).1 ∧ DecI W l t b a a0 j w3) ∧ (st9 t).1 - (IntKind.u64.wrap ((i : Int) + 1)).toNat < (st9 t).1 - (i : Int).toNat) := by
        rintro w3 ⟨vs', s, h3⟩
        rw [w_u64 (by omega) (by omega)]
        refine ⟨⟨i + 1, rfl, by omega, vs', ss ++ [s], by simp [hsl], ?_⟩, by omega⟩
        rw [takeVs_snoc]
        exact (h3.up 1).up 2
      have hld : ∀ {w4 : World} {L : List Res} {K : Sl → Prop}, Sat W w4 (Blk a (decV t vs ss).cells T_api_Batch :: L) → K vs → RunQ .sl P (Instr.loadAt T_sl_sl_uint8 (.pointer (some ((⟨a, 0, none⟩ : Addr).add 8)))) w4 K := fun h hk => ldB h (x := vs) hk
      have fin : ∀ {w4 : World} {g : Nat} {s : Sl} {K : World → Prop}, Sat W w4 (Blk g [s.v] T_sl_uint8 :: BsR s (takeB t (takeVs t i (st9 t).2.1 (st9 t).2.2).2.1 (takeVs t i (st9 t).2.1 (st9 t).2.2).2.2).1 ::
          RdrR b t (takeB t (takeVs t i (st9 t).2.1 (st9 t).2.2).2.1 (takeVs t i (st9 t).2.1 (st9 t).2.2).2.2).2.1 (takeB t (takeVs t i (st9 t).2.1 (st9 t).2.2).2.1 (takeVs t i (st9 t).2.1 (st9 t).2.2).2.2).2.2 :: VsR vs ss (takeVs t i (st9 t).2.1 (st9 t).2.2).1 :: Blk a (decV t vs ss).cells T_api_Batch :: Blk a0 zeroDc.cells T_api_Batch :: l) →
          (∀ w3, (∃ vs' s, Sat W w3 (Blk a (decV t vs' (ss ++ [s])).cells T_api_Batch :: VsR vs' (ss ++ [s]) ((takeVs t i (st9 t).2.1 (st9 t).2.2).1 ++ [(takeB t (takeVs t i (st9 t).2.1 (st9 t).2.2).2.1 (takeVs t i (st9 t).2.1 (st9 t).2.2).2.2).1]) ::
          RdrR b t (takeB t (takeVs t i (st9 t).2.1 (st9 t).2.2).2.1 (takeVs t i (st9 t).2.1 (st9 t).2.2).2.2).2.1 (takeB t (takeVs t i (st9 t).2.1 (st9 t).2.2).2.1 (takeVs t i (st9 t).2.1 (st9 t).2.2).2.2).2.2 :: Blk a0 zeroDc.cells T_api_Batch :: l)) → K w3) →
          RunK .sl P (Builtin.append_ #[T_sl_sl_uint8, T_sl_sl_uint8] T_sl_sl_uint8 #[vs.v, Sl.v ⟨some ⟨g, 0, none⟩, 1, 1⟩]) w4 fun s6 w6 => True ∧ StoreP P T_sl_sl_uint8 (.pointer (some ((⟨a, 0, none⟩ : Addr).add 8))) s6.v w6 fun w7 => True ∧ K w7 := by
        intro w4 g s K h4 hk
        refine app_vs (((h4.up 3).up 2).up 2) (by omega) (by omega) fun vs' w5 h5 => ⟨trivial, ?_⟩
        refine stB (h5.up 2) (i := 8) (v := vs'.v) (hi := (by show 8 < 9; decide)) fun w6 h6 => ⟨trivial, hk w6 ⟨vs', s, h6⟩⟩
      refine ⟨?_, ?_, trivial⟩
      · refine hld (h2.drew.up 2) ⟨trivial, ?_⟩
        refine dBytes_ok h2.drew bi ht fun s w3 h3 => tyI ⟨trivial, ?_⟩
        exact bs1_vs h3 fun g w4 h4 => ⟨trivial, fin h4 nx⟩
      · refine dBytes_ok h2.drew bi ht fun s w3 h3 => tyI ⟨trivial, ?_, ?_, trivial⟩
        · refine hld (h3.up 3) ⟨trivial, ?_⟩
          exact bs1_vs h3 fun g w4 h4 => ⟨trivial, fin h4 nx⟩
        · refine bs1_vs h3 fun g w4 h4 => ⟨trivial, ?_⟩
          exact hld (h4.up 4) ⟨trivial, fin h4 nx⟩
    · have hii : i = (st9 t).1 := by omega
      subst hii
      have h3 : Sat W w2 (RdrR b t (stV t).2.1 (stV t).2.2 :: VsR vs ss (decV t vs ss).bs :: Blk a (decV t vs ss).cells T_api_Batch :: Blk a0 zeroDc.cells T_api_Batch :: l) := h2
      have hc : ¬ ((st9 t).2.2 = 0 ∧ (st9 t).1 > 16) := by omega
      refine dEnd_ok h3 fun w3 h4 => tyI ?_
      refine ifB_bne (fun hne => ?_) fun he => ?_
      · have hE : decE t = endE t (stV t).2.1 (stV t).2.2 := by unfold decE; rw [if_neg hc, if_pos hne]
        refine stAggB (cs' := zeroDc.cells) (h4.up 3) rfl (Dc.ones _) (by kernel_rfl) fun w4 h5 => ?_
        have := hK0 (by rw [hE]; exact hne) w4 h5.tail.tail.tail.tail
        rw [hE] at this
        exact ldAggB h5 (by kernel_rfl) this
      · have hE : decE t = chk (decV t vs ss) := by
          have hch : ∀ d1 d2 : Dc, d1.dat = d2.dat → chk d1 = chk d2 := by
            intro d1 d2 hd
            obtain ⟨⟩ := d1; obtain ⟨⟩ := d2
            simp only [Dc.dat, Prod.mk.injEq] at hd
            obtain ⟨rfl, rfl, rfl, rfl, rfl, rfl, rfl, rfl, rfl⟩ := hd
            rfl
          unfold decE
          rw [if_neg hc, if_neg (by simpa using he)]
          exact hch _ _ rfl
        have hv : VRd W (VsR vs ss (decV t vs ss).bs :: RdrR b t (stV t).2.1 (stV t).2.2 :: Blk a (decV t vs ss).cells T_api_Batch :: Blk a0 zeroDc.cells T_api_Batch :: l) (decV t vs ss) :=
          VRd.own (d := decV t vs ss) (by show ss.length = (stV t).1.length; rw [stV, takeVs_len]; exact hsl)
        refine ldAggB (h4.up 2) (by kernel_rfl) ?_
        refine check_ok h4.swap hv fun w4 h5 => tyI ?_
        refine ifB_bne (fun hne => ?_) fun he => ?_
        · refine stAggB (cs' := zeroDc.cells) (h5.up 3) rfl (Dc.ones _) (by kernel_rfl) fun w5 h6 => ?_
          have := hK0 (by rw [hE]; exact hne) w5 h6.tail.tail.tail.tail
          rw [hE] at this
          exact ldAggB h6 (by kernel_rfl) this
        · refine ldAggB (h5.up 2) (by kernel_rfl) ?_
          refine stAggB (cs' := (decV t vs ss).cells) (h5.up 3) rfl (Dc.ones _) (by kernel_rfl) fun w5 h6 => ?_
          refine ldAggB h6 (by kernel_rfl) ?_
          refine hK1 (by rw [hE]; exact he) vs ss w5 (by show ss.length = (stV t).1.length; rw [stV, takeVs_len]; exact hsl) ?_
          exact (((h6.tail).cut 1).cut 1)
  · refine dState_ok h14 b9 fun w2 h2 => ⟨(_, _, _, ()), rfl, ?_⟩
    refine ifB_beq (fun he => ?_) fun hne => ?_
    · refine ifB_dec (fun hgt => ?_) fun hle => ?_
      · have hE : decE t = 2 := by unfold decE; rw [if_pos ⟨he, by omega⟩]
        refine stAggB (cs' := zeroDc.cells) (h2.up 2) rfl (Dc.ones _) (by kernel_rfl) fun w3 h3 => ?_
        have := hK0 (by rw [hE]; decide) w3 h3.tail.tail.tail
        rw [hE] at this
        exact ldAggB h3 (by kernel_rfl) this
      · exact ⟨by omega, h2⟩
    · exact ⟨by have := hn.2 hne; omega, h2⟩
end
end Go.Proofs.Ytcfgbboibgjlcaa
