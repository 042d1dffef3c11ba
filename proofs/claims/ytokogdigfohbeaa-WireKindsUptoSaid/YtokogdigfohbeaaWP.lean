/- Layer 17: the laws of writing, reading, cutting, kinds. -/
import Derived.Test.YtokogdigfohbeaaWO
import Derived.Test.YtokogdigfohbeaaWH
import Derived.Test.YtokogdigfohbeaaC1
namespace Go.Proofs.Ytokogdigfohbeaa
open Go Go.Pk
/-- what a reading tells: an error and no message, or a message -/
def Dec (t : List UInt8) (m : Ms) (y : Int) : Prop := (y ≠ 0 ∧ badM t ∧ m = zMs) ∨ (y = 0 ∧ ¬ badM t ∧ m.only ∧ m.dB = (tkMd t 0 0).1)
def aM : Ms := { zMs with kind := 14, frm := 3, corr := 1, group := 1, part := 2 }
theorem aM_num : aM.num := by
  refine ⟨?_, zRm_num, zFq_num, zFd_num, zCd_num, zeroDc_num, ?_, ⟨by decide, by decide⟩, (by intro i hi; cases hi), (by intro i hi; cases hi), (by intro i hi; cases hi)⟩
  · intro i hi
    simp [Ms.hd, aM, zMs] at hi
    rcases hi with rfl | rfl | rfl | rfl | rfl <;> exact ⟨by decide, by decide⟩
  · intro i hi
    simp [Ms.ns, aM, zMs] at hi
    rcases hi with rfl | rfl | rfl | rfl <;> exact ⟨by decide, by decide⟩
theorem okD_zero : okD zeroDc := ⟨rfl, .inl rfl⟩
theorem nf_zero : zeroDc.nf = zeroDc := by unfold Dc.nf; rw [if_pos zero_no]
theorem aM_d : aM.d = ([14, 3, 0, 1, 0], .client [2, 0, 0, 0, 0, 1, 0, 0, 0] 0 false [] zeroDc [] []) := by
  have : aM.d = ([14, 3, 0, 1, 0], .client [2, 0, 0, 0, 0, 1, 0, 0, 0] 0 false [] zeroDc.nf [] []) := rfl
  rw [this, nf_zero]
theorem aM_ok : okMd aM.d := by
  rw [aM_d]
  refine ⟨⟨⟨rfl, ?_⟩, rfl⟩, ⟨by decide, by decide, by decide, by decide⟩, ⟨rfl, ?_⟩, by show 0 < 2 ^ 64; decide, ⟨⟨Nat.zero_le _, (by intro i hi; cases hi)⟩, rfl⟩, okD_zero, ⟨Nat.zero_le _, (by intro i hi; cases hi)⟩, Nat.zero_le _, (by intro i hi; cases hi)⟩
  · intro i hi
    simp at hi
    rcases hi with rfl | rfl | rfl | rfl | rfl <;> exact ⟨by decide, by decide⟩
  · intro i hi
    simp at hi
    rcases hi with rfl | rfl | rfl | rfl <;> exact ⟨by decide, by decide⟩
theorem aM_b : ∃ r, mB aM = [28, 6, 0, 2, 0, 4] ++ r := by
  have h0 : mE aM = 0 := (mE_iff aM_num).2 aM_ok
  rw [mB_1 h0, lyM_o aM_num h0, aM_d]
  apply Exists.intro
  · simp only [encMd, encRest, List.flatMap_cons, List.flatMap_nil, List.append_nil, intB, zig]
    simp only [show (if (0:Int) ≤ 14 then (2 * 14 : Int).toNat else (-2 * 14 - 1 : Int).toNat) = 28 from rfl, show (if (0:Int) ≤ 3 then (2 * 3 : Int).toNat else (-2 * 3 - 1 : Int).toNat) = 6 from rfl, show (if (0:Int) ≤ 0 then (2 * 0 : Int).toNat else (-2 * 0 - 1 : Int).toNat) = 0 from rfl,
      show (if (0:Int) ≤ 1 then (2 * 1 : Int).toNat else (-2 * 1 - 1 : Int).toNat) = 2 from rfl, show (if (0:Int) ≤ 2 then (2 * 2 : Int).toNat else (-2 * 2 - 1 : Int).toNat) = 4 from rfl]
    rw [uintB_small (n := 28) (by decide), uintB_small (n := 6) (by decide), uintB_small (n := 0) (by decide), uintB_small (n := 2) (by decide), uintB_small (n := 4) (by decide)]
    simp only [List.append_assoc, List.cons_append, List.nil_append]
    rfl
section
variable {W w : World} {l L : List Res} {K : Value → World → Prop} {t : List UInt8} {m : Ms}
theorem decode_any {x : Sl} (h : Sat W w l) (hx : Rd W l x 1 (t.map vB)) (ht : t.length ≤ 140737488355328)
    (hK : ∀ (m : Ms) y w', Dec t m y → Sat W w' (ownM m :: l) → K (.tuple #[.agg m.cells.toArray, .int .i64 y]) w') : CallP P F_wire_Decode [x.v] w K :=
  decode17_ok h hx ht (fun hb y w' hy h' => hK zMs y w' (.inl ⟨hy, hb, rfl⟩) (sat_all.2 (own_z h'))) fun hb m w' ho hm h' => hK m 0 w' (.inr ⟨rfl, hb, ho, hm⟩) h'
theorem newMs (h : Sat W w l) {K : Addr → World → Prop} (m : Ms) (hK : ∀ b w', Sat W w' (Blk b m.cells T_api_Msg :: l) → K ⟨b, 0, none⟩ w') :
    RunK .addr P (Instr.alloc T_api_Msg true (.tuple #[])) w fun a w1 => StoreP P T_api_Msg (.pointer (some a)) (.agg m.cells.toArray) w1 fun w2 => K a w2 :=
  newAgg (z := zMs.cells) h (Ms.ones _) hK
theorem mB_len {m : Ms} (hn : m.num) (hw : m.w ≤ 2 ^ 44) : (mB m).length ≤ 2 ^ 45 := by
  by_cases h : mE m = 0
  · rw [mB_1 h]; have := lyM_len hn hw; omega
  · rw [mB_0 h]; simp
theorem awake17_ok (h : Sat W w l) (hK : ∀ w', Sat W w' l → K (.bool true) w') : CallP P F_law17_awake [] w K := by
  apply c_law17_awake
  unfold S_law17_awake
  have h0 : mE aM = 0 := (mE_iff aM_num).2 aM_ok
  obtain ⟨r, hr⟩ := aM_b
  have hb : mB aM = encMd aM.d := by rw [mB_1 h0, lyM_o aM_num h0]
  have hw : aM.w ≤ 2 ^ 44 := by decide
  have hl := mB_len aM_num hw
  have hrd : MRd W l aM := ⟨⟨Rd.nil rfl, (by intro y hy; cases hy), Rd.nil rfl⟩, ⟨Rd.nil rfl, (by intro y hy; cases hy)⟩, Rd.nil rfl, ⟨Rd.nil rfl, rfl, fun i s b h1 _ => by simp [aM, zMs, zeroDc] at h1⟩, Rd.nil rfl, ⟨Rd.nil rfl, (by intro y hy; cases hy)⟩, Rd.nil rfl⟩
  refine wencode_ok (m := aM) h aM_num hrd hw fun s w1 h1 => tup2 ?_
  refine decode_any h1 Rd.own (by omega) fun m y w2 hd h2 => tup2v ?_
  refine newMs h2 m fun a w3 h3 => ?_
  obtain ⟨g1, g2⟩ := good_enc aM_ok
  rw [hb] at hd
  rcases hd with ⟨_, hbad, _⟩ | ⟨rfl, _, ho, hm⟩
  · exact absurd hbad g1
  rw [g2, aM_d] at hm
  have e1 : m.hd = [14, 3, 0, 1, 0] := congrArg Prod.fst hm
  have e2 : m.restB = .client [2, 0, 0, 0, 0, 1, 0, 0, 0] 0 false [] zeroDc [] [] := congrArg Prod.snd hm
  simp only [Ms.hd, List.cons.injEq, and_true] at e1
  obtain ⟨k1, k2, _, _, _⟩ := e1
  unfold Ms.restB at e2
  rw [if_neg (by omega), if_neg (by omega), if_neg (by omega), if_neg (by omega)] at e2
  unfold Ms.cl at e2
  simp only [Rest.client.injEq, Ms.ns, List.cons.injEq, and_true] at e2
  obtain ⟨⟨p1, _, _, _, _, p6, _⟩, _⟩ := e2
  have hs : Sat W w3 (BsR s (mB aM) :: Blk a m.cells T_api_Msg :: l) := h3.sel 3 [2, 0]
  rw [hr] at hs
  have hsl := Sat.bsLen hs
  simp only [List.length_append, List.length_cons, List.length_nil] at hsl
  rw [h0]
  refine ifB_beq (fun _ => ?_) fun hne => absurd rfl hne
  refine ifB_beq (fun _ => ?_) fun hne => absurd rfl hne
  refine ifB_dec (fun _ => ?_) fun hc => absurd (show ((s.len : Nat) : Int) > 5 by omega) hc
  refine ixld et_bytes hs.rdc (by omega) (k := .int .u8) (x := 28) rfl ?_
  refine ifB_beq (fun _ => ?_) fun hne => absurd rfl hne
  refine ixld et_bytes hs.rdc (by omega) (k := .int .u8) (x := 6) rfl ?_
  refine ifB_beq (fun _ => ?_) fun hne => absurd rfl hne
  have h4 := hs.tail
  refine ldB h4 (o := 0) (i := 0) (x := m.kind) ?_
  refine ifB_beq (fun _ => ?_) fun hne => absurd k1 hne
  refine ldB h4 (o := 0) (i := 1) (x := m.frm) ?_
  refine ifB_beq (fun _ => ?_) fun hne => absurd k2 hne
  refine ldB h4 (o := 0) (i := 52) (x := m.group) ?_
  refine ifB_beq (fun _ => ?_) fun hne => absurd p6 hne
  refine ldB h4 (o := 0) (i := 45) (x := m.part) ?_
  rw [p1]
  exact hK w3 h4.tail
theorem law_writes (h : Sat W w l) (hn : m.num) (hv : MRd W l m) (hw : m.w ≤ 2 ^ 44) (hK : ∀ w', Sat W w' l → K (.bool true) w') : CallP P F_law17_WireWrites [.agg m.cells.toArray] w K := by
  apply c_law17_WireWrites
  unfold S_law17_WireWrites
  have hl := mB_len hn hw
  refine boxB h fun a0 w1 h1 => ?_
  have h1 : Sat W w1 (Blk a0 m.cells T_api_Msg :: l) := h1
  refine ldAggB h1 (by kernel_rfl) ?_
  refine rencode17_ok h1 hn hv.cons hw fun t1 w2 h2 => tup2 ?_
  refine awake17_ok h2 fun w3 h3 => tyI ?_
  simp only [Bool.not_true, ifB_false]
  refine ⟨fun z w' => ∃ i : Nat, z.1 = i ∧ i ≤ 2 ∧ Sat W w' (BsR t1 (mB m) :: Blk a0 m.cells T_api_Msg :: l), fun z _ => 2 - z.1.toNat, ⟨0, rfl, by omega, h3⟩, ?_⟩
  rintro ⟨i', u⟩ w4 ⟨i, hi, hil, h4⟩
  simp only at hi ⊢
  subst hi
  refine ifB_dec (fun hlt => ?_) fun hge => hK w4 h4.tail.tail
  have h4s := h4.up 1
  refine ldAggB h4s (by kernel_rfl) ?_
  refine wencode_ok h4 hn hv.cons.cons hw fun s w5 h5 => tup2 ?_
  refine ⟨fun _ w' => Sat W w' (BsR s (mB m) :: BsR t1 (mB m) :: Blk a0 m.cells T_api_Msg :: l), ?_, ?_⟩
  · rintro _ w6 h6
    refine fillLoop 1 h6 fun w7 h7 => ?_
    rw [w_i64 (by omega) (by omega)]
    exact ⟨⟨i + 1, rfl, by omega, h7⟩, by omega⟩
  · refine ifB_bne (fun hne => absurd rfl hne) fun _ => ?_
    refine same_ok h5 Rd.own Rd.own.cons (by omega) fun w6 h6 => tyI ?_
    rw [decide_eq_true rfl]
    exact h6
theorem law_reads17 {x : Sl} (h : Sat W w l) (hx : Rd W l x 1 (t.map vB)) (ht : t.length ≤ 140737488355328) (hK : ∀ w', Sat W w' l → K (.bool true) w') : CallP P F_law17_WireReads [x.v] w K := by
  apply c_law17_WireReads
  unfold S_law17_WireReads
  refine copyBytes h hx ht fun s w1 h1 => ?_
  refine decode_any h1 Rd.own ht fun m y w2 hd h2 => tup2v ?_
  refine newMs h2 m fun a w3 h3 => ?_
  refine ⟨fun _ w' => Sat W w' (Blk a m.cells T_api_Msg :: ownM m :: l), ?_, ?_⟩
  · rintro _ w4 h4
    rcases hd with ⟨hy, _, rfl⟩ | ⟨rfl, hb, ho, hm⟩
    · refine ifB_bne (fun _ => ?_) fun he => absurd he hy
      refine ldB h4 (o := 0) (i := 0) (x := (0 : Int)) ?_
      refine ifB_beq (fun _ => ?_) fun hne => absurd rfl hne
      refine ldB h4 (o := 0) (i := 1) (x := (0 : Int)) ?_
      refine ifB_beq (fun _ => ?_) fun hne => absurd rfl hne
      refine ldB h4 (o := 0) (i := 55) (k := .sl) (x := ⟨none, 0, 0⟩) ?_
      refine ifB_beq (fun _ => ?_) fun hne => absurd rfl hne
      refine ldB h4 (o := 0) (i := 56) (k := .sl) (x := ⟨none, 0, 0⟩) ?_
      refine ifB_beq (fun _ => ?_) fun hne => absurd rfl hne
      refine ldX h4 5 (x := (0 : Int)) ?_
      refine ifB_beq (fun _ => ?_) fun hne => absurd rfl hne
      refine ldX h4 30 (x := (0 : Int)) ?_
      exact hK w4 h4.tail.tail
    · refine ifB_bne (fun hne => absurd rfl hne) fun _ => ?_
      obtain ⟨b1, b2⟩ := not_bad hb
      rw [← hm] at b1 b2
      have hn := num_of ho b1
      have e0 : mE m = 0 := (mE_iff hn).2 (by rw [d_eq b1]; exact b1)
      have e1 : mB m = t := by rw [mB_1 e0, lyM_o hn e0, d_eq b1]; exact b2
      refine ldAggB h4 (by kernel_rfl) ?_
      refine wencode_ok h4 hn (ownM_rd h4.tail).cons (w_of ho b1) fun s5 w5 h5 => tup2 ?_
      rw [e0]
      rw [e1] at h5
      refine ifB_beq (fun _ => ?_) fun hne => absurd rfl hne
      refine same_ok h5 Rd.own hx.cons.cons.cons (by omega) fun w6 h6 => tyI ?_
      rw [decide_eq_true rfl]
      exact hK w6 h6.tail.tail.tail
  · refine awake17_ok h3 fun w4 h4 => tyI ?_
    simp only [Bool.not_true, ifB_false]
    refine same_ok h4 hx.cons.cons.cons Rd.own.cons.cons (by omega) fun w5 h5 => tyI ?_
    rw [decide_eq_true rfl]
    simp only [Bool.not_true, ifB_false]
    exact h5.sel 3 [0, 1]
theorem law_cut17 {x1 : Int} {x2 : Sl} {r : List UInt8} (h : Sat W w l) (hn : m.num) (hv : MRd W l m) (hw : m.w ≤ 2 ^ 44) (h0 : 0 ≤ x1) (h1 : x1 < 65536) (hx2 : Rd W l x2 1 (r.map vB)) (hm : r.length ≤ 2 ^ 45) (hK : ∀ w', Sat W w' l → K (.bool true) w') :
    CallP P F_law17_WireCut [.agg m.cells.toArray, .int .u16 x1, x2.v] w K := by
  apply c_law17_WireCut
  unfold S_law17_WireCut
  have hlb := mB_len hn hw
  refine boxB h fun a0 w1 h1' => ?_
  have h1' : Sat W w1 (Blk a0 m.cells T_api_Msg :: l) := h1'
  refine ldAggB h1' (by kernel_rfl) ?_
  refine wencode_ok h1' hn hv.cons hw fun s w2 h2 => tup2 ?_
  have h3 : Sat W w2 (BsR s (mB m) :: l) := h2.cut 1
  have hsl := Sat.bsLen h3
  have hsc := Sat.slLen h3
  have hmlen : 0 < (encMd m.d).length := by
    have : 0 < (intB m.kind).length := uintB_pos _
    have e : encMd m.d = m.hd.flatMap intB ++ encRest m.rest := rfl
    rw [e]
    simp only [Ms.hd, List.flatMap_cons, List.length_append]; omega
  refine ⟨fun _ w' => mE m = 0 ∧ s.len ≠ 0 ∧ Sat W w' (BsR s (mB m) :: l), ?_, ?_⟩
  · rintro _ w4 ⟨hc, hne, h4⟩
    have ed : mB m = encMd m.d := by rw [mB_1 hc, lyM_o hn hc]
    have hok := (mE_iff hn).1 hc
    rw [ed] at h4 hsl hlb
    have e1 : IntKind.i64.wrap x1 = x1 := w_i64 (by omega) (by omega)
    have hxl := (hx2 w4 h4.tail).1
    simp only [List.length_map, Nat.mul_one] at hxl
    refine emptyBytes h4 fun e w5 h5 => ?_
    rw [e1]
    refine remR (by simp only; omega) ?_
    simp only
    rw [Int.tmod_eq_emod_of_nonneg h0]
    have hn2 : (x1 % (s.len : Int)).toNat < s.len := by
      have := Int.emod_lt_of_pos x1 (b := (s.len : Int)) (by omega)
      have := Int.emod_nonneg x1 (b := (s.len : Int)) (by omega)
      omega
    have hnn := Int.emod_nonneg x1 (b := (s.len : Int)) (by omega)
    generalize x1 % (s.len : Int) = k at hn2 hnn
    refine ⟨⟨s.a, k.toNat, s.cap⟩, run_sliceHi et_bytes hnn (by omega) _, ?_⟩
    have et : ((encMd m.d).map vB).take (k.toNat * 1) = ((encMd m.d).take k.toNat).map vB := by rw [Nat.mul_one, List.map_take]
    have rs : Rd W (BsR s (encMd m.d) :: l) ⟨s.a, k.toNat, s.cap⟩ 1 (((encMd m.d).take k.toNat).map vB) := by
      rw [← et]; exact Rd.hi Rd.own (by omega)
    refine appBytes h5 (rs w5 h5.tail) (by simp; omega) fun s2 w6 h6 => ?_
    rw [List.nil_append] at h6
    have htl : ((encMd m.d).take k.toNat).length ≤ 140737488355328 := by simp; omega
    refine decode_any h6 Rd.own htl fun m3 y3 w7 hd3 h7 => tup2v ?_
    have hbad := bad_cut hok (m := k.toNat) (by omega)
    have hy3 : y3 ≠ 0 := by
      rcases hd3 with ⟨hy, _⟩ | ⟨_, hb, _⟩
      · exact hy
      · exact absurd hbad hb
    refine newMs h7 _ fun a34 w8 h8 => ?_
    have h9 : Sat W w8 (BsR s (encMd m.d) :: l) := h8.sel 4 [3]
    refine emptyBytes h9 fun e2 w9 h10 => ?_
    refine appBytes h10 h10.tail.rdc (by simp; omega) fun s3 w10 h11 => ?_
    rw [List.nil_append] at h11
    refine appBytes h11 (hx2 w10 h11.tail.tail) (by omega) fun s4 w11 h12 => ?_
    refine decode_any h12 Rd.own (by simp; omega) fun m4 y4 w12 hd4 h13 => tup2v ?_
    refine newMs h13 _ fun a46 w13 h14 => ?_
    refine ifB_bne (fun _ => ?_) fun he => absurd he hy3
    have e3 : ((y4 == 0) == ((x2.len : Int) == 0)) = true := by
      by_cases hm0 : r = []
      · subst hm0
        simp only [List.length_nil] at hxl
        rw [List.append_nil] at hd4
        have hy4 : y4 = 0 := by
          rcases hd4 with ⟨_, hb, _⟩ | ⟨hy, _⟩
          · exact absurd hb (good_enc hok).1
          · exact hy
        rw [hy4, ← hxl]; rfl
      · have hm1 : 0 < r.length := List.length_pos_iff.2 hm0
        have hx0 : ((x2.len : Int) == 0) = false := by simp; omega
        have hy4 : y4 ≠ 0 := by
          rcases hd4 with ⟨hy, _⟩ | ⟨_, hb, _⟩
          · exact hy
          · exact absurd (bad_more hok hm0) hb
        have hy4' : (y4 == 0) = false := by simpa using hy4
        rw [hx0, hy4']; rfl
    rw [e3]
    exact hK w13 (h14.sel 4 [])
  · refine awake17_ok h3 fun w4 h4 => tyI ?_
    simp only [Bool.not_true, ifB_false]
    refine ifB_bne (fun hne => ?_) fun hc => ?_
    · refine awake17_ok h4 fun w5 h5 => tyI ?_
      simp only [ifB_true]
      have : (mE m != 0) = true := by simpa using hne
      rw [this]
      exact hK w5 h5.tail
    · have hc' : mE m = 0 := hc
      refine ifB_beq (fun hz => ?_) fun hz => ⟨hc', by omega, h4⟩
      have ed : mB m = encMd m.d := by rw [mB_1 hc', lyM_o hn hc']
      rw [ed] at hsl
      exact absurd hz (by show ¬ ((s.len : Nat) : Int) = 0; omega)
end
end Go.Proofs.Ytokogdigfohbeaa
