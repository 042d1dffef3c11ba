/- Layer 7: the law's first run; the laws of reading, cutting, holding apart. -/
import Derived.Test.YtcfgbboibgjlcaaQF
import Derived.Test.YtcfgbboibgjlcaaPkS7
namespace Go.Proofs.Ytcfgbboibgjlcaa
open Go Go.Pk
theorem tup2v {v : Value} {e : Int} {K : Value × Int × Unit → Prop} (h : K (v, e, ())) : TupP [.val, .int .i64] (.tuple #[v, .int .i64 e]) K := ⟨_, rfl, h⟩
section
variable {W w : World} {l : List Res} {K : Value → World → Prop} {d d1 d2 : Dc} {t : List UInt8}
/-- a fresh batch's variable takes a value -/
theorem newDc (h : Sat W w l) {K : Addr → World → Prop} (d : Dc) (hK : ∀ b w', Sat W w' (Blk b d.cells T_api_Batch :: l) → K ⟨b, 0, none⟩ w') :
    RunK .addr P (Instr.alloc T_api_Batch true (.tuple #[])) w fun a w1 => StoreP P T_api_Batch (.pointer (some a)) (.agg d.cells.toArray) w1 fun w2 => K a w2 :=
  allocB h (z := .agg zeroDc.cells.toArray) (by kernel_rfl) fun b w1 h1 => stAggB (cs := zeroDc.cells) (cs' := d.cells) h1 rfl (Dc.ones _) (by kernel_rfl) fun w2 h2 => hK b w2 h2
theorem cvS {s : Sl} {b : List UInt8} {K : ByteArray → World → Prop} (h : RdC w s 1 (b.map vB)) (hK : K ⟨b.toArray⟩ w) : RunK .str P (convert T_sl_uint8 T_string s.v) w K :=
  cvStr (e := T_uint8) (by kernel_rfl) (by kernel_rfl) (by kernel_rfl) h hK
theorem awake7_ok (h : Sat W w l) (hK : ∀ w', Sat W w' l → K (.bool true) w') : CallP P F_law07_awake [] w K := by
  apply c_law07_awake
  unfold S_law07_awake
  refine bsMark (cs := [vB 97]) (e := T_uint8) (n := 1) (by kernel_rfl) (by kernel_rfl) h (fun w => run_bs1 et_bytes rfl w) fun b w1 h1 => ?_
  refine bs1_vs h1 fun g w2 h2 => ?_
  let d0 : Dc := ⟨0, 0, 0, 0, 0, false, false, false, ⟨some ⟨g, 0, none⟩, 1, 1⟩, [⟨some ⟨b, 0, none⟩, 1, 1⟩], [[97]]⟩
  have hn : d0.num := by simp [Dc.num, d0]
  have hc : chk d0 = 0 := chk_eq0 (by simp [bad1, d0]) (by simp [bad7, d0]) (by simp [bad2, d0])
  have he : encB d0 = [0, 0, 0, 0, 0, 0, 0, 0, 1, 1, 97] := by
    simp [encB, headB, intB, zig, uintB_small, flagB, bytesB, d0]
  have hv : VRd W (Blk g [Sl.v ⟨some ⟨b, 0, none⟩, 1, 1⟩] T_sl_uint8 :: Blk b [vB 97] T_uint8 :: l) d0 := by
    refine ⟨Rd.blk rfl, rfl, fun i s b' h1 h2 => ?_⟩
    match i, h1, h2 with
    | 0, h1, h2 =>
      simp only [d0, List.getElem?_cons_zero, Option.some.injEq] at h1 h2
      subst h1; subst h2
      exact Rd.cons (Rd.blk rfl)
    | i + 1, h1, _ => simp [d0] at h1
  refine encode_ok (d := d0) h2 hn hv (fun h => absurd hc h) fun _ s w3 h3 => tup2 ?_
  have hr : Rd W (BsR s (encB d0) :: Blk g [Sl.v ⟨some ⟨b, 0, none⟩, 1, 1⟩] T_sl_uint8 :: Blk b [vB 97] T_uint8 :: l) s 1 ((encB d0).map vB) := Rd.own
  obtain ⟨hd0, hdd⟩ := dec_enc hn hc
  have hbs : (decD (encB d0)).bs = [[97]] := by
    have := hdd
    simp only [Dc.dat, Prod.mk.injEq] at this
    exact this.2.2.2.2.2.2.2.2
  refine decode_ok h3 hr (by rw [he]; decide) (fun h => absurd hd0 h) fun _ vs ss w4 hss h4 => tup2v ?_
  rw [hbs] at hss h4
  refine newDc h4 _ fun a w5 h5 => ?_
  refine ifB_beq (fun _ => ?_) fun h => absurd rfl h
  refine ifB_beq (fun _ => ?_) fun h => absurd rfl h
  refine cvS (h5.up 2).rdc ?_
  have e1 : (ByteArray.toList ⟨(encB d0).toArray⟩ == (ByteArray.mk #[0, 0, 0, 0, 0, 0, 0, 0, 1, 1, 97]).toList) = true := by
    rw [he]; exact (str_eq _ [0, 0, 0, 0, 0, 0, 0, 0, 1, 1, 97]).trans (by decide)
  rw [e1]
  have hvr : VRd W (VsR vs ss [[97]] :: Blk a (decV (encB d0) vs ss).cells T_api_Batch :: (BsR s (encB d0) :: Blk g [Sl.v ⟨some ⟨b, 0, none⟩, 1, 1⟩] T_sl_uint8 :: Blk b [vB 97] T_uint8 :: l)) { decV (encB d0) vs ss with bs := [[97]] } := VRd.own hss
  have hlen := hvr.len h5.swap
  refine ldB h5 (i := 8) (x := vs) ?_
  refine ifB_beq (fun _ => ?_) fun h => absurd (by show (vs.len : Int) = 1; have : vs.len = 1 := hlen.1; omega) h
  refine ldB h5 (i := 8) (x := vs) ?_
  refine hvr.ld (i := 0) h5.swap (by show 0 < 1; decide) fun s1 hs1 hs1l hr1 => ?_
  refine cvS (hr1 w5 h5.swap) ?_
  have e2 : (ByteArray.toList ⟨([97] : List UInt8).toArray⟩ == (ByteArray.mk #[97]).toList) = true := (str_eq _ [97]).trans (by decide)
  have := hK w5 h5.tail.tail.tail.tail.tail
  rw [← e2] at this
  exact this
end
end Go.Proofs.Ytcfgbboibgjlcaa
