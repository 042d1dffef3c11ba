/- Layer 8: the law SegOpens, walked. -/
import Derived.Test.YtbpcichakchpkaaGreatDoorTQ
namespace Go.Proofs.YtbpcichakchpkaaGreatDoor
open Go Go.Pk
def preN : List UInt8 := [108, 111, 103, 46, 48, 48, 48, 48, 48, 48]
theorem name_fin : ∀ x : Fin 256, preN ++ [UInt8.ofNat (48 + x.val / 10 % 10), UInt8.ofNat (48 + x.val % 10)] = segF logN ((x.val % 100 : Nat) : Int) := by decide +kernel
theorem f0_lit : f0 = [108, 111, 103, 46, 48, 48, 48, 48, 48, 48, 48, 48] := by decide +kernel
theorem byte_of {n : Int} (h0 : 0 ≤ n) (h1 : n < 10) : Value.int .u8 (IntKind.u8.wrap (48 + n)) = vB (UInt8.ofNat (48 + n.toNat)) := by
  obtain ⟨m, rfl⟩ : ∃ m : Nat, n = m := ⟨n.toNat, by omega⟩
  have e1 : IntKind.u8.wrap (48 + (m : Int)) = 48 + (m : Int) := by
    simp [IntKind.wrap, IntKind.signed, IntKind.bits]; omega
  have e2 : (UInt8.ofNat (48 + m)).toNat = 48 + m := by rw [UInt8.toNat_ofNat']; omega
  rw [e1]
  unfold vB
  have e3 : ((m : Int)).toNat = m := by omega
  rw [e3, e2]
  simp
section
variable {W w : World} {l : List Res} {K : Value → World → Prop}
set_option maxHeartbeats 2000000 in
theorem law_opens8 {s m : Sl} {xs : List Dc} {more : List UInt8} {x : Int} (h : Sat W w l) (hl : Lai W l) (hx : BsRd W l s xs) (hm : ∀ R, Rd W (R ++ l) m 1 (more.map vB)) (hml : more.length ≤ 1048576) (hx2 : 0 ≤ x ∧ x < 256) (hK : ∀ w', Sat W w' l → K (.bool true) w') :
    CallP P F_law08_SegOpens [s.v, m.v, .int .u8 x] w K := by
  apply c_law08_SegOpens
  unfold S_law08_SegOpens
  refine dkNew_ok h fun b w1 h1 => tyI (k := .ptr) ?_
  have hfew := hx.few
  have aw : ∀ {w : World} {L : List Res} (p : ∀ w', Sat W w' L → Sat W w' l) (hL : Lai W L), Sat W w L → CallP P F_law08_awake [] w fun (v41 : Value) w42 => TyP .bool v41 fun (b43 : Bool) => K (.bool b43) w42 := fun {w L} p hL hs =>
    awake8_ok hs hL fun w2 h2 => tyI (k := .bool) (hK w2 (p w2 h2))
  refine ⟨fun t w' => ∃ (j : Nat) (all : List Bd) (wl : List Dc), t.2.2.2.2.2.1 = j ∧ j ≤ xs.length ∧ Opn all (wl.map Dc.bd) t.2.1 ∧ t.2.2.2.1 = chEnd 0 (wl.map Dc.bd) ∧ t.2.2.2.2.1 = ((fsOf (wl.map Dc.bd)).length : Nat) ∧ all.length ≤ j ∧ wl.length ≤ j ∧ (∀ d ∈ wl, d ∈ xs) ∧
      Sat W w' (BsR t.1 (fsOf all) :: SlR T_api_Batch 9 t.2.2.1 (elB.flat wl) :: DkR b Dk.new :: l), fun t _ => xs.length - t.2.2.2.2.2.1.toNat,
    ⟨0, [], [], rfl, Nat.zero_le _, Opn.new, rfl, rfl, Nat.le_refl _, Nat.le_refl _, (fun d hd => by cases hd), ?_⟩, ?_⟩
  · exact Sat.nilSlr (Sat.nilSlr h1 T_api_Batch 9) T_uint8 1
  rintro ⟨t1, tw, t3, ta, ts, tj, u⟩ w5 ⟨j, all, wl, hj, hjl, hop, hat, hsz, hal, hwl, hsub, h2⟩
  simp only at hj hat hsz h2 ⊢
  subst hj; subst hat; subst hsz
  have hsl := hx.len (R := BsR t1 (fsOf all) :: SlR T_api_Batch 9 t3 (elB.flat wl) :: DkR b Dk.new :: []) h2
  have hfa := fsOf_le all hop.ok
  have hfw : (fsOf (wl.map Dc.bd)).length ≤ 2008 * wl.length := by
    have := fsOf_le (wl.map Dc.bd) (fun y hy => by
      have hch := hop.ch
      exact chain_ok _ _ hch y hy)
    simpa using this
  refine ifB_dec (fun c => ?_) fun c => ?_
  · have hjx : xs[j]? = some xs[j] := List.getElem?_eq_getElem (by omega)
    have hmem := List.mem_of_getElem? hjx
    generalize xs[j] = d at hjx hmem
    obtain ⟨hv, hnum, hb1, hb2⟩ := hx.el d hmem
    refine hx.at (R := BsR t1 (fsOf all) :: SlR T_api_Batch 9 t3 (elB.flat wl) :: DkR b Dk.new :: []) hjx h2 ?_
    refine allocB h2 (z := .agg zeroDc.cells.toArray) (by kernel_rfl) fun a8 w9 h3 => ?_
    have h3 : Sat W w9 (Blk a8 zeroDc.cells T_api_Batch :: BsR t1 (fsOf all) :: SlR T_api_Batch 9 t3 (elB.flat wl) :: DkR b Dk.new :: l) := h3
    refine stAggB h3 (cs' := d.cells) rfl d.ones (by kernel_rfl) fun w10 h4 => ?_
    refine ldAggB h4 (cs := d.cells) (by kernel_rfl) ?_
    rw [w_i64 (n := (j : Int) + 1) (by omega) (by omega)]
    refine rencode_ok h4 hnum (hv (Blk a8 d.cells T_api_Batch :: BsR t1 (fsOf all) :: SlR T_api_Batch 9 t3 (elB.flat wl) :: DkR b Dk.new :: [])) (fun hne w13 h5 => ⟨(⟨none, 0, 0⟩, chk d, ()), rfl, ?_⟩) fun hck s2 w13 h5 => tup2 ?_
    · refine ifB_bne (fun _ => ?_) fun c2 => absurd c2 hne
      exact ⟨⟨j + 1, all, wl, by show (j : Int) + 1 = _; omega, by omega, hop, rfl, rfl, by omega, by omega, hsub, h5.tail⟩, by show xs.length - ((j : Int) + 1).toNat < xs.length - (j : Int).toNat; omega⟩
    · refine ifB_bne (fun c2 => absurd rfl c2) fun _ => ?_
      have hel := encB_len hnum hck
      refine rframe_ok (p := encB d) h5 Rd.own (by omega) fun s3 w16 h6 => tup2 ?_
      have h7 : Sat W w16 (BsR t1 (fsOf all) :: BsR s3 (frm (encB d)) :: Blk a8 d.cells T_api_Batch :: SlR T_api_Batch 9 t3 (elB.flat wl) :: DkR b Dk.new :: l) := h6.sel 6 [3, 0, 2, 4, 5]
      have hfl : (frm (encB d)).length ≤ 2008 := by rw [frm_len]; omega
      refine appBytes h7 (Sat.rdc (h7.up 1)) (by omega) fun s18 w19 h8 => ?_
      have e18 : fsOf all ++ frm (encB d) = fsOf (all ++ [d.bd]) := by rw [fsOf_app, fsOf_one]; rfl
      rw [e18] at h8
      have hok : d.bd.ok := ⟨hck, hnum⟩
      have hadd := hop.add (b := d.bd) hok
      have hl18 := Sat.bsLen h8
      have hl18b := hl18.1
      rw [← e18, List.length_append] at hl18b
      refine ⟨fun t w' => t.1 = (tw && (d.ba == chEnd 0 (wl.map Dc.bd))) ∧ w' = w19, ?_, ?_⟩
      · rintro ⟨tb, uu⟩ w22 ⟨htb, rfl⟩
        simp only at htb ⊢
        refine ifB_intro (fun hc => ?_) fun hc => ?_
        · have hh : tw = true ∧ d.bd.ba = chEnd 0 (wl.map Dc.bd) := by
            rw [hc] at htb
            have := htb.symm
            rw [Bool.and_eq_true, beq_iff_eq] at this
            exact this
          have hop2 := hadd.1 hh
          have h9 : Sat W w22 (Blk a8 d.cells T_api_Batch :: BsR s18 (fsOf (all ++ [d.bd])) :: SlR T_api_Batch 9 t3 (elB.flat wl) :: DkR b Dk.new :: l) := h8.sel 5 [2, 0, 3, 4]
          refine ldAggB h9 (cs := d.cells) (by kernel_rfl) ?_
          refine bsB h9 (cs := d.cells) (e := T_api_Batch) (fun w => by kernel_rfl) fun gb w26 h10 => ?_
          have hlw := (h10.up 3).slLen.1
          have hfl2 : (elB.flat wl).length = wl.length * 9 := flat_length (E := elB) wl
          refine appB et_batches (by decide) (s := t3) (x := ⟨some ⟨gb, 0, none⟩, 1, 1⟩) (news := d.cells) (h10.up 3) (rdBlk ((h10.up 3).up 1) rfl) d.ones (by show (t3.len + 1) * _ ≤ _; omega) (by show t3.len + 1 < _; omega) fun s27 w28 h11 _ => ?_
          have e7 : elB.flat wl ++ d.cells = elB.flat (wl ++ [d]) := by rw [flat_app, flat_one]; rfl
          rw [e7] at h11
          have h12 : Sat W w28 (Blk a8 d.cells T_api_Batch :: BsR s18 (fsOf (all ++ [d.bd])) :: SlR T_api_Batch 9 s27 (elB.flat (wl ++ [d])) :: DkR b Dk.new :: l) := h11.sel 5 [2, 3, 0, 4]
          refine ldAggB h12 (cs := d.cells) (by kernel_rfl) ?_
          have hcm := chain_mem _ _ hop2.ch
          have hfin : chEnd 0 (wl.map Dc.bd ++ [d.bd]) = d.bd.fin := by rw [chEnd_app]; rfl
          have hdm := hcm.2.2 d.bd (by simp)
          have hwll : (wl.map Dc.bd ++ [d.bd]).length = wl.length + 1 := by simp
          refine lend_ok (d := d) h12 (hv (Blk a8 d.cells T_api_Batch :: BsR s18 (fsOf (all ++ [d.bd])) :: SlR T_api_Batch 9 s27 (elB.flat (wl ++ [d])) :: DkR b Dk.new :: [])) (by omega) ⟨hdm.1, by omega⟩ fun w31 h13 => tyI (k := .int .i64) ?_
          have hall : all = wl.map Dc.bd := hop.yes hh.1
          refine ⟨⟨j + 1, all ++ [d.bd], wl ++ [d], by show (j : Int) + 1 = _; omega, by omega, ?_, ?_, ?_, by simp; omega, by simp; omega, ?_, h13.tail⟩, by show xs.length - ((j : Int) + 1).toNat < xs.length - (j : Int).toNat; omega⟩
          · rw [List.map_append, hc]; exact hop2
          · rw [List.map_append]; exact hfin.symm
          · show ((s18.len : Nat) : Int) = _
            rw [List.map_append]
            show ((s18.len : Nat) : Int) = ((fsOf (wl.map Dc.bd ++ [d.bd])).length : Nat)
            rw [← hall, ← hl18.1]
          · intro y hy
            rcases List.mem_append.1 hy with hy | hy
            · exact hsub y hy
            · rw [List.mem_singleton.1 hy]; exact hmem
        · have hh : ¬ (tw = true ∧ d.bd.ba = chEnd 0 (wl.map Dc.bd)) := fun hh => by
            have : (tw && (d.ba == chEnd 0 (wl.map Dc.bd))) = true := by rw [Bool.and_eq_true, beq_iff_eq]; exact hh
            rw [htb, this] at hc; cases hc
          have hop2 := hadd.2 hh
          rw [hc]
          exact ⟨⟨j + 1, all ++ [d.bd], wl, by show (j : Int) + 1 = _; omega, by omega, hop2, rfl, rfl, by simp; omega, by omega, hsub, h8.sel 5 [0, 3, 4]⟩, by show xs.length - ((j : Int) + 1).toNat < xs.length - (j : Int).toNat; omega⟩
      · refine ifB_intro (fun hc => ?_) fun hc => ?_
        · refine ldX (h8.up 2) 0 (x := d.ba) ?_
          rw [hc]; exact ⟨by simp, rfl⟩
        · rw [hc]; exact ⟨by simp, rfl⟩
  · refine appBytes h2 (hm (BsR t1 (fsOf all) :: SlR T_api_Batch 9 t3 (elB.flat wl) :: DkR b Dk.new :: []) _ h2) (by omega) fun s33 w34 h3 => ?_
    have hl33 := (Sat.bsLen h3).1
    have hwl2 : (wl.map Dc.bd).length = wl.length := by simp
    generalize hwant : wl.map Dc.bd = want at *
    obtain ⟨rest, hrest, hr1, hr2⟩ := hop.rest more
    rw [hrest] at h3 hl33
    have hcm := chain_mem _ _ hop.ch
    refine ⟨fun _ w' => (fsOf want ++ rest).length ≤ 262144 ∧ stepS (fsOf want ++ rest) (mkSg 0 f0 want) = none ∧ Sat W w' (BsR s33 (fsOf want ++ rest) :: SlR T_api_Batch 9 t3 (elB.flat wl) :: DkR b Dk.new :: l), ?_, ?_⟩
    · rintro _ w37 ⟨hlen, hstop, h4⟩
      obtain ⟨y, rfl⟩ : ∃ y : Nat, x = y := ⟨x.toNat, by omega⟩
      have hy : y < 256 := by omega
      have hv : (0 : Int) ≤ ((y % 100 : Nat) : Int) ∧ ((y % 100 : Nat) : Int) < 100 := by omega
      have t1 : Int.tdiv (y : Int) 10 = ((y / 10 : Nat) : Int) := by rw [Int.tdiv_eq_ediv_of_nonneg (by omega)]; omega
      have t2 : Int.tmod (y : Int) 10 = ((y % 10 : Nat) : Int) := by rw [Int.tmod_eq_emod_of_nonneg (by omega)]; omega
      have t3' : Int.tmod (y : Int) 100 = ((y % 100 : Nat) : Int) := by rw [Int.tmod_eq_emod_of_nonneg (by omega)]; omega
      have t4' : IntKind.u8.wrap (((y / 10 : Nat)) : Int) = ((y / 10 : Nat) : Int) := by simp [IntKind.wrap, IntKind.signed, IntKind.bits]; omega
      have t5 : Int.tmod (((y / 10 : Nat)) : Int) 10 = ((y / 10 % 10 : Nat) : Int) := by rw [Int.tmod_eq_emod_of_nonneg (by omega)]; omega
      rw [t1, t4', t5, t2, t3']
      have q1 := byte_of (n := ((y / 10 % 10 : Nat) : Int)) (by omega) (by omega)
      have q2 := byte_of (n := ((y % 10 : Nat) : Int)) (by omega) (by omega)
      rw [Int.toNat_natCast] at q1 q2
      rw [q1, q2]
      refine bsB h4 (cs := [UInt8.ofNat (48 + y / 10 % 10), UInt8.ofNat (48 + y % 10)].map vB) (e := T_uint8) (fun w => by kernel_rfl) fun gb w63 h5 => ?_
      refine cvStr (t := T_sl_uint8) (e := T_uint8) (ts := T_string) (by kernel_rfl) (by kernel_rfl) (by kernel_rfl) (b := [UInt8.ofNat (48 + y / 10 % 10), UInt8.ofNat (48 + y % 10)]) (rdBlk h5 rfl) ?_
      refine strAddK (x := preN) (y := [UInt8.ofNat (48 + y / 10 % 10), UInt8.ofNat (48 + y % 10)]) (by show 10 + 2 ≤ _; decide) ?_
      rw [name_fin ⟨y, hy⟩]
      simp only
      generalize hvv : ((y % 100 : Nat) : Int) = v at *
      have hlit := f0_lit
      have str0 : ∀ n : List UInt8, (ByteArray.toList (vK n) == (ByteArray.mk #[108, 111, 103, 46, 48, 48, 48, 48, 48, 48, 48, 48]).toList) = decide (n = f0) := fun n => by
        rw [hlit]
        exact str_eq n [108, 111, 103, 46, 48, 48, 48, 48, 48, 48, 48, 48]
      have hname : segF logN v = f0 ↔ v = 0 := by
        constructor
        · intro e; exact segF_inj logN hv.1 (by omega) (Int.le_refl _) (by decide) e
        · intro e; rw [e]; rfl
      have lit : (ByteArray.mk #[108, 111, 103, 46, 48, 48, 48, 48, 48, 48, 48, 48]) = vK f0 := by rw [hlit]
      refine ⟨fun _ w' => Sat W w' (DkR b (dO (fsOf want ++ rest) v) :: BsR s33 (fsOf want ++ rest) :: SlR T_api_Batch 9 t3 (elB.flat wl) :: l), ?_, ?_⟩
      · rintro _ w70 h6
        have hok : DkOk (dO (fsOf want ++ rest) v) := by obtain ⟨_, _, _, hok, _⟩ := sat_dk.1 h6; exact hok
        obtain ⟨gs, p1, p2, p3, p4, p5, p6, ⟨sy, p7⟩, p8⟩ := opens_plain hv hop.ch hstop hlen
        have hnm : NmOk logN (dO (fsOf want ++ rest) v) := fun f hf v2 hv2 => by
          unfold Dk.names dO at hf
          have : f = f0 ∨ f = segF logN v := by
            simp only at hf
            split at hf
            · left; simpa using hf
            · simpa using hf
          rcases this with rfl | rfl
          · rw [f0_base] at hv2; cases hv2; decide
          · rw [fileBase_segF logN hv.1 (by omega)] at hv2; cases hv2; omega
        refine open_ok (n := logN) h6 hl.cons.cons rfl logN_ok hnm hok.many (fun f hf => by
          obtain ⟨p, hp, rfl⟩ := List.mem_map.1 hf
          have := hok.name p hp
          omega) fun a w78 hI hsn h7 => tup2p ?_
        have hfw2 : want.length ≤ 2097152 := by omega
        have hfit := mem_fit p1 p4 (by rw [p2]; exact hfw2)
        have h8 : Sat W w78 (DkR b (opDk logN (dO (fsOf want ++ rest) v)) :: LgR a b (opLg logN (dO (fsOf want ++ rest) v)) :: BsR s33 (fsOf want ++ rest) :: SlR T_api_Batch 9 t3 (elB.flat wl) :: l) := h7.swap
        have hfind := find_live p6 p7
        rw [lit]
        refine dsize_ok h8 (fun e w' he => by rw [hfind] at he; cases he) fun f w81 he h9 => ?_
        rw [hfind] at he
        obtain rfl : (⟨fsOf want, sy⟩ : Fl) = f := Option.some.inj (congrArg Prod.fst he)
        refine ⟨(((fsOf want).length : Int), sy, 0, ()), rfl, ?_⟩
        simp only
        have h10 := h9.swap
        refine ⟨fun _ w' => Sat W w' (LgR a b (opLg logN (dO (fsOf want ++ rest) v)) :: DkR b (opDk logN (dO (fsOf want ++ rest) v)) :: BsR s33 (fsOf want ++ rest) :: SlR T_api_Batch 9 t3 (elB.flat wl) :: l), ?_, ?_⟩
        · rintro _ w85 h11
          refine ⟨fun t w' => t.1 = decide (v ≠ 0 ∧ rest = [] ∧ v = chEnd 0 want) ∧ w' = w85, ?_, ?_⟩
          · rintro ⟨tb, uu⟩ w97 ⟨htb, rfl⟩
            simp only at htb ⊢
            subst htb
            have h12 := h11.swap
            have hlen1 : (srt (opDk logN (dO (fsOf want ++ rest) v)).names).length = (opDk logN (dO (fsOf want ++ rest) v)).names.length := by simp [srt]
            refine names_ok h12 fun s100 w99 h13 => tyI (k := .sl) ?_
            have hl100 := (h13.slLen).1
            simp only [List.length_map, Nat.mul_one] at hl100
            rw [hlen1, p8] at hl100
            refine ifB_beq (fun c1 => ?_) fun c1 => ?_
            · refine ifB_intro (fun _ => hK w99 (h13.sel 5 [])) fun c2 => ?_
              exfalso
              rw [if_pos (by simpa using c2)] at hl100
              omega
            · have hyes : v ≠ 0 ∧ rest = [] ∧ v = chEnd 0 want := Classical.byContradiction fun hn => by rw [if_neg hn] at hl100; omega
              refine names_ok h13.tail fun s106 w105 h14 => tyI (k := .sl) ?_
              have hl106 := (h14.slLen).1
              simp only [List.length_map, Nat.mul_one] at hl106
              rw [hlen1, p8, if_pos hyes] at hl106
              refine ifB_beq (fun _ => ?_) fun c2 => absurd (by omega) c2
              have := hK w105 (h14.sel 5 [])
              rw [decide_eq_true hyes]; exact this
          · have e100 : IntKind.i64.wrap v = v := w_i64 (by omega) (by omega)
            rw [e100]
            have hlr : (fsOf want ++ rest).length = (fsOf want).length + rest.length := by simp
            have hrn : rest = [] ↔ rest.length = 0 := by rw [List.length_eq_zero_iff]
            refine ifB_beq (fun c1 => ?_) fun c1 => ?_
            · refine ifB_beq (fun c2 => ?_) fun c2 => ?_
              · refine ⟨?_, rfl⟩
                show (!(ByteArray.toList (vK (segF logN v)) == (vK f0).toList)) = _
                rw [← lit, str0]
                have hr0 : rest = [] := hrn.2 (by omega)
                by_cases h0 : v = 0
                · rw [decide_eq_true (hname.2 h0), decide_eq_false (fun h => h.1 h0)]; rfl
                · rw [decide_eq_false (fun h => h0 (hname.1 h)), decide_eq_true ⟨h0, hr0, c1⟩]; rfl
              · refine ⟨?_, rfl⟩
                show false = _
                rw [decide_eq_false]
                rintro ⟨_, h2, _⟩
                apply c2
                rw [h2, List.append_nil] at hl33
                omega
            · refine ⟨?_, rfl⟩
              show false = _
              rw [decide_eq_false]
              rintro ⟨_, _, h3⟩
              exact c1 h3
        · refine ifB_intro (fun c => absurd c (by simp)) fun _ => ?_
          refine ifB_bne (fun c => absurd rfl c) fun _ => ?_
          refine ifB_bne (fun c => absurd rfl c) fun _ => ?_
          refine ifB_bne (fun c => absurd rfl c) fun _ => ?_
          refine fin_ok h10 hfit.b fun w87 h11 => tyI (k := .int .i64) ?_
          have hfin : (opLg logN (dO (fsOf want ++ rest) v)).fin = chEnd 0 want := by rw [mem_fin p1, p3]
          refine ifB_bne (fun c => absurd hfin c) fun _ => ?_
          refine read_ok (frm := 0) (n := 1048576) h11 hfit.b hfit.c hfit.n (hfit.q 0) hfit.r fun s91 w90 h12 => tyI (k := .sl) ?_
          obtain ⟨es, hes, h13⟩ := sat_bt.1 h12
          have hrd : (opLg logN (dO (fsOf want ++ rest) v)).read 0 1048576 = want := by
            unfold Lg.read
            rw [p1.segs, segB_gs fun p hp => (gch_mem p1.chain hp).1, p2]
            unfold behind
            rw [filter_all]
            · rw [List.take_of_length_le]
              show want.length ≤ 1048576
              omega
            · intro z hz
              have := hcm.2.2 z hz
              exact decide_eq_true (by omega)
          have hee : es.map Dc.bd = wl.map Dc.bd := by rw [hes, hrd, hwant]
          have hel : es.length = wl.length := by have := congrArg List.length hee; simpa using this
          refine samelist_ok (es := es) (fs := wl) h13 Rd.ownS (Rd.own (T := T_api_Batch) (l := l)).cons.cons.cons.cons (fun e he => ?_) (fun e he => ?_) (fun e he => ?_) (by omega) fun w93 h14 => tyI (k := .bool) ?_
          · obtain ⟨i, hi⟩ := List.getElem?_of_mem he
            exact (bt_rd hi h13).1
          · exact (hx.el e (hsub e he)).1 (OwnS elB s91 es :: LgR a b (opLg logN (dO (fsOf want ++ rest) v)) :: DkR b (opDk logN (dO (fsOf want ++ rest) v)) :: BsR s33 (fsOf want ++ rest) :: SlR T_api_Batch 9 t3 (elB.flat wl) :: [])
          · have : e.bd ∈ want := by
              have h1 : e.bd ∈ es.map Dc.bd := List.mem_map_of_mem he
              rw [hee, hwant] at h1; exact h1
            exact Bd.small (x := e.bd) (chain_ok _ _ hop.ch _ this).1
          · rw [@decide_eq_true _ (Classical.propDecidable _) hee]
            refine ifB_intro (fun c => absurd c (by simp)) fun _ => ?_
            exact h14.tail
      · rw [lit]
        have h6 : Sat W w63 (DkR b Dk.new :: BsR s33 (fsOf want ++ rest) :: SlR T_api_Batch 9 t3 (elB.flat wl) :: l) := h5.sel 4 [3, 1, 2]
        refine dappend_ok h6 Rd.own (by omega) fun w72 h7 => tyI (k := .int .i64) ?_
        rw [dO_append hlen] at h7 ⊢
        refine ifB_bne (fun c => absurd rfl c) fun _ => ?_
        rw [← lit, str0]
        by_cases h0 : v = 0
        · rw [decide_eq_true (hname.2 h0)]
          refine ifB_intro (fun c => absurd c (by simp)) fun _ => ?_
          rw [h0]; exact h7
        · rw [decide_eq_false (fun h => h0 (hname.1 h))]
          refine ifB_intro (fun _ => ?_) fun c => absurd c (by simp)
          refine dappend_ok (n := segF logN v) (bs := []) (x := ⟨none, 0, 0⟩) h7 (Rd.nil rfl) (by decide) fun w75 h8 => tyI (k := .int .i64) ?_
          rw [dO_append2 hlen hv h0] at h8 ⊢
          refine ifB_bne (fun c => absurd rfl c) fun _ => h8
    · have hd1 : (fsOf want ++ rest).drop (fsOf want).length = rest := List.drop_left
      refine rdec_ok (b := fsOf want ++ rest) (at_ := (fsOf want).length) h3 Rd.own (by rw [← hrest, List.length_append]; omega) (by rw [List.length_append]; omega) fun sp np w39 h5 => ?_
      rw [hd1]
      refine ⟨(sp, np, (fdec rest).2.2, ()), rfl, ?_⟩
      simp only
      have hls : ((s33.len : Nat) : Int) = (fsOf want ++ rest).length := by omega
      have pl : ∀ w', Sat W w' (BsR s33 (fsOf want ++ rest) :: SlR T_api_Batch 9 t3 (elB.flat wl) :: DkR b Dk.new :: l) → Sat W w' l := fun w' h => h.sel 3 []
      refine ifB_intro (fun htw => ?_) fun htw => ?_
      · refine ifB_beq (fun _ => aw pl hl.cons.cons.cons h5) fun c2 => ?_
        refine awake8_ok h5 hl.cons.cons.cons fun w45 h6 => tyI (k := .bool) ?_
        refine ifB_intro (fun c => absurd c (by simp)) fun _ => ?_
        refine ifB_dec (fun _ => aw pl hl.cons.cons.cons h6) fun c3 => ?_
        refine ⟨by omega, ?_, h6⟩
        have hrm := hr1 htw
        rw [hrm] at c2 ⊢
        exact stop_more c2
      · refine awake8_ok h5 hl.cons.cons.cons fun w45 h6 => tyI (k := .bool) ?_
        refine ifB_intro (fun c => absurd c (by simp)) fun _ => ?_
        refine ifB_dec (fun _ => aw pl hl.cons.cons.cons h6) fun c3 => ?_
        exact ⟨by omega, hr2 htw, h6⟩
end
end Go.Proofs.YtbpcichakchpkaaGreatDoor
