/- Layer 8: the law SegNames, walked. -/
import Derived.Test.YtbpcichakchpkaaGreatDoorTN
namespace Go.Proofs.YtbpcichakchpkaaGreatDoor
open Go Go.Pk
section
variable {W w : World} {l : List Res} {K : Value → World → Prop}
theorem str_at {n : List UInt8} {i : Nat} {c : UInt8} (hi : n[i]? = some c) {k : IntKind} {Kx : Int → Prop} (hK : Kx (c.toNat : Int)) : RunQ (.int .u8) P (Instr.index T_string (.string (vK n)) (.int k (i : Int))) w Kx := by
  obtain ⟨hlt, hc⟩ := List.getElem?_eq_some_iff.1 hi
  have hsz : (vK n).size = n.length := by show n.toArray.size = _; simp
  refine ⟨(c.toNat : Int), ?_, hK⟩
  rw [run_index_string w T_string (vK n) k i (by kernel_rfl), dif_pos ⟨by omega, by omega⟩]
  have e : (vK n)[((i : Int)).toNat]'(by omega) = c := by
    show n.toArray[((i : Int)).toNat]'_ = c
    simp [hc]
  simp only [e]
def goodN (n : List UInt8) : Prop := n ≠ [] ∧ n.length ≤ 8 ∧ ¬ 46 ∈ n
/-- the law's look at a name -/
theorem goodLoop_ok {n : List UInt8} {b : Bool} {Kn : Bool × Int × Unit → World → Prop} (hn : n.length < 9223372036854775807) (hK : ∀ j g, (g = true ↔ b = true ∧ ¬ 46 ∈ n) → Kn (g, j, ()) w) :
    LoopP (T := Bool × Int × Unit) (some (b, (0, ()))) w fun next6 t7 w8 =>
      ifB (decide (t7.snd.fst < (↑(ByteArray.size (vK n)) : Int)))
       (ifB t7.fst
        (RunQ (.int .u8) P (Instr.index T_string (.string (vK n)) (.int .i64 t7.snd.fst)) w8 fun (n9 : Int) =>
         next6 (some ((n9 != 46), ((IntKind.i64.wrap (t7.snd.fst + 1)), ()))) w8)
        (next6 (some (false, ((IntKind.i64.wrap (t7.snd.fst + 1)), ()))) w8))
       (Kn t7 w8) := by
  have hsz : (vK n).size = n.length := by show n.toArray.size = _; simp
  refine ⟨fun t w' => ∃ j : Nat, t.2.1 = j ∧ j ≤ n.length ∧ (t.1 = true ↔ b = true ∧ ¬ 46 ∈ n.take j) ∧ w = w', fun t _ => n.length - t.2.1.toNat, ⟨0, rfl, Nat.zero_le _, by simp, rfl⟩, ?_⟩
  rintro ⟨g, tj, u⟩ w2 ⟨j, hj, hjl, hg, hw⟩
  simp only at hj hg ⊢
  subst hj; subst hw
  refine ifB_dec (fun c => ?_) fun c => ?_
  · have hlt : j < n.length := by omega
    have hjn : n[j]? = some n[j] := List.getElem?_eq_getElem hlt
    generalize n[j] = x at hjn
    have htk : n.take (j + 1) = n.take j ++ [x] := take_next hjn
    have e1 : (46 ∈ n.take (j + 1)) ↔ (46 ∈ n.take j ∨ x = 46) := by
      rw [htk, List.mem_append, List.mem_singleton]
      constructor
      · rintro (h | h)
        · exact .inl h
        · exact .inr h.symm
      · rintro (h | h)
        · exact .inl h
        · exact .inr h.symm
    rw [w_i64 (n := (j : Int) + 1) (by omega) (by omega)]
    refine ifB_intro (fun hgt => ?_) fun hgf => ?_
    · refine str_at hjn ?_
      refine ⟨⟨j + 1, by show (j : Int) + 1 = _; omega, by omega, ?_, rfl⟩, by show n.length - ((j : Int) + 1).toNat < n.length - (j : Int).toNat; omega⟩
      have h1 := hg.1 hgt
      show ((x.toNat : Int) != 46) = true ↔ _
      have hx : ((x.toNat : Int) != 46) = true ↔ x ≠ 46 := by
        rw [bne_iff_ne]
        constructor
        · intro h e; subst e; exact h rfl
        · intro h e
          apply h
          apply UInt8.toNat_inj.1
          have : x.toNat = 46 := by omega
          rw [this]; rfl
      rw [hx, e1]
      constructor
      · intro h; exact ⟨h1.1, fun h2 => h2.elim h1.2 h⟩
      · intro h; exact fun h2 => h.2 (.inr h2)
    · refine ⟨⟨j + 1, by show (j : Int) + 1 = _; omega, by omega, ?_, rfl⟩, by show n.length - ((j : Int) + 1).toNat < n.length - (j : Int).toNat; omega⟩
      show false = true ↔ _
      rw [e1]
      have h1 : ¬ (b = true ∧ ¬ 46 ∈ n.take j) := fun h => by rw [hg.2 h] at hgf; cases hgf
      constructor
      · intro h; cases h
      · intro h; exact absurd ⟨h.1, fun h2 => h.2 (.inl h2)⟩ h1
  · have e : n.take j = n := List.take_of_length_le (by omega)
    rw [e] at hg
    exact hK _ _ hg
def nextN (n : List UInt8) : List UInt8 := n.drop 1 ++ [95]
theorem nextN_ok {n : List UInt8} (h : goodN n) : goodN (nextN n) := by
  obtain ⟨h1, h2, h3⟩ := h
  refine ⟨by unfold nextN; simp, ?_, ?_⟩
  · unfold nextN
    have : 0 < n.length := List.length_pos_iff.2 h1
    simp; omega
  · unfold nextN
    intro h
    rcases List.mem_append.1 h with h | h
    · exact h3 (List.mem_of_mem_drop h)
    · simp at h
set_option maxHeartbeats 2000000 in
theorem law_names8 {n : List UInt8} {s t : Sl} {xs ys : List Dc} (h : Sat W w l) (hl : Lai W l) (hx : BsRd W l s xs) (hy : BsRd W l t ys) (hnl : n.length ≤ 1048576) (hK : ∀ w', Sat W w' l → K (.bool true) w') :
    CallP P F_law08_SegNames [.string (vK n), s.v, t.v] w K := by
  apply c_law08_SegNames
  unfold S_law08_SegNames
  have hsz : (vK n).size = n.length := by show n.toArray.size = _; simp
  refine dkNew_ok h fun b w1 h1 => tyI (k := .ptr) ?_
  refine ⟨fun t w' => (t.1 = true ↔ n ≠ [] ∧ n.length ≤ 8) ∧ w' = w1, ?_, ?_⟩
  · rintro ⟨gb, u⟩ w5 ⟨hgb, rfl⟩
    simp only at hgb ⊢
    refine goodLoop_ok (Kn := fun t w => _) (by omega) fun j7 g7 hg7 => ?_
    simp only
    have hgood : g7 = true ↔ goodN n := by
      rw [hg7, hgb]; unfold goodN
      constructor
      · rintro ⟨⟨a, b⟩, c⟩; exact ⟨a, b, c⟩
      · rintro ⟨a, b, c⟩; exact ⟨⟨a, b⟩, c⟩
    cases g7 with
    | false =>
      have hbad : ¬ goodN n := fun h => by have := hgood.2 h; cases this
      refine openBad_ok (n := n) h1 (by
        unfold goodN at hbad
        by_cases h1 : n = []
        · exact .inl h1
        · by_cases h2 : 8 < n.length
          · exact .inr (.inl h2)
          · by_cases h3 : 46 ∈ n
            · exact .inr (.inr h3)
            · exact absurd ⟨h1, by omega, h3⟩ hbad) fun w11 h2 => tup2p ?_
      refine ⟨fun _ _ => False, fun _ _ h => h.elim, ?_⟩
      refine awake8_ok h2 hl.cons fun w17 h3 => tyI (k := .bool) ?_
      refine ifB_intro (fun c => absurd c (by simp)) fun _ => ?_
      refine ifB_intro (fun c => absurd c (by simp)) fun _ => ?_
      refine ifB_intro (fun _ => ?_) fun c => absurd c (by simp)
      refine awake8_ok h3 hl.cons fun w26 h4 => tyI (k := .bool) ?_
      exact hK w26 h4.tail
    | true =>
      have hgn : goodN n := hgood.1 rfl
      have hmn := nextN_ok hgn
      refine open_ok (n := n) h1 hl rfl hgn (fun f hf => by simp [Dk.new, Dk.names] at hf) (by simp [Dk.new]) (fun f hf => by simp [Dk.new, Dk.names] at hf) fun a w11 _ _ h2 => tup2p ?_
      rw [(open_new n).1, (open_new n).2] at h2
      refine ⟨fun _ w' => Sat W w' (LgR a b ⟨n, [], 0⟩ :: DkR b Dk.new :: l), ?_, ?_⟩
      · rintro _ w15 h3
        have hlen1 : 1 ≤ n.length := List.length_pos_iff.2 hgn.1
        have nx : ∀ {w : World} {Kx : ByteArray → World → Prop}, Kx (vK (nextN n)) w → RunQ .str P (Instr.sliceAt T_string (.string (vK n)) (some (.int .i64 1)) none none) w fun (t28 : ByteArray) =>
            RunK .str P (do (eqGuard .add T_string (.tmp 0) (.const (.string (ByteArray.mk #[95]))) (.string t28) (.string (ByteArray.mk #[95]))); (binOp .add T_string (.string t28) (.string (ByteArray.mk #[95])))) w fun (t29 : ByteArray) w30 => Kx t29 w30 := fun {w Kx} hk => by
          refine ⟨vK (n.drop 1), ?_, ?_⟩
          · rw [run_strLo (P := P) (ts := T_string) (by kernel_rfl) (by omega) (by omega)]
            have := vK_drop n 1
            rw [← this]; rfl
          · exact strAddK (x := n.drop 1) (y := [95]) (by have := hgn.2.1; simp; omega) hk
        refine nx ?_
        refine open_ok (n := nextN n) h3.swap (l := LgR a b ⟨n, [], 0⟩ :: l) hl.cons rfl hmn (fun f hf => by simp [Dk.new, Dk.names] at hf) (by simp [Dk.new]) (fun f hf => by simp [Dk.new, Dk.names] at hf) fun a2 w32 _ _ h4 => tup2p ?_
        rw [(open_new (nextN n)).1, (open_new (nextN n)).2] at h4
        refine ⟨fun _ w' => Sat W w' (LgR a2 b ⟨nextN n, [], 0⟩ :: DkR b Dk.new :: LgR a b ⟨n, [], 0⟩ :: l), ?_, ?_⟩
        · rintro _ w36 h5
          refine ⟨fun t w' => ∃ (j : Nat) (g g2 : Lg) (d : Dk) (gs gs2 : Gr), t.1 = j ∧ j ≤ 1048576 ∧ Two n (nextN n) g g2 d gs gs2 (2 * j) ∧ Sat W w' (LgR a2 b g2 :: DkR b d :: LgR a b g :: l), fun t _ => 1048577 - t.1.toNat,
            ⟨0, _, _, _, [], [], rfl, Nat.zero_le _, ⟨(lay_new n).mem, (lay_new _).mem, ⟨Nat.le_refl _, Nat.le_refl _⟩, ⟨rfl, rfl⟩, fun _ => ⟨lay_new n, lay_new _, rfl, rfl⟩⟩, h5⟩, ?_⟩
          rintro ⟨tj, u⟩ w39 ⟨j, g, g2, d, gs, gs2, hj, hjl, hT, h6⟩
          simp only at hj ⊢
          subst hj
          have hft := (hT.fit (by omega)).1
          have hft2 := (hT.swap.fit (by omega)).1
          have hsl := hx.len (R := LgR a2 b g2 :: DkR b d :: LgR a b g :: []) h6
          have htl := hy.len (R := LgR a2 b g2 :: DkR b d :: LgR a b g :: []) h6
          have hxf := hx.few
          have hyf := hy.few
          refine ⟨fun _ w' => w' = w39 ∧ (j < xs.length ∨ j < ys.length), ?_, ?_⟩
          · rintro _ _ ⟨rfl, hor⟩
            refine ⟨fun _ w' => ∃ (g : Lg) (d : Dk) (gs : Gr), Two n (nextN n) g g2 d gs gs2 (2 * j + 1) ∧ Sat W w' (LgR a2 b g2 :: DkR b d :: LgR a b g :: l), ?_, ?_⟩
            · rintro _ w75 ⟨g, d, gs, hT, h7⟩
              have hft2 := (hT.swap.fit (by omega)).1
              refine ifB_dec (fun c => ?_) fun c => ?_
              · have hjy : ys[j]? = some ys[j] := List.getElem?_eq_getElem (by omega)
                have hmem := List.mem_of_getElem? hjy
                generalize ys[j] = y at hjy hmem
                obtain ⟨hv, hnum, hb1, hb2⟩ := hy.el y hmem
                refine hy.at (R := LgR a2 b g2 :: DkR b d :: LgR a b g :: []) hjy h7 ?_
                refine putStep_ok (Kn := fun w => _) h7 hl.cons hft2 (by rw [hT.m2.name]; exact hmn.2.1) (hv (LgR a b g :: [])) hnum hb1 hb2 fun w106 h8 => ?_
                obtain ⟨gs2', hT'⟩ := hT.swap.put (b := { y.bd with ba := g2.fin }) (by omega) hmn hgn.2.2 (by
                  have h1 := hft2.fin
                  have hnum : (-9223372036854775808 ≤ y.ba ∧ y.ba < 9223372036854775808) ∧ (-9223372036854775808 ≤ y.ep ∧ y.ep < 9223372036854775808) ∧ (0 ≤ y.pid ∧ y.pid < 18446744073709551616) ∧ (-9223372036854775808 ≤ y.pe ∧ y.pe < 9223372036854775808) ∧ (-9223372036854775808 ≤ y.sq ∧ y.sq < 9223372036854775808) := hnum
                  exact ⟨⟨by show _ ≤ g2.fin; omega, by show g2.fin < _; omega⟩, hnum.2⟩) rfl
                rw [w_i64 (n := (j : Int) + 1) (by omega) (by omega)]
                have hT2 := hT'.swap
                exact ⟨⟨j + 1, g, _, _, gs, gs2', by show (j : Int) + 1 = _; omega, by omega, ⟨hT2.m1, hT2.m2, ⟨by have := hT2.few.1; omega, by have := hT2.few.2; omega⟩, hT2.start, hT2.lay⟩, h8⟩, by show 1048577 - ((j : Int) + 1).toNat < 1048577 - (j : Int).toNat; omega⟩
              · rw [w_i64 (n := (j : Int) + 1) (by omega) (by omega)]
                exact ⟨⟨j + 1, g, _, _, gs, gs2, by show (j : Int) + 1 = _; omega, by omega, ⟨hT.m1, hT.m2, ⟨by have := hT.few.1; omega, by have := hT.few.2; omega⟩, hT.start, hT.lay⟩, h7⟩, by show 1048577 - ((j : Int) + 1).toNat < 1048577 - (j : Int).toNat; omega⟩
            · refine ifB_dec (fun c => ?_) fun c => ?_
              · have hjx : xs[j]? = some xs[j] := List.getElem?_eq_getElem (by omega)
                have hmem := List.mem_of_getElem? hjx
                generalize xs[j] = x at hjx hmem
                obtain ⟨hv, hnum, hb1, hb2⟩ := hx.el x hmem
                refine hx.at (R := LgR a2 b g2 :: DkR b d :: LgR a b g :: []) hjx h6 ?_
                have h7 := h6.sel 3 [2, 1, 0]
                refine putStep_ok (Kn := fun w => _) h7 hl.cons hft (by rw [hT.m1.name]; exact hgn.2.1) (hv (LgR a2 b g2 :: [])) hnum hb1 hb2 fun w106 h8 => ?_
                obtain ⟨gs', hT'⟩ := hT.put (b := { x.bd with ba := g.fin }) (by omega) hgn hmn.2.2 (by
                  have h1 := hft.fin
                  have hnum : (-9223372036854775808 ≤ x.ba ∧ x.ba < 9223372036854775808) ∧ (-9223372036854775808 ≤ x.ep ∧ x.ep < 9223372036854775808) ∧ (0 ≤ x.pid ∧ x.pid < 18446744073709551616) ∧ (-9223372036854775808 ≤ x.pe ∧ x.pe < 9223372036854775808) ∧ (-9223372036854775808 ≤ x.sq ∧ x.sq < 9223372036854775808) := hnum
                  exact ⟨⟨by show _ ≤ g.fin; omega, by show g.fin < _; omega⟩, hnum.2⟩) rfl
                exact ⟨_, _, gs', hT', h8.sel 3 [2, 1, 0]⟩
              · exact ⟨g, d, gs, ⟨hT.m1, hT.m2, ⟨by have := hT.few; omega, by have := hT.few; omega⟩, hT.start, hT.lay⟩, h6⟩
          · refine ifB_dec (fun c => ⟨rfl, .inl (by omega)⟩) fun c => ?_
            refine ifB_dec (fun c2 => ⟨rfl, .inr (by omega)⟩) fun c2 => ?_
            refine nx ?_
            rw [str_eq]
            refine ifB_dec (fun _ => hK w39 (h6.sel 3 [])) fun hne => ?_
            obtain ⟨l1, l2, ha, hfu⟩ := hT.lay hne
            have hs := (hT.fit (by omega)).2
            have hs2 := (hT.swap.fit (by omega)).2
            have h7 : Sat W w39 (DkR b d :: LgR a2 b g2 :: LgR a b g :: l) := h6.swap
            have hok : DkOk d := by obtain ⟨_, _, _, hok, _⟩ := sat_dk.1 h7; exact hok
            have hnl : ∀ f ∈ d.names, f.length ≤ 1000000 := fun f hf => by
              obtain ⟨p, hp, rfl⟩ := List.mem_map.1 hf
              have := hok.name p hp
              omega
            have ho1 := open_same l1 ha hok.nodup hs
            have ho2 := open_same l2 ha hok.nodup hs2
            refine open_ok (n := n) h7 hl.cons.cons ha hgn (lay_nm l1 hs) hok.many hnl fun a3 w47 _ _ h8 => tup2p ?_
            rw [ho1.2.2] at h8
            refine nx ?_
            have h9 : Sat W w47 (DkR b d :: LgR a3 b (opLg n d) :: LgR a2 b g2 :: LgR a b g :: l) := h8.swap
            refine open_ok (n := nextN n) h9 hl.cons.cons.cons ha hmn (lay_nm l2 hs2) hok.many hnl fun a4 w53 _ _ h10 => tup2p ?_
            rw [ho2.2.2] at h10
            refine ifB_beq (fun _ => ?_) fun c => absurd rfl c
            refine ifB_beq (fun _ => ?_) fun c => absurd rfl c
            have f1 : LFit (opLg n d) := mem_fit ⟨ho1.2.1, by rw [ho1.1]; exact l1.segs, l1.chain, l1.start⟩ hs (by have := hT.few.1; omega)
            have f2 : LFit (opLg (nextN n) d) := mem_fit ⟨ho2.2.1, by rw [ho2.1]; exact l2.segs, l2.chain, l2.start⟩ hs2 (by have := hT.few.2; omega)
            have h11 : Sat W w53 (LgR a3 b (opLg n d) :: LgR a b g :: LgR a4 b (opLg (nextN n) d) :: LgR a2 b g2 :: l) := h10.sel 5 [2, 4, 0, 3]
            refine readTwo_ok (Kb := fun b w => _) h11 f1 hft ho1.1 fun w62 h12 => ?_
            simp only
            refine ifB_intro (fun _ => ?_) fun c => absurd c (by simp)
            have h13 : Sat W w62 (LgR a4 b (opLg (nextN n) d) :: LgR a2 b g2 :: l) := h12.sel 4 [2, 3]
            refine readTwo_ok (Kb := fun b w => _) h13 f2 hft2 ho2.1 fun w71 h14 => ?_
            exact hK w71 h14.tail.tail
        · refine ifB_intro (fun c => absurd c (by simp)) fun _ => ?_
          refine ifB_bne (fun c => absurd rfl c) fun _ => h4
      · refine awake8_ok h2 hl.cons.cons fun w17 h3 => tyI (k := .bool) ?_
        refine ifB_intro (fun c => absurd c (by simp)) fun _ => ?_
        refine ifB_intro (fun c => absurd c (by simp)) fun _ => ?_
        refine ifB_intro (fun c => absurd c (by simp)) fun _ => h3
  · rw [hsz]
    refine ifB_dec (fun c => ?_) fun c => ?_
    · refine ⟨?_, rfl⟩
      show decide _ = true ↔ _
      rw [decide_eq_true_iff]
      constructor
      · intro h2; exact ⟨fun h3 => by rw [h3] at c; simp at c, by omega⟩
      · intro h2; omega
    · refine ⟨?_, rfl⟩
      show false = true ↔ _
      constructor
      · intro h2; cases h2
      · intro h2
        have : 0 < n.length := List.length_pos_iff.2 h2.1
        omega
end
end Go.Proofs.YtbpcichakchpkaaGreatDoor
