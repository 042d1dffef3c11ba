/- Texts of mine, put together: BA, BB, BC, BD, BE, QD, BF, BG, QE, QF, BH, BI, BJ. -/
import Derived.Test.YtnjadekngjgjcaaGreatDoorE4
import Derived.Test.YtnjadekngjgjcaaGreatDoorFC
import Derived.Test.YtnjadekngjgjcaaGreatDoorE3
import Derived.Test.YtnjadekngjgjcaaGreatDoorE2
/- Layer 7: a batch, and whether it is fit. -/
namespace Go.Proofs.YtnjadekngjgjcaaGreatDoor
open Go Go.Pk
structure Dc where
  ba : Int
  ep : Int
  pid : Int
  pe : Int
  sq : Int
  tx : Bool
  ct : Bool
  cm : Bool
  vs : Sl
  ss : List Sl
  bs : List (List UInt8)
def Dc.cells (d : Dc) : List Value := [.int .i64 d.ba, .int .i64 d.ep, .int .u64 d.pid, .int .i64 d.pe, .int .i64 d.sq, .bool d.tx, .bool d.ct, .bool d.cm, d.vs.v]
def Dc.num (d : Dc) : Prop := (-9223372036854775808 ≤ d.ba ∧ d.ba < 9223372036854775808) ∧ (-9223372036854775808 ≤ d.ep ∧ d.ep < 9223372036854775808) ∧ (0 ≤ d.pid ∧ d.pid < 18446744073709551616) ∧ (-9223372036854775808 ≤ d.pe ∧ d.pe < 9223372036854775808) ∧ (-9223372036854775808 ≤ d.sq ∧ d.sq < 9223372036854775808)
def VRd (W : World) (l : List Res) (d : Dc) : Prop := Rd W l d.vs 1 (d.ss.map Sl.v) ∧ d.ss.length = d.bs.length ∧ ∀ (i : Nat) (s : Sl) (b : List UInt8), d.ss[i]? = some s → d.bs[i]? = some b → Rd W l s 1 (b.map vB)
theorem VRd.cons {W : World} {l : List Res} {R : Res} {d : Dc} (h : VRd W l d) : VRd W (R :: l) d := ⟨Rd.cons h.1, h.2.1, fun i s b h1 h2 => Rd.cons (h.2.2 i s b h1 h2)⟩
def bad1 (d : Dc) : Prop := d.ba < 0 ∨ d.ep < 0 ∨ d.pe < 0 ∨ d.sq < 0 ∨ d.pe > 1000 ∨ d.pid > 1000
def bad7 (d : Dc) : Prop := (match d.ct with | true => d.bs.length > 0 ∨ d.tx = false ∨ d.pid = 0 ∨ d.sq ≠ 0 | false => d.bs.length = 0 ∨ d.cm = true) ∨ (d.pid = 0 ∧ (d.tx = true ∨ d.pe > 0 ∨ d.sq > 0))
def bad2 (d : Dc) : Prop := d.bs.length > 16 ∨ ∃ b ∈ d.bs, b.length > 64
open Classical in
noncomputable def chk (d : Dc) : Int := if bad1 d then 1 else if bad7 d then 7 else if bad2 d then 2 else 0
theorem et_vs : ET P T_sl_sl_uint8 T_sl_uint8 1 24 := ET.of (by kernel_rfl)
section
variable {W w : World} {l : List Res} {K : Value → World → Prop} {d : Dc}
theorem VRd.len (h : VRd W l d) (hs : Sat W w l) : d.vs.len = d.bs.length ∧ d.vs.len = d.ss.length := by
  have := (h.1 w hs).1
  simp at this
  have := h.2.1
  omega
/-- one of its values is read -/
theorem VRd.ld (h : VRd W l d) (hs : Sat W w l) {i : Nat} (hi : i < d.bs.length) {K : Sl → Prop} (hK : ∀ s, d.ss[i]? = some s → s.len = d.bs[i].length → Rd W l s 1 (d.bs[i].map vB) → K s) :
    RunQ .addr P (Instr.indexAt T_sl_sl_uint8 d.vs.v (.int .i64 i)) w fun a => RunQ .sl P (Instr.loadAt T_sl_uint8 (.pointer (some a))) w K := by
  have hi2 : i < d.ss.length := by rw [h.2.1]; exact hi
  have hr := h.2.2 i d.ss[i] d.bs[i] (List.getElem?_eq_getElem hi2) (List.getElem?_eq_getElem hi)
  have hl := (hr w hs).1
  simp at hl
  refine ixld et_vs (h.1 w hs) (by omega) (k := .sl) (x := d.ss[i]) (by simp [hi2]) ?_
  exact hK _ (List.getElem?_eq_getElem hi2) (by omega) hr
theorem chk_eq1 (h : bad1 d) : chk d = 1 := by simp [chk, h]
theorem chk_eq7 (h : ¬ bad1 d) (h7 : bad7 d) : chk d = 7 := by simp [chk, h, h7]
theorem chk_eq2 (h : ¬ bad1 d) (h7 : ¬ bad7 d) (h2 : bad2 d) : chk d = 2 := by simp [chk, h, h7, h2]
theorem chk_eq0 (h : ¬ bad1 d) (h7 : ¬ bad7 d) (h2 : ¬ bad2 d) : chk d = 0 := by simp [chk, h, h7, h2]
set_option maxHeartbeats 2000000 in
theorem check_ok (h : Sat W w l) (hv : VRd W l d) (hK : ∀ w', Sat W w' l → K (.int .i64 (chk d)) w') : CallP P F_batch_Check [.agg d.cells.toArray] w K := by
  apply c_batch_Check
  unfold S_batch_Check
  refine boxB h fun b w1 h1 => ?_
  have hA : Sat W w1 (Blk b d.cells T_api_Batch :: l) := h1
  clear h1
  have hl := hv.len h
  have hvi := hv
  refine ⟨fun _ w' => ¬ bad1 d ∧ ¬ bad7 d ∧ d.bs.length ≤ 16 ∧ Sat W w' (Blk b d.cells T_api_Batch :: l), ?_, ?_⟩
  · rintro _ w2 ⟨n1, n7, n16, h2⟩
    refine ldB h2 (i := 8) (x := d.vs) ?_
    refine ⟨fun z w' => ∃ i : Nat, z.1 = i ∧ i ≤ d.bs.length ∧ (∀ b ∈ d.bs.take i, b.length ≤ 64) ∧ Sat W w' (Blk b d.cells T_api_Batch :: l), fun z _ => d.bs.length - z.1.toNat, ⟨0, rfl, by omega, by simp, h2⟩, ?_⟩
    rintro ⟨i', u⟩ w3 ⟨i, hi, hil, hall, h3⟩
    simp only at hi ⊢
    subst hi
    refine ifB_dec (fun hlt => ?_) fun hge => ?_
    · have hi1 : i < d.bs.length := by omega
      refine (hv.cons (R := Blk b d.cells T_api_Batch)).ld h3 hi1 fun s hs hsl _ => ?_
      refine ifB_dec (fun hc => ?_) fun hc => ?_
      · have := hK w3 h3.tail
        rw [chk_eq2 n1 n7 (.inr ⟨_, List.getElem_mem hi1, by omega⟩)] at this
        exact this
      · rw [w_i64 (by omega) (by omega)]
        refine ⟨⟨i + 1, rfl, by omega, ?_, h3⟩, by omega⟩
        intro b hb
        rw [List.take_add_one, List.getElem?_eq_getElem hi1] at hb
        rcases List.mem_append.1 hb with hb | hb
        · exact hall b hb
        · simp at hb; subst hb; omega
    · have := hK w3 h3.tail
      rw [List.take_of_length_le (by omega)] at hall
      rw [chk_eq0 n1 n7 (by rintro (h | ⟨b, hb, h⟩); omega; have := hall b hb; omega)] at this
      exact this
  · have r1 : bad1 d → K (.int .i64 1) w1 := fun hb => by have := hK w1 hA.tail; rwa [chk_eq1 hb] at this
    have r7 : ¬ bad1 d → bad7 d → K (.int .i64 7) w1 := fun hb h7 => by have := hK w1 hA.tail; rwa [chk_eq7 hb h7] at this
    have r2 : ¬ bad1 d → ¬ bad7 d → d.bs.length > 16 → K (.int .i64 2) w1 := fun hb h7 h2 => by have := hK w1 hA.tail; rwa [chk_eq2 hb h7 (.inl h2)] at this
    have rj : ¬ bad1 d → ¬ bad7 d → d.bs.length ≤ 16 → (¬ bad1 d ∧ ¬ bad7 d ∧ d.bs.length ≤ 16 ∧ Sat W w1 (Blk b d.cells T_api_Batch :: l)) := fun a b c => ⟨a, b, c, hA⟩
    clear hK
    have hl1 := hl.1
    simp only [bad1, bad7] at r1 r7 r2 rj ⊢
    cases htx : d.tx <;> cases hct : d.ct <;> cases hcm : d.cm <;> simp only [htx, hct, hcm, Bool.false_eq_true, Bool.true_eq_false, or_false, or_true, true_or, false_or, and_true, eq_self, not_true_eq_false] at r7 r2 rj ⊢ <;>
    repeat first
      | refine ldB hA (o := 0) ?_
      | refine ifB_dec (fun _ => ?_) (fun _ => ?_)
      | refine ifB_beq (fun _ => ?_) (fun _ => ?_)
      | refine ifB_bne (fun _ => ?_) (fun _ => ?_)
      | exact r1 (by omega)
      | exact r7 (by omega) (by first | exact True.intro | omega)
      | exact r2 (by omega) (by first | exact fun h => h | omega) (by omega)
      | exact rj (by omega) (by first | exact fun h => h | omega) (by omega)
      | simp only [htx, hct, hcm, Bool.not_true, Bool.not_false, ifB_true, ifB_false]
end
end Go.Proofs.YtnjadekngjgjcaaGreatDoor

/- Layer 7: the reference's check; sizes; copies. -/
namespace Go.Proofs.YtnjadekngjgjcaaGreatDoor
open Go Go.Pk
section
variable {W w : World} {l : List Res} {K : Value → World → Prop} {d : Dc}
theorem size_ok (h : Sat W w l) (hv : VRd W l d) (hK : ∀ w', Sat W w' l → K (.int .i64 (if d.ct then 1 else (d.bs.length : Int))) w') : CallP P F_batch_Size [.agg d.cells.toArray] w K := by
  apply c_batch_Size
  unfold S_batch_Size
  refine boxB h fun b w1 h1 => ?_
  have hA : Sat W w1 (Blk b d.cells T_api_Batch :: l) := h1
  have hl := hv.len h
  have := hK w1 hA.tail
  refine ldB hA (o := 0) ?_
  cases hct : d.ct <;> rw [hct] at this
  · refine ldB hA (o := 0) ?_
    rw [← hl.1] at this
    exact this
  · exact this
end
end Go.Proofs.YtnjadekngjgjcaaGreatDoor

/- Layer 7: a batch is laid. -/
namespace Go.Proofs.YtnjadekngjgjcaaGreatDoor
open Go Go.Pk
theorem et_bools : ET P T_sl_bool T_bool 1 1 := ET.of (by kernel_rfl)
def headB (d : Dc) : List UInt8 := intB d.ba ++ intB d.ep ++ uintB d.pid.toNat ++ intB d.pe ++ intB d.sq ++ flagB d.tx ++ flagB d.ct ++ flagB d.cm ++ uintB d.bs.length
def encB (d : Dc) : List UInt8 := headB d ++ d.bs.flatMap bytesB
theorem chk0 {d : Dc} (h : chk d = 0) : ¬ bad1 d ∧ ¬ bad7 d ∧ ¬ bad2 d := by
  refine ⟨fun hb => ?_, fun hb => ?_, fun hb => ?_⟩
  · rw [chk_eq1 hb] at h; cases h
  · by_cases h1 : bad1 d
    · rw [chk_eq1 h1] at h; cases h
    · rw [chk_eq7 h1 hb] at h; cases h
  · by_cases h1 : bad1 d
    · rw [chk_eq1 h1] at h; cases h
    · by_cases h7 : bad7 d
      · rw [chk_eq7 h1 h7] at h; cases h
      · rw [chk_eq2 h1 h7 hb] at h; cases h
theorem vals_len : ∀ (bs : List (List UInt8)), (∀ b ∈ bs, b.length ≤ 64) → (bs.flatMap bytesB).length ≤ 74 * bs.length
  | [], _ => by simp
  | b :: bs, h => by
    have := vals_len bs fun x hx => h x (by simp [hx])
    have h0 := h b (by simp)
    have := uintB_len10 b.length (by omega)
    simp only [List.flatMap_cons, List.length_append, List.length_cons, bytesB] at *; omega
theorem intB_len10 {n : Int} (h0 : -9223372036854775808 ≤ n) (h1 : n < 9223372036854775808) : (intB n).length ≤ 10 := uintB_len10 _ (zig_lt h0 h1)
theorem flagB_len (b : Bool) : (flagB b).length = 1 := rfl
section
variable {W w : World} {l : List Res} {K : Value → World → Prop} {d : Dc}
theorem encode_ok (h : Sat W w l) (hn : d.num) (hv : VRd W l d) (hK0 : chk d ≠ 0 → ∀ w', Sat W w' l → K (.tuple #[.slice none 0 0, .int .i64 (chk d)]) w')
    (hK1 : chk d = 0 → ∀ s w', Sat W w' (BsR s (encB d) :: l) → K (.tuple #[s.v, .int .i64 0]) w') : CallP P F_batch_Encode [.agg d.cells.toArray] w K := by
  apply c_batch_Encode
  unfold S_batch_Encode
  refine boxB h fun b w1 h1 => ?_
  have hA : Sat W w1 (Blk b d.cells T_api_Batch :: l) := h1
  have hl := hv.len h
  refine ldAggB hA (by kernel_rfl) ?_
  refine check_ok hA hv.cons fun w2 h2 => tyI ?_
  refine ifB_bne (fun hne => hK0 hne w2 h2.tail) fun he => ?_
  obtain ⟨n1, n7, n2⟩ := chk0 he
  have hb16 : d.bs.length ≤ 16 := Nat.le_of_not_lt fun h => n2 (.inl h)
  have hb64 : ∀ b ∈ d.bs, b.length ≤ 64 := fun b hb => Nat.le_of_not_lt fun h => n2 (.inr ⟨b, hb, h⟩)
  obtain ⟨⟨a0, a1⟩, ⟨b0, b1⟩, ⟨c0, c1⟩, ⟨e0, e1⟩, ⟨f0, f1⟩⟩ := hn
  have q1 := intB_len10 a0 a1
  have q2 := intB_len10 b0 b1
  have q3 := uintB_len10 d.pid.toNat (by omega)
  have q4 := intB_len10 e0 e1
  have q5 := intB_len10 f0 f1
  have q6 := uintB_len10 d.bs.length (by omega)
  refine newWriter_ok h2 fun p w3 h3 => tyI ?_
  refine ldB h3.swap (o := 0) ?_
  refine wInt_ok h3 a0 a1 (by simp) fun w4 h4 => tupU rfl ?_
  refine ldB h4.swap (o := 0) ?_
  refine wInt_ok h4 b0 b1 (by simp; omega) fun w5 h5 => tupU rfl ?_
  refine ldB h5.swap (o := 0) ?_
  refine wUint_ok h5 c0 c1 (by simp; omega) fun w6 h6 => tupU rfl ?_
  refine ldB h6.swap (o := 0) ?_
  refine wInt_ok h6 e0 e1 (by simp; omega) fun w7 h7 => tupU rfl ?_
  refine ldB h7.swap (o := 0) ?_
  refine wInt_ok h7 f0 f1 (by simp; omega) fun w8 h8 => tupU rfl ?_
  rw [List.nil_append] at h8
  refine ldB h8.swap (o := 0) ?_
  refine ldB h8.swap (o := 0) ?_
  refine ldB h8.swap (o := 0) ?_
  refine bsB h8 (cs := [.bool d.tx, .bool d.ct, .bool d.cm]) (e := T_bool) (fun w => by kernel_rfl) fun g w9 h9 => ?_
  generalize ho : intB d.ba ++ intB d.ep ++ uintB d.pid.toNat ++ intB d.pe ++ intB d.sq = o at *
  have hol : o.length ≤ 50 := by rw [← ho]; simp; omega
  refine ⟨fun z w' => ∃ i : Nat, z.1 = i ∧ i ≤ 3 ∧ Sat W w' (WrR p (o ++ ([d.tx, d.ct, d.cm].take i).flatMap flagB) 0 :: Blk g [.bool d.tx, .bool d.ct, .bool d.cm] T_bool :: Blk b d.cells T_api_Batch :: l), fun z _ => 3 - z.1.toNat,
    ⟨0, rfl, by omega, by simpa using h9.swap⟩, ?_⟩
  rintro ⟨i', u⟩ w10 ⟨i, hi, hil, h10⟩
  simp only at hi ⊢
  subst hi
  refine ifB_dec (fun hlt => ?_) fun hge => ?_
  · have hi1 : i < [d.tx, d.ct, d.cm].length := by simp; omega
    have hi3 : i = 0 ∨ i = 1 ∨ i = 2 := by simp at hi1; omega
    refine ixld et_bools (rdBlk h10.tail (n := 3) (sz := 1) rfl |> fun _ => rdBlk h10.swap (n := 3) (sz := 1) rfl) (by omega) (k := .bool) (x := [d.tx, d.ct, d.cm][i]) (by rcases hi3 with rfl | rfl | rfl <;> rfl) ?_
    refine wFlag_ok h10 (by have : (([d.tx, d.ct, d.cm].take i).flatMap flagB).length ≤ 3 := (by rcases hi3 with rfl | rfl | rfl <;> simp [flagB]); simp only [List.length_append]; omega) fun w11 h11 => tupU rfl ?_
    rw [w_i64 (by omega) (by omega)]
    refine ⟨⟨i + 1, rfl, by simp at hi1; omega, ?_⟩, by simp at hi1; omega⟩
    rw [List.take_add_one, List.getElem?_eq_getElem hi1, List.flatMap_append, ← List.append_assoc]
    simpa using h11
  · have hge3 : ¬ (i : Int) < 3 := hge
    have hi3 : i = 3 := by omega
    subst hi3
    have h11 : Sat W w10 (WrR p (o ++ flagB d.tx ++ flagB d.ct ++ flagB d.cm) 0 :: Blk b d.cells T_api_Batch :: l) := by
      have := h10.drop2
      simpa using this
    refine ldB h11.swap (o := 0) ?_
    have hvl : d.vs.len = d.bs.length := hl.1
    rw [w_u64 (n := (d.vs.len : Int)) (by omega) (by omega)]
    have hf : (flagB d.tx).length = 1 ∧ (flagB d.ct).length = 1 ∧ (flagB d.cm).length = 1 := ⟨rfl, rfl, rfl⟩
    refine wUint_ok h11 (by omega) (by omega) (by simp only [List.length_append]; omega) fun w11 h12 => tupU rfl ?_
    have hd : o ++ flagB d.tx ++ flagB d.ct ++ flagB d.cm ++ uintB ((d.vs.len : Int)).toNat = headB d := by rw [headB, ho, ← hvl]; rfl
    rw [hd] at h12
    have hhl : (headB d).length ≤ 63 := by rw [headB, ho]; simp only [List.length_append]; omega
    refine ldB h12.swap (o := 0) ?_
    refine ⟨fun z w' => ∃ i : Nat, z.1 = i ∧ i ≤ d.bs.length ∧ Sat W w' (WrR p (headB d ++ (d.bs.take i).flatMap bytesB) 0 :: Blk b d.cells T_api_Batch :: l), fun z _ => d.bs.length - z.1.toNat, ⟨0, rfl, by omega, by simpa using h12⟩, ?_⟩
    rintro ⟨i', u⟩ w12 ⟨i, hi, hil2, h13⟩
    simp only at hi ⊢
    subst hi
    have hvl2 := vals_len (d.bs.take i) fun b hb => hb64 b (List.mem_of_mem_take hb)
    simp only [List.length_take] at hvl2
    refine ifB_dec (fun hlt => ?_) fun hge => ?_
    · have hi1 : i < d.bs.length := by omega
      have hbl := hb64 _ (List.getElem_mem hi1)
      refine (hv.cons.cons).ld h13 hi1 fun s hs hsl hr => ?_
      refine wBytes_ok h13 ((hv.cons (R := Blk b d.cells T_api_Batch)).2.2 i s _ hs (List.getElem?_eq_getElem hi1)) (by simp only [List.length_append]; omega) fun w13 h14 => tupU rfl ?_
      have ew : wErr 0 d.bs[i].length = 0 := by rw [wErr, if_neg (by omega)]
      rw [ew] at h14
      rw [w_i64 (by omega) (by omega)]
      refine ⟨⟨i + 1, rfl, by omega, ?_⟩, by omega⟩
      rw [List.take_add_one, List.getElem?_eq_getElem hi1, List.flatMap_append, ← List.append_assoc]
      simpa using h14
    · have hii : d.bs.take i = d.bs := List.take_of_length_le (by omega)
      rw [hii] at h13 hvl2
      refine wOut0_ok h13 (by simp only [List.length_append]; omega) fun s w13 h14 => tup2 ?_
      exact hK1 he s w13 (h14.drop2.drop2)
end
end Go.Proofs.YtnjadekngjgjcaaGreatDoor

/- Layer 7: values of one's own; a batch is copied. -/
namespace Go.Proofs.YtnjadekngjgjcaaGreatDoor
open Go Go.Pk
def vals (ss : List Sl) (bs : List (List UInt8)) : List Res := (ss.zip bs).map fun p => BsR p.1 p.2
/-- values of one's own -/
def VsR (vs : Sl) (ss : List Sl) (bs : List (List UInt8)) : Res := All [SlR T_sl_uint8 1 vs (ss.map Sl.v), All (vals ss bs)]
section
variable {W w : World} {l : List Res} {K : Value → World → Prop} {d : Dc} {vs : Sl} {ss : List Sl} {bs : List (List UInt8)}
theorem sat_vs : Sat W w (VsR vs ss bs :: l) ↔ Sat W w (SlR T_sl_uint8 1 vs (ss.map Sl.v) :: All (vals ss bs) :: l) := sat_all
theorem vals_snoc {s : Sl} {b : List UInt8} (hl : ss.length = bs.length) (h : Sat W w (BsR s b :: All (vals ss bs) :: l)) : Sat W w (All (vals (ss ++ [s]) (bs ++ [b])) :: l) := by
  have h1 := sat_all.1 h.swap
  rw [sat_all]
  have e : vals (ss ++ [s]) (bs ++ [b]) = vals ss bs ++ [BsR s b] := by
    simp only [vals]
    rw [List.zip_append hl]
    simp
  rw [e, List.append_assoc]
  exact h1
theorem sat_mem {R : Res} {m : List Res} (hm : R ∈ m) (h : Sat W w (All m :: l)) : ∃ l', Sat W w (R :: l') := by
  obtain ⟨a, b, rfl⟩ := List.append_of_mem hm
  have h1 := sat_all.1 h
  rw [List.append_assoc] at h1
  exact ⟨_, h1.perm List.perm_middle⟩
theorem Rd.vsHead : Rd W (VsR vs ss bs :: l) vs 1 (ss.map Sl.v) := fun w h => (sat_vs.1 h).rdc
theorem Rd.vsOne {i : Nat} {s : Sl} {b : List UInt8} (h1 : ss[i]? = some s) (h2 : bs[i]? = some b) : Rd W (VsR vs ss bs :: l) s 1 (b.map vB) := by
  intro w h
  have hm : BsR s b ∈ vals ss bs := by
    simp only [vals]
    refine List.mem_map.2 ⟨(s, b), ?_, rfl⟩
    refine List.mem_of_getElem? (i := i) ?_
    rw [List.getElem?_zip_eq_some]
    exact ⟨h1, h2⟩
  obtain ⟨l', h'⟩ := sat_mem hm (sat_vs.1 h).tail
  exact h'.rdc
theorem VRd.own (hl : ss.length = bs.length) {d : Dc} : VRd W (VsR vs ss bs :: l) { d with vs := vs, ss := ss, bs := bs } :=
  ⟨Rd.vsHead, hl, fun i s b h1 h2 => Rd.vsOne h1 h2⟩
end
end Go.Proofs.YtnjadekngjgjcaaGreatDoor

/- Layer 7: two batches are held against each other. -/
namespace Go.Proofs.YtnjadekngjgjcaaGreatDoor
open Go Go.Pk
def Dc.dat (d : Dc) : Int × Int × Int × Int × Int × Bool × Bool × Bool × List (List UInt8) := (d.ba, d.ep, d.pid, d.pe, d.sq, d.tx, d.ct, d.cm, d.bs)
section
variable {W w : World} {l : List Res} {K : Value → World → Prop} {d d1 d2 : Dc}
theorem VRd.hld (h : VRd W l d) {S : World → Prop} (hS : ∀ w, S w → Sat W w l) (hs : Sat W w l) {i : Nat} (hi : i < d.bs.length) {K : Sl → Prop} (hK : ∀ s, Rd W l s 1 (d.bs[i].map vB) → s.len = d.bs[i].length → K s) :
    HRun S .addr P (Instr.indexAt T_sl_sl_uint8 d.vs.v (.int .i64 i)) fun a => HRun S .sl P (Instr.loadAt T_sl_uint8 (.pointer (some a))) K := by
  have hi2 : i < d.ss.length := by rw [h.2.1]; exact hi
  have hl := h.len hs
  have hr := h.2.2 i d.ss[i] d.bs[i] (List.getElem?_eq_getElem hi2) (List.getElem?_eq_getElem hi)
  have hrl := (hr w hs).1
  simp at hrl
  obtain ⟨a, ha⟩ := some_of_lt (h.1 w hs) (n := i) (by omega)
  refine ⟨_, fun w _ => run_ix et_vs ha (by omega) (by omega) w, ?_⟩
  refine Go.Pk.hld (x := d.ss[i]) (fun w hw => ?_) (hK _ hr (by omega))
  have := (h.1 w (hS w hw)).2.2.2 a ha i (d.ss[i].v) (by simp [hi2])
  simpa using this
end
end Go.Proofs.YtnjadekngjgjcaaGreatDoor

/- Layer 7 in plain Lean: how a batch is taken. -/
namespace Go.Proofs.YtnjadekngjgjcaaGreatDoor
open Go Go.Pk
def takeVs (t : List UInt8) : Nat → Nat → Int → List (List UInt8) × Nat × Int
  | 0, p, e => ([], p, e)
  | n + 1, p, e => ((takeB t p e).1 :: (takeVs t n (takeB t p e).2.1 (takeB t p e).2.2).1, (takeVs t n (takeB t p e).2.1 (takeB t p e).2.2).2)
def st1 (t : List UInt8) : Int × Nat × Int := takeI t 0 0
def st2 (t : List UInt8) : Int × Nat × Int := takeI t (st1 t).2.1 (st1 t).2.2
def st3 (t : List UInt8) : Nat × Nat × Int := takeU t (st2 t).2.1 (st2 t).2.2
def st4 (t : List UInt8) : Int × Nat × Int := takeI t (st3 t).2.1 (st3 t).2.2
def st5 (t : List UInt8) : Int × Nat × Int := takeI t (st4 t).2.1 (st4 t).2.2
def st6 (t : List UInt8) : Bool × Nat × Int := takeF t (st5 t).2.1 (st5 t).2.2
def st7 (t : List UInt8) : Bool × Nat × Int := takeF t (st6 t).2.1 (st6 t).2.2
def st8 (t : List UInt8) : Bool × Nat × Int := takeF t (st7 t).2.1 (st7 t).2.2
def st9 (t : List UInt8) : Nat × Nat × Int := takeU t (st8 t).2.1 (st8 t).2.2
def stV (t : List UInt8) : List (List UInt8) × Nat × Int := takeVs t (st9 t).1 (st9 t).2.1 (st9 t).2.2
def decD (t : List UInt8) : Dc := ⟨(st1 t).1, (st2 t).1, (st3 t).1, (st4 t).1, (st5 t).1, (st6 t).1, (st7 t).1, (st8 t).1, ⟨none, 0, 0⟩, [], (stV t).1⟩
noncomputable def decE (t : List UInt8) : Int :=
  if (st9 t).2.2 = 0 ∧ (st9 t).1 > 16 then 2 else if endE t (stV t).2.1 (stV t).2.2 ≠ 0 then endE t (stV t).2.1 (stV t).2.2 else chk (decD t)
theorem takeI_bound {t : List UInt8} {p : Nat} {e : Int} (hp : p ≤ t.length) : (takeI t p e).2.1 ≤ t.length := (takeU_bound (e := e) hp).2.2.1
theorem takeVs_bound {t : List UInt8} : ∀ (n p : Nat) (e : Int), p ≤ t.length → (takeVs t n p e).2.1 ≤ t.length
  | 0, p, e, hp => hp
  | n + 1, p, e, hp => takeVs_bound n _ _ (takeB_bound hp)
theorem takeVs_len {t : List UInt8} : ∀ (n p : Nat) (e : Int), (takeVs t n p e).1.length = n
  | 0, _, _ => rfl
  | n + 1, p, e => by simp only [takeVs, List.length_cons]; rw [takeVs_len n]
theorem takeVs_snoc {t : List UInt8} : ∀ (n p : Nat) (e : Int), takeVs t (n + 1) p e = ((takeVs t n p e).1 ++ [(takeB t (takeVs t n p e).2.1 (takeVs t n p e).2.2).1], (takeB t (takeVs t n p e).2.1 (takeVs t n p e).2.2).2)
  | 0, p, e => by simp [takeVs]
  | n + 1, p, e => by
    have ih := takeVs_snoc n (takeB t p e).2.1 (takeB t p e).2.2 (t := t)
    rw [takeVs, ih]
    simp only [takeVs, List.cons_append]
theorem st_bounds (t : List UInt8) : (st1 t).2.1 ≤ t.length ∧ (st2 t).2.1 ≤ t.length ∧ (st3 t).2.1 ≤ t.length ∧ (st4 t).2.1 ≤ t.length ∧ (st5 t).2.1 ≤ t.length ∧ (st6 t).2.1 ≤ t.length ∧ (st7 t).2.1 ≤ t.length ∧ (st8 t).2.1 ≤ t.length ∧ (st9 t).2.1 ≤ t.length ∧ (stV t).2.1 ≤ t.length := by
  have h1 : (st1 t).2.1 ≤ t.length := takeI_bound (Nat.zero_le _)
  have h2 : (st2 t).2.1 ≤ t.length := takeI_bound h1
  have h3 : (st3 t).2.1 ≤ t.length := (takeU_bound h2).2.2.1
  have h4 : (st4 t).2.1 ≤ t.length := takeI_bound h3
  have h5 : (st5 t).2.1 ≤ t.length := takeI_bound h4
  have h6 : (st6 t).2.1 ≤ t.length := takeF_bound h5
  have h7 : (st7 t).2.1 ≤ t.length := takeF_bound h6
  have h8 : (st8 t).2.1 ≤ t.length := takeF_bound h7
  have h9 : (st9 t).2.1 ≤ t.length := (takeU_bound h8).2.2.1
  exact ⟨h1, h2, h3, h4, h5, h6, h7, h8, h9, takeVs_bound _ _ _ h9⟩
end Go.Proofs.YtnjadekngjgjcaaGreatDoor

/- Layer 7: a batch is taken. -/
namespace Go.Proofs.YtnjadekngjgjcaaGreatDoor
open Go Go.Pk
def zeroDc : Dc := ⟨0, 0, 0, 0, 0, false, false, false, ⟨none, 0, 0⟩, [], []⟩
def decV (t : List UInt8) (vs : Sl) (ss : List Sl) : Dc := { decD t with vs := vs, ss := ss }
theorem Dc.ones (d : Dc) : ∀ u ∈ d.cells, u.oneCell' = true := by
  intro u hu
  simp only [Dc.cells, List.mem_cons, List.not_mem_nil, or_false] at hu
  rcases hu with rfl | rfl | rfl | rfl | rfl | rfl | rfl | rfl | rfl <;> rfl
section
variable {W w : World} {l : List Res} {K : Value → World → Prop} {t : List UInt8} {b : Nat} {a : Nat}
theorem bs1_vs {s : Sl} (h : Sat W w l) {K : Sl → World → Prop} (hK : ∀ g w', Sat W w' (Blk g [s.v] T_sl_uint8 :: l) → K ⟨some ⟨g, 0, none⟩, 1, 1⟩ w') :
    RunK .sl P (Instr.buildSlice T_sl_sl_uint8 1 #[(0, s.v)]) w K := bsB h (cs := [s.v]) (e := T_sl_uint8) (fun w => run_bs1 et_vs rfl w) hK
theorem app_vs {s vs : Sl} {ss : List Sl} {bb : List UInt8} {bs : List (List UInt8)} {g : Nat} {ty : TypeId} {K : Sl → World → Prop}
    (h : Sat W w (Blk g [s.v] T_sl_uint8 :: BsR s bb :: VsR vs ss bs :: l)) (hl : ss.length = bs.length) (hn : bs.length < 2 ^ 40)
    (hK : ∀ vs' w', Sat W w' (VsR vs' (ss ++ [s]) (bs ++ [bb]) :: l) → K vs' w') :
    RunK .sl P (Builtin.append_ #[T_sl_sl_uint8, T_sl_sl_uint8] ty #[vs.v, Sl.v ⟨some ⟨g, 0, none⟩, 1, 1⟩]) w K := by
  have h1 := sat_vs.1 (h.up 2)
  have hle := h1.slLen
  simp only [List.length_map, Nat.mul_one] at hle
  refine appB et_vs (by decide) (s := vs) (x := ⟨some ⟨g, 0, none⟩, 1, 1⟩) (news := [s.v]) h1 (rdBlk (h1.up 2) rfl) (by intro u hu; simp only [List.mem_singleton] at hu; subst hu; rfl) (by simp only; omega) (by simp only; omega) fun s' w' h2 _ => ?_
  refine hK s' w' ?_
  refine sat_vs.2 ?_
  have h3 : Sat W w' (SlR T_sl_uint8 1 s' ((ss ++ [s]).map Sl.v) :: All (vals ss bs) :: Blk g [s.v] T_sl_uint8 :: BsR s bb :: l) := by
    rw [List.map_append]; exact h2
  have h4 : Sat W w' (BsR s bb :: All (vals ss bs) :: SlR T_sl_uint8 1 s' ((ss ++ [s]).map Sl.v) :: l) := ((h3.cut 2).up 1).up 2
  exact (vals_snoc hl h4).swap
def DecI (W : World) (l : List Res) (t : List UInt8) (b a a0 : Nat) (i : Nat) (w : World) : Prop :=
  ∃ vs ss, ss.length = i ∧ Sat W w (RdrR b t (takeVs t i (st9 t).2.1 (st9 t).2.2).2.1 (takeVs t i (st9 t).2.1 (st9 t).2.2).2.2 :: VsR vs ss (takeVs t i (st9 t).2.1 (st9 t).2.2).1 :: Blk a (decV t vs ss).cells T_api_Batch :: Blk a0 zeroDc.cells T_api_Batch :: l)
/-- the end, alike for all who decode -/
theorem dec_num (t : List UInt8) (ht : t.length ≤ 140737488355328) : (st9 t).1 < 2 ^ 64 ∧ ((st9 t).2.2 ≠ 0 → (st9 t).1 = 0) := by
  have := st_bounds t
  have h := takeU_bound (t := t) (p := (st8 t).2.1) (e := (st8 t).2.2) this.2.2.2.2.2.2.2.1
  exact ⟨h.1, h.2.2.2.1⟩
theorem decode_ok {x : Sl} (h : Sat W w l) (hx : Rd W l x 1 (t.map vB)) (ht : t.length ≤ 140737488355328)
    (hK0 : decE t ≠ 0 → ∀ w', Sat W w' l → K (.tuple #[.agg zeroDc.cells.toArray, .int .i64 (decE t)]) w')
    (hK1 : decE t = 0 → ∀ vs ss w', ss.length = (decD t).bs.length → Sat W w' (VsR vs ss (decD t).bs :: l) → K (.tuple #[.agg (decV t vs ss).cells.toArray, .int .i64 0]) w') :
    CallP P F_batch_Decode [x.v] w K := by
  apply c_batch_Decode
  unfold S_batch_Decode
  have hb := st_bounds t
  obtain ⟨b1, b2, b3, b4, b5, b6, b7, b8, b9, bV⟩ := hb
  have hn := dec_num t ht
  refine allocB h (z := .agg zeroDc.cells.toArray) (by kernel_rfl) fun a0 w1 h1 => ?_
  have hA : Sat W w1 (Blk a0 zeroDc.cells T_api_Batch :: l) := h1
  refine newReader_ok hA hx.cons ht fun b w2 h2 => tyI ?_
  refine dInt_ok h2 (Nat.zero_le _) ht fun w3 h3 => tyI ?_
  refine dInt_ok (p := (st1 t).2.1) (e := (st1 t).2.2) h3 b1 ht fun w4 h4 => tyI ?_
  refine dUint_ok (p := (st2 t).2.1) (e := (st2 t).2.2) h4 b2 ht fun w5 h5 => tyI ?_
  refine dInt_ok (p := (st3 t).2.1) (e := (st3 t).2.2) h5 b3 ht fun w6 h6 => tyI ?_
  refine dInt_ok (p := (st4 t).2.1) (e := (st4 t).2.2) h6 b4 ht fun w7 h7 => tyI ?_
  refine dFlag_ok (p := (st5 t).2.1) (e := (st5 t).2.2) h7 b5 ht fun w8 h8 => tyI ?_
  refine dFlag_ok (p := (st6 t).2.1) (e := (st6 t).2.2) h8 b6 ht fun w9 h9 => tyI ?_
  refine dFlag_ok (p := (st7 t).2.1) (e := (st7 t).2.2) h9 b7 ht fun w10 h10 => tyI ?_
  refine allocB h10 (z := .agg zeroDc.cells.toArray) (by kernel_rfl) fun a w11 h11 => ?_
  refine stAggB (cs := zeroDc.cells) (cs' := (decV t ⟨none, 0, 0⟩ []).cells) h11 rfl (Dc.ones _) (by kernel_rfl) fun w12 h12 => ?_
  refine dUint_ok (p := (st8 t).2.1) (e := (st8 t).2.2) h12.swap b8 ht fun w13 h13 => tyI ?_
  have h14 : Sat W w13 (RdrR b t (st9 t).2.1 (st9 t).2.2 :: Blk a (decV t ⟨none, 0, 0⟩ []).cells T_api_Batch :: Blk a0 zeroDc.cells T_api_Batch :: l) := h13
  have en : (takeU t (st8 t).2.1 (st8 t).2.2).1 = (st9 t).1 := rfl
  rw [en]
  clear h13 h12 h11 h10 h9 h8 h7 h6 h5 h4 h3 h2 h1 en
  refine ⟨fun _ w' => (st9 t).1 ≤ 16 ∧ Sat W w' (RdrR b t (st9 t).2.1 (st9 t).2.2 :: Blk a (decV t ⟨none, 0, 0⟩ []).cells T_api_Batch :: Blk a0 zeroDc.cells T_api_Batch :: l), ?_, ?_⟩
  · rintro _ w1 ⟨hn16, h1⟩
    have hs : DecI W l t b a a0 0 w1 := ⟨⟨none, 0, 0⟩, [], rfl, by
      have := (sat_vs (ss := []) (bs := [])).2 (Sat.nilSlr ((sat_all (l' := [])).2 h1) T_sl_uint8 1)
      exact this.swap⟩
    refine ⟨fun z w' => ∃ i : Nat, z.1 = i ∧ i ≤ (st9 t).1 ∧ DecI W l t b a a0 i w', fun z _ => (st9 t).1 - z.1.toNat, ⟨0, rfl, Nat.zero_le _, hs⟩, ?_⟩
    rintro ⟨i', u⟩ w2 ⟨i, hi, hil, vs, ss, hsl, h2⟩
    simp only at hi h2 ⊢
    subst hi
    have bi : (takeVs t i (st9 t).2.1 (st9 t).2.2).2.1 ≤ t.length := takeVs_bound _ _ _ b9
    have li := takeVs_len (t := t) i (st9 t).2.1 (st9 t).2.2
    refine ifB_dec (fun hlt => ?_) fun hge => ?_
    · have nx : ∀ w3, (∃ vs' s, Sat W w3 (Blk a (decV t vs' (ss ++ [s])).cells T_api_Batch :: VsR vs' (ss ++ [s]) ((takeVs t i (st9 t).2.1 (st9 t).2.2).1 ++ [(takeB t (takeVs t i (st9 t).2.1 (st9 t).2.2).2.1 (takeVs t i (st9 t).2.1 (st9 t).2.2).2.2).1]) ::
          RdrR b t (takeB t (takeVs t i (st9 t).2.1 (st9 t).2.2).2.1 (takeVs t i (st9 t).2.1 (st9 t).2.2).2.2).2.1 (takeB t (takeVs t i (st9 t).2.1 (st9 t).2.2).2.1 (takeVs t i (st9 t).2.1 (st9 t).2.2).2.2).2.2 :: Blk a0 zeroDc.cells T_api_Batch :: l)) →
          ((∃ j : Nat, IntKind.u64.wrap ((i : Int) + 1) = j ∧ j ≤ (st9 t).1 ∧ DecI W l t b a a0 j w3) ∧ (st9 t).1 - (IntKind.u64.wrap ((i : Int) + 1)).toNat < (st9 t).1 - (i : Int).toNat) := by
        rintro w3 ⟨vs', s, h3⟩
        rw [w_u64 (by omega) (by omega)]
        refine ⟨⟨i + 1, rfl, by omega, vs', ss ++ [s], by simp [hsl], ?_⟩, by omega⟩
        rw [takeVs_snoc]
        exact (h3.up 1).up 2
      have hld : ∀ {w4 : World} {L : List Res} {K : Sl → Prop}, Sat W w4 (Blk a (decV t vs ss).cells T_api_Batch :: L) → K vs → RunQ .sl P (Instr.loadAt T_sl_sl_uint8 (.pointer (some ((⟨a, 0, none⟩ : Addr).add 8)))) w4 K := fun h hk => ldB h (x := vs) hk
      have fin : ∀ {w4 : World} {g : Nat} {s : Sl} {K : World → Prop}, Sat W w4 (Blk g [s.v] T_sl_uint8 :: BsR s (takeB t (takeVs t i (st9 t).2.1 (st9 t).2.2).2.1 (takeVs t i (st9 t).2.1 (st9 t).2.2).2.2).1 ::
          RdrR b t (takeB t (takeVs t i (st9 t).2.1 (st9 t).2.2).2.1 (takeVs t i (st9 t).2.1 (st9 t).2.2).2.2).2.1 (takeB t (takeVs t i (st9 t).2.1 (st9 t).2.2).2.1 (takeVs t i (st9 t).2.1 (st9 t).2.2).2.2).2.2 :: VsR vs ss (takeVs t i (st9 t).2.1 (st9 t).2.2).1 :: Blk a (decV t vs ss).cells T_api_Batch :: Blk a0 zeroDc.cells T_api_Batch :: l) →
          (∀ w3, (∃ vs' s, Sat W w3 (Blk a (decV t vs' (ss ++ [s])).cells T_api_Batch :: VsR vs' (ss ++ [s]) ((takeVs t i (st9 t).2.1 (st9 t).2.2).1 ++ [(takeB t (takeVs t i (st9 t).2.1 (st9 t).2.2).2.1 (takeVs t i (st9 t).2.1 (st9 t).2.2).2.2).1]) ::
          RdrR b t (takeB t (takeVs t i (st9 t).2.1 (st9 t).2.2).2.1 (takeVs t i (st9 t).2.1 (st9 t).2.2).2.2).2.1 (takeB t (takeVs t i (st9 t).2.1 (st9 t).2.2).2.1 (takeVs t i (st9 t).2.1 (st9 t).2.2).2.2).2.2 :: Blk a0 zeroDc.cells T_api_Batch :: l)) → K w3) →
          RunK .sl P (Builtin.append_ #[T_sl_sl_uint8, T_sl_sl_uint8] T_sl_sl_uint8 #[vs.v, Sl.v ⟨some ⟨g, 0, none⟩, 1, 1⟩]) w4 fun s6 w6 => True ∧ StoreP P T_sl_sl_uint8 (.pointer (some ((⟨a, 0, none⟩ : Addr).add 8))) s6.v w6 fun w7 => True ∧ K w7 := by
        intro w4 g s K h4 hk
        refine app_vs (((h4.up 3).up 2).up 2) (by omega) (by omega) fun vs' w5 h5 => ⟨trivial, ?_⟩
        refine stB (h5.up 2) (i := 8) (v := vs'.v) (hi := (by show 8 < 9; decide)) fun w6 h6 => ⟨trivial, hk w6 ⟨vs', s, h6⟩⟩
      refine ⟨fun _ => True, trivial, ?_, ?_, trivial⟩
      · refine hld (h2.drew.up 2) ⟨trivial, ?_⟩
        refine dBytes_ok h2.drew bi ht fun s w3 h3 => tyI ⟨trivial, ?_⟩
        exact bs1_vs h3 fun g w4 h4 => ⟨trivial, fin h4 nx⟩
      · refine dBytes_ok h2.drew bi ht fun s w3 h3 => tyI ⟨trivial, ?_, ?_, trivial⟩
        · refine hld (h3.up 3) ⟨trivial, ?_⟩
          exact bs1_vs h3 fun g w4 h4 => ⟨trivial, fin h4 nx⟩
        · refine bs1_vs h3 fun g w4 h4 => ⟨trivial, ?_⟩
          exact hld (h4.up 4) ⟨trivial, fin h4 nx⟩
    · have hii : i = (st9 t).1 := by omega
      subst hii
      have h3 : Sat W w2 (RdrR b t (stV t).2.1 (stV t).2.2 :: VsR vs ss (decV t vs ss).bs :: Blk a (decV t vs ss).cells T_api_Batch :: Blk a0 zeroDc.cells T_api_Batch :: l) := h2
      have hc : ¬ ((st9 t).2.2 = 0 ∧ (st9 t).1 > 16) := by omega
      refine dEnd_ok h3 fun w3 h4 => tyI ?_
      refine ifB_bne (fun hne => ?_) fun he => ?_
      · have hE : decE t = endE t (stV t).2.1 (stV t).2.2 := by unfold decE; rw [if_neg hc, if_pos hne]
        refine stAggB (cs' := zeroDc.cells) (h4.up 3) rfl (Dc.ones _) (by kernel_rfl) fun w4 h5 => ?_
        have := hK0 (by rw [hE]; exact hne) w4 h5.tail.tail.tail.tail
        rw [hE] at this
        exact ldAggB h5 (by kernel_rfl) this
      · have hE : decE t = chk (decV t vs ss) := by
          have hch : ∀ d1 d2 : Dc, d1.dat = d2.dat → chk d1 = chk d2 := by
            intro d1 d2 hd
            obtain ⟨⟩ := d1; obtain ⟨⟩ := d2
            simp only [Dc.dat, Prod.mk.injEq] at hd
            obtain ⟨rfl, rfl, rfl, rfl, rfl, rfl, rfl, rfl, rfl⟩ := hd
            rfl
          unfold decE
          rw [if_neg hc, if_neg (by simpa using he)]
          exact hch _ _ rfl
        have hv : VRd W (VsR vs ss (decV t vs ss).bs :: RdrR b t (stV t).2.1 (stV t).2.2 :: Blk a (decV t vs ss).cells T_api_Batch :: Blk a0 zeroDc.cells T_api_Batch :: l) (decV t vs ss) :=
          VRd.own (d := decV t vs ss) (by show ss.length = (stV t).1.length; rw [stV, takeVs_len]; exact hsl)
        refine ldAggB (h4.up 2) (by kernel_rfl) ?_
        refine check_ok h4.swap hv fun w4 h5 => tyI ?_
        refine ifB_bne (fun hne => ?_) fun he => ?_
        · refine stAggB (cs' := zeroDc.cells) (h5.up 3) rfl (Dc.ones _) (by kernel_rfl) fun w5 h6 => ?_
          have := hK0 (by rw [hE]; exact hne) w5 h6.tail.tail.tail.tail
          rw [hE] at this
          exact ldAggB h6 (by kernel_rfl) this
        · refine ldAggB (h5.up 2) (by kernel_rfl) ?_
          refine stAggB (cs' := (decV t vs ss).cells) (h5.up 3) rfl (Dc.ones _) (by kernel_rfl) fun w5 h6 => ?_
          refine ldAggB h6 (by kernel_rfl) ?_
          refine hK1 (by rw [hE]; exact he) vs ss w5 (by show ss.length = (stV t).1.length; rw [stV, takeVs_len]; exact hsl) ?_
          exact (((h6.tail).cut 1).cut 1)
  · refine dState_ok h14 b9 fun w2 h2 => ⟨(_, _, _, ()), rfl, ?_⟩
    refine ifB_beq (fun he => ?_) fun hne => ?_
    · refine ifB_dec (fun hgt => ?_) fun hle => ?_
      · have hE : decE t = 2 := by unfold decE; rw [if_pos ⟨he, by omega⟩]
        refine stAggB (cs' := zeroDc.cells) (h2.up 2) rfl (Dc.ones _) (by kernel_rfl) fun w3 h3 => ?_
        have := hK0 (by rw [hE]; decide) w3 h3.tail.tail.tail
        rw [hE] at this
        exact ldAggB h3 (by kernel_rfl) this
      · exact ⟨by omega, h2⟩
    · exact ⟨by have := hn.2 hne; omega, h2⟩
end
end Go.Proofs.YtnjadekngjgjcaaGreatDoor

/- Layer 7: the reference takes a batch. -/
namespace Go.Proofs.YtnjadekngjgjcaaGreatDoor
open Go Go.Pk
section
variable {W w : World} {l : List Res} {K : Value → World → Prop} {t : List UInt8} {b : Nat} {a : Nat}
end
end Go.Proofs.YtnjadekngjgjcaaGreatDoor

/- Forms in plain Lean: a taker and its writer, one behind the other. -/
namespace Go.Pk
open Go
theorem rdU_cut6 (m : Nat) : ∀ (n : Nat), n ≤ m → ∀ (k acc j : Nat), n * 128 ^ k < 2 ^ 64 → (k = 0 ∨ 0 < n) → k ≤ 9 → j < (uintB n).length → rdU ((uintB n).take j) k acc = .inl 6 := by
  induction m with
  | zero =>
    intro n hn k acc j _ h0 _ hj
    have : n = 0 := by omega
    subst this
    rw [uintB_small (by decide)] at hj ⊢
    simp at hj
    subst hj
    simp [rdU]
  | succ m ih =>
    intro n hn k acc j hlt h0 hk hj
    by_cases hs : n ≤ 127
    · rw [uintB_small hs] at hj ⊢
      simp at hj
      subst hj
      simp [rdU]
    · rw [uintB_big hs] at hj ⊢
      cases j with
      | zero => simp [rdU]
      | succ j =>
        have hb : (UInt8.ofNat (n % 128 + 128)).toNat = n % 128 + 128 := by simp; omega
        have hk9 : k < 9 := by
          rcases Nat.lt_or_ge k 9 with h | h
          · exact h
          · have : k = 9 := by omega
            subst this; omega
        simp only [List.length_cons] at hj
        simp only [List.take_succ_cons, rdU, hb]
        rw [if_neg (by omega), if_neg (by omega)]
        have e1 : n / 128 * 128 ^ (k + 1) = n / 128 * 128 * 128 ^ k := by rw [Nat.pow_succ, Nat.mul_assoc, Nat.mul_comm (128 ^ k) 128]
        have e2 : n / 128 * 128 * 128 ^ k ≤ n * 128 ^ k := Nat.mul_le_mul_right _ (by omega)
        exact ih (n / 128) (by omega) (k + 1) _ j (by omega) (by omega) (by omega) (by omega)
/-- what was taken stands there -/
theorem rdU_back : ∀ (l : List UInt8) (k acc v c : Nat), rdU l k acc = .inr (v, c) → ∃ n, v = acc + n * 128 ^ k ∧ k < c ∧ c - k ≤ l.length ∧ l.take (c - k) = uintB n ∧ (0 < k → 0 < n) := by
  intro l
  induction l with
  | nil => intro k acc v c h; simp [rdU] at h
  | cons b l ih =>
    intro k acc v c h
    simp only [rdU] at h
    split at h
    · cases h
    · rename_i h1
      split at h
      · rename_i h2
        simp only [Sum.inr.injEq, Prod.mk.injEq] at h
        obtain ⟨rfl, rfl⟩ := h
        have hb : UInt8.ofNat b.toNat = b := by simp
        refine ⟨b.toNat, rfl, by omega, by simp, ?_, fun hk => ?_⟩
        · rw [uintB_small (by omega), hb, Nat.add_sub_cancel_left]; rfl
        · rcases Nat.eq_zero_or_pos b.toNat with h3 | h3
          · exact absurd (.inr ⟨h3, hk⟩) h1
          · exact h3
      · rename_i h2
        obtain ⟨n, hv, hc, hl, ht, hn⟩ := ih _ _ _ _ h
        have hn' := hn (by omega)
        have hlt : b.toNat < 256 := b.toNat_lt
        refine ⟨(b.toNat - 128) + n * 128, ?_, by omega, by simp only [List.length_cons]; omega, ?_, fun _ => by omega⟩
        · rw [hv, Nat.add_mul, Nat.mul_assoc, Nat.pow_succ, Nat.mul_comm (128 ^ k) 128, Nat.add_assoc]
        · rw [uintB_big (by omega)]
          have e1 : (b.toNat - 128 + n * 128) / 128 = n := by omega
          have e2 : (b.toNat - 128 + n * 128) % 128 + 128 = b.toNat := by omega
          have e3 : c - k = (c - (k + 1)) + 1 := by omega
          rw [e1, e2, e3, List.take_succ_cons, ht]
          simp
abbrev Tk (α : Type) := List UInt8 → Nat → Int → α × Nat × Int
structure Fm {α : Type} (take : Tk α) (enc : α → List UInt8) (ok : α → Prop) : Prop where
  hits : ∀ {t r : List UInt8} {p : Nat} {a : α}, ok a → t.drop p = enc a ++ r → take t p 0 = (a, p + (enc a).length, 0)
  cut : ∀ {t : List UInt8} {p m : Nat} {a : α}, ok a → t.drop p = (enc a).take m → m < (enc a).length → (take t p 0).2.2 = 6
  back : ∀ {t : List UInt8} {p : Nat}, p ≤ t.length → (take t p 0).2.2 = 0 → ok (take t p 0).1 ∧ t.drop p = enc (take t p 0).1 ++ t.drop (take t p 0).2.1 ∧ (take t p 0).2.1 ≤ t.length
def Er {α : Type} (take : Tk α) : Prop := ∀ (t : List UInt8) (p : Nat) (e : Int), e ≠ 0 → (take t p e).2 = (p, e)
theorem erU : Er takeU := fun _ _ _ h => by rw [takeU_err h]
theorem erI : Er takeI := fun _ _ _ h => by rw [takeI_err h]
theorem erF : Er takeF := fun _ _ _ h => by rw [takeF_err h]
theorem erB : Er takeB := fun _ _ _ h => by rw [takeB_err h]
theorem takeU_cut6 {t : List UInt8} {p n m : Nat} (h : t.drop p = (uintB n).take m) (hn : n < 2 ^ 64) (hm : m < (uintB n).length) : takeU t p 0 = (0, p, 6) := by
  simp only [takeU, ne_eq, not_true_eq_false, if_false, h]
  rw [rdU_cut6 n n (Nat.le_refl _) 0 0 m (by simpa using hn) (.inl rfl) (by omega) hm]
theorem takeU_back {t : List UInt8} {p : Nat} (hp : p ≤ t.length) (h : (takeU t p 0).2.2 = 0) : (takeU t p 0).1 < 2 ^ 64 ∧ t.drop p = uintB (takeU t p 0).1 ++ t.drop (takeU t p 0).2.1 ∧ (takeU t p 0).2.1 ≤ t.length := by
  have hb := takeU_bound (e := 0) hp
  refine ⟨hb.1, ?_, hb.2.2.1⟩
  have hbd := rdU_bound (t.drop p) 0 0 (by omega) (by simp)
  simp only [takeU, ne_eq, not_true_eq_false, if_false] at h ⊢
  cases hr : rdU (t.drop p) 0 0 with
  | inl e' =>
    rw [hr] at h hbd
    simp only [rdOk] at hbd
    simp only at h
    omega
  | inr x =>
    obtain ⟨v, c⟩ := x
    obtain ⟨n, hv, hc, hl, ht, _⟩ := rdU_back _ _ _ _ _ hr
    simp only [Nat.sub_zero, Nat.pow_zero, Nat.mul_one, Nat.zero_add] at hv ht hl
    subst hv
    simp only
    rw [← ht, ← List.drop_drop, List.take_append_drop]
theorem fmU : Fm takeU uintB (· < 2 ^ 64) where
  hits hn h := takeU_at h hn
  cut hn h hm := by rw [takeU_cut6 h hn hm]
  back := takeU_back
theorem fmI : Fm takeI intB (fun n => -9223372036854775808 ≤ n ∧ n < 9223372036854775808) where
  hits hn h := takeI_at h hn.1 hn.2
  cut hn h hm := by show (takeU _ _ _).2.2 = 6; rw [takeU_cut6 h (zig_lt hn.1 hn.2) hm]
  back {t p} hp h := by
    obtain ⟨h1, h2, h3⟩ := takeU_back hp h
    refine ⟨?_, ?_, h3⟩
    · show -9223372036854775808 ≤ zag (takeU t p 0).1 ∧ zag (takeU t p 0).1 < 9223372036854775808
      unfold zag
      split <;> omega
    · show t.drop p = uintB (zig (zag (takeU t p 0).1)) ++ _
      rw [zig_zag]; exact h2
theorem fmF : Fm takeF flagB (fun _ => True) where
  hits {t r p a} _ h := by rw [takeF_at h]; rfl
  cut {t p m a} _ h hm := by
    rw [flagB_eq] at h hm
    have := takeU_cut6 h (by cases a <;> decide) hm
    simp [takeF, this]
  back {t p} hp h := by
    simp only [takeF] at h ⊢
    by_cases h1 : (takeU t p 0).1 > 1
    · rw [if_pos h1] at h
      simp only at h
      split at h
      · cases h
      · rename_i h2; exact absurd h h2
    · rw [if_neg h1] at h ⊢
      obtain ⟨_, h2, h3⟩ := takeU_back hp h
      refine ⟨trivial, ?_, h3⟩
      show t.drop p = flagB ((takeU t p 0).1 == 1) ++ t.drop (takeU t p 0).2.1
      rw [flagB_eq]
      have hx : (takeU t p 0).1 = 0 ∨ (takeU t p 0).1 = 1 := by omega
      rcases hx with hx | hx <;> rw [hx] at h2 ⊢ <;> exact h2
theorem fmB : Fm takeB bytesB (fun b => b.length ≤ 4096) where
  hits hn h := takeB_at h hn
  cut {t p m n} hn h hm := by
    simp only [bytesB, List.length_append] at h hm
    rcases Nat.lt_or_ge m (uintB n.length).length with hc | hc
    · have := takeU_cut6 (cut_left h (by omega)) (by omega) hc
      simp [takeB, this]
    · have h' := cut_append h hc
      have e0 := takeU_at h' (by omega)
      have hl := drop_len h'
      simp at hl
      have hp : p + (uintB n.length).length ≤ t.length := by
        have := uintB_pos n.length
        omega
      simp only [takeB, e0]
      rw [if_neg (by simp), if_neg (by omega), if_pos (by omega)]
  back {t p} hp h := by
    simp only [takeB] at h ⊢
    by_cases h1 : (takeU t p 0).2.2 ≠ 0
    · rw [if_pos h1] at h; exact absurd h h1
    · rw [if_neg h1] at h ⊢
      obtain ⟨h2, h3, h4⟩ := takeU_back hp (by simpa using h1)
      by_cases h5 : (takeU t p 0).1 > 4096
      · rw [if_pos h5] at h; cases h
      · rw [if_neg h5] at h ⊢
        by_cases h6 : (takeU t p 0).1 > t.length - (takeU t p 0).2.1
        · rw [if_pos h6] at h; cases h
        · rw [if_neg h6]
          refine ⟨by simp; omega, ?_, by simp only; omega⟩
          have hl : ((t.drop (takeU t p 0).2.1).take (takeU t p 0).1).length = (takeU t p 0).1 := by simp; omega
          simp only [bytesB, hl]
          rw [List.append_assoc, ← List.drop_drop, List.take_append_drop]
          exact h3
/-- one behind the other; the second may go by what the first has taken -/
def Tk.dep {α β : Type} (f : Tk α) (g : α → Tk β) : Tk (α × β) := fun t p e => (((f t p e).1, (g (f t p e).1 t (f t p e).2.1 (f t p e).2.2).1), (g (f t p e).1 t (f t p e).2.1 (f t p e).2.2).2)
theorem Er.dep {α β : Type} {f : Tk α} {g : α → Tk β} (hf : Er f) (hg : ∀ a, Er (g a)) : Er (f.dep g) := fun t p e he => by
  have h1 := hf t p e he
  simp only [Tk.dep, h1]
  exact hg _ _ _ _ he
theorem Fm.dep {α β : Type} {f : Tk α} {g : α → Tk β} {enc : α → List UInt8} {enc' : β → List UInt8} {ok : α → Prop} {ok' : α → β → Prop}
    (hf : Fm f enc ok) (he : ∀ a, Er (g a)) (hg : ∀ a, ok a → Fm (g a) enc' (ok' a)) : Fm (f.dep g) (fun x => enc x.1 ++ enc' x.2) (fun x => ok x.1 ∧ ok' x.1 x.2) where
  hits {t r p x} ho h := by
    obtain ⟨a, b⟩ := x
    rw [List.append_assoc] at h
    have h1 := hf.hits ho.1 h
    have h2 := (hg a ho.1).hits ho.2 (drop_add h)
    simp only [Tk.dep, h1, h2, List.length_append]
    rw [Nat.add_assoc]
  cut {t p m x} ho h hm := by
    obtain ⟨a, b⟩ := x
    simp only [List.length_append] at h hm ho
    rcases Nat.lt_or_ge m (enc a).length with hc | hc
    · have h1 := hf.cut ho.1 (cut_left h (by omega)) hc
      have h2 := he (f t p 0).1 t (f t p 0).2.1 (f t p 0).2.2 (by rw [h1]; decide)
      simp only [Tk.dep]
      rw [h2]; exact h1
    · have h' := cut_append h hc
      have h1 := hf.hits ho.1 h'
      simp only [Tk.dep, h1]
      exact (hg a ho.1).cut ho.2 (drop_add h') (by omega)
  back {t p} hp h := by
    simp only [Tk.dep] at h ⊢
    by_cases h1 : (f t p 0).2.2 = 0
    · obtain ⟨a1, a2, a3⟩ := hf.back hp h1
      rw [h1] at h ⊢
      obtain ⟨b1, b2, b3⟩ := (hg _ a1).back a3 h
      refine ⟨⟨a1, b1⟩, ?_, b3⟩
      rw [List.append_assoc, ← b2]; exact a2
    · have h2 := he (f t p 0).1 t (f t p 0).2.1 _ h1
      rw [h2] at h
      exact absurd h h1
/-- so many, one by one -/
def Tk.rep {α : Type} (f : Tk α) : Nat → Tk (List α)
  | 0, _, p, e => ([], p, e)
  | n + 1, t, p, e => ((f t p e).1 :: (f.rep n t (f t p e).2.1 (f t p e).2.2).1, (f.rep n t (f t p e).2.1 (f t p e).2.2).2)
theorem Er.rep {α : Type} {f : Tk α} (hf : Er f) : ∀ n, Er (f.rep n)
  | 0 => fun _ _ _ _ => rfl
  | n + 1 => fun t p e he => by
    have h1 := hf t p e he
    simp only [Tk.rep, h1]
    exact Er.rep hf n _ _ _ he
theorem Fm.rep {α : Type} {f : Tk α} {enc : α → List UInt8} {ok : α → Prop} (hf : Fm f enc ok) (he : Er f) : ∀ n, Fm (f.rep n) (fun l => l.flatMap enc) (fun l => l.length = n ∧ ∀ a ∈ l, ok a)
  | 0 => {
    hits := fun {t r p a} ho _ => by
      have : a = [] := List.eq_nil_of_length_eq_zero ho.1
      subst this; rfl
    cut := fun {t p m a} ho _ hm => by
      have : a = [] := List.eq_nil_of_length_eq_zero ho.1
      subst this; simp at hm
    back := fun {t p} hp _ => ⟨⟨rfl, by simp [Tk.rep]⟩, by simp [Tk.rep], hp⟩ }
  | n + 1 => {
    hits := fun {t r p a} ho h => by
      match a, ho with
      | x :: a, ho =>
      simp only [List.flatMap_cons, List.append_assoc] at h
      have h1 := hf.hits (ho.2 x (by simp)) h
      have h2 := (Fm.rep hf he n).hits ⟨by simpa using ho.1, fun y hy => ho.2 y (by simp [hy])⟩ (drop_add h)
      simp only [Tk.rep, h1, h2, List.flatMap_cons, List.length_append]
      rw [Nat.add_assoc]
    cut := fun {t p m a} ho h hm => by
      match a, ho with
      | x :: a, ho =>
      simp only [List.flatMap_cons, List.length_append] at h hm
      rcases Nat.lt_or_ge m (enc x).length with hc | hc
      · have h1 := hf.cut (ho.2 x (by simp)) (cut_left h (by omega)) hc
        have h2 := Er.rep he n t (f t p 0).2.1 (f t p 0).2.2 (by rw [h1]; decide)
        simp only [Tk.rep]
        rw [h2]; exact h1
      · have h' := cut_append h hc
        have h1 := hf.hits (ho.2 x (by simp)) h'
        simp only [Tk.rep, h1]
        exact (Fm.rep hf he n).cut ⟨by simpa using ho.1, fun y hy => ho.2 y (by simp [hy])⟩ (drop_add h') (by omega)
    back := fun {t p} hp h => by
      simp only [Tk.rep] at h ⊢
      by_cases h1 : (f t p 0).2.2 = 0
      · obtain ⟨a1, a2, a3⟩ := hf.back hp h1
        rw [h1] at h ⊢
        obtain ⟨b1, b2, b3⟩ := (Fm.rep hf he n).back a3 h
        refine ⟨⟨by simp [b1.1], fun y hy => ?_⟩, ?_, b3⟩
        · rcases List.mem_cons.1 hy with rfl | hy
          · exact a1
          · exact b1.2 y hy
        · simp only [List.flatMap_cons, List.append_assoc]
          rw [← b2]; exact a2
      · have h2 := Er.rep he n t (f t p 0).2.1 _ h1
        rw [h2] at h
        exact absurd h h1 }
end Go.Pk

/- Layer 7 in plain Lean: what a batch's bytes are, and what they are taken as. -/
namespace Go.Proofs.YtnjadekngjgjcaaGreatDoor
open Go Go.Pk
abbrev HT := Int × Int × Nat × Int × Int × Bool × Bool × Bool × Nat
def takeHd : Tk HT := Tk.dep takeI fun _ => Tk.dep takeI fun _ => Tk.dep takeU fun _ => Tk.dep takeI fun _ => Tk.dep takeI fun _ => Tk.dep takeF fun _ => Tk.dep takeF fun _ => Tk.dep takeF fun _ => takeU
def encHd (x : HT) : List UInt8 := intB x.1 ++ (intB x.2.1 ++ (uintB x.2.2.1 ++ (intB x.2.2.2.1 ++ (intB x.2.2.2.2.1 ++ (flagB x.2.2.2.2.2.1 ++ (flagB x.2.2.2.2.2.2.1 ++ (flagB x.2.2.2.2.2.2.2.1 ++ uintB x.2.2.2.2.2.2.2.2)))))))
abbrev okI (n : Int) : Prop := -9223372036854775808 ≤ n ∧ n < 9223372036854775808
abbrev okU (n : Nat) : Prop := n < 2 ^ 64
def okHd (x : HT) : Prop := okI x.1 ∧ okI x.2.1 ∧ okU x.2.2.1 ∧ okI x.2.2.2.1 ∧ okI x.2.2.2.2.1 ∧ True ∧ True ∧ True ∧ okU x.2.2.2.2.2.2.2.2
theorem fmHd : Fm takeHd encHd okHd :=
  fmI.dep (fun _ => erI.dep fun _ => erU.dep fun _ => erI.dep fun _ => erI.dep fun _ => erF.dep fun _ => erF.dep fun _ => erF.dep fun _ => erU) fun _ _ =>
  fmI.dep (fun _ => erU.dep fun _ => erI.dep fun _ => erI.dep fun _ => erF.dep fun _ => erF.dep fun _ => erF.dep fun _ => erU) fun _ _ =>
  fmU.dep (fun _ => erI.dep fun _ => erI.dep fun _ => erF.dep fun _ => erF.dep fun _ => erF.dep fun _ => erU) fun _ _ =>
  fmI.dep (fun _ => erI.dep fun _ => erF.dep fun _ => erF.dep fun _ => erF.dep fun _ => erU) fun _ _ =>
  fmI.dep (fun _ => erF.dep fun _ => erF.dep fun _ => erF.dep fun _ => erU) fun _ _ =>
  fmF.dep (fun _ => erF.dep fun _ => erF.dep fun _ => erU) fun _ _ =>
  fmF.dep (fun _ => erF.dep fun _ => erU) fun _ _ =>
  fmF.dep (fun _ => erU) fun _ _ => fmU
def nHd (x : HT) : Nat := x.2.2.2.2.2.2.2.2
def takeDc : Tk (HT × List (List UInt8)) := Tk.dep takeHd fun x => Tk.rep takeB (nHd x)
def encDc (x : HT × List (List UInt8)) : List UInt8 := encHd x.1 ++ x.2.flatMap bytesB
def okDc (x : HT × List (List UInt8)) : Prop := okHd x.1 ∧ x.2.length = nHd x.1 ∧ ∀ b ∈ x.2, b.length ≤ 4096
theorem fmDc : Fm takeDc encDc okDc := fmHd.dep (fun x => Er.rep erB _) fun x _ => Fm.rep fmB erB (nHd x)
theorem takeVs_rep (t : List UInt8) : ∀ (n p : Nat) (e : Int), takeVs t n p e = Tk.rep takeB n t p e
  | 0, _, _ => rfl
  | n + 1, p, e => by simp only [takeVs, Tk.rep, takeVs_rep t n]
theorem dep_eq {α β : Type} {f : Tk α} {g : α → Tk β} {t : List UInt8} {p : Nat} {e : Int} {a : α × Nat × Int} {y : β} {z : Nat × Int} (h1 : f t p e = a) (h2 : g a.1 t a.2.1 a.2.2 = (y, z)) : f.dep g t p e = ((a.1, y), z) := by
  subst h1
  simp only [Tk.dep, h2]
theorem takeHd_eq (t : List UInt8) : takeHd t 0 0 = (((st1 t).1, (st2 t).1, (st3 t).1, (st4 t).1, (st5 t).1, (st6 t).1, (st7 t).1, (st8 t).1, (st9 t).1), (st9 t).2) := by
  unfold takeHd
  exact dep_eq (a := st1 t) (by rw [st1]) (dep_eq (a := st2 t) (by rw [st2]) (dep_eq (a := st3 t) (by rw [st3]) (dep_eq (a := st4 t) (by rw [st4]) (dep_eq (a := st5 t) (by rw [st5])
    (dep_eq (a := st6 t) (by rw [st6]) (dep_eq (a := st7 t) (by rw [st7]) (dep_eq (a := st8 t) (by rw [st8]) (by rw [st9]))))))))
theorem takeDc_eq (t : List UInt8) : takeDc t 0 0 = ((((st1 t).1, (st2 t).1, (st3 t).1, (st4 t).1, (st5 t).1, (st6 t).1, (st7 t).1, (st8 t).1, (st9 t).1), (stV t).1), (stV t).2) := by
  have h : stV t = Tk.rep takeB (st9 t).1 t (st9 t).2.1 (st9 t).2.2 := takeVs_rep _ _ _ _
  unfold takeDc
  exact dep_eq (takeHd_eq t) (by rw [h]; rfl)
def Dc.hd (d : Dc) : HT := (d.ba, d.ep, d.pid.toNat, d.pe, d.sq, d.tx, d.ct, d.cm, d.bs.length)
theorem encB_eq (d : Dc) : encB d = encDc (d.hd, d.bs) := by
  simp only [encB, headB, encDc, encHd, Dc.hd, List.append_assoc]
theorem hd_dec (t : List UInt8) : (takeDc t 0 0).1 = ((decD t).hd, (decD t).bs) ∨ (stV t).1.length ≠ (st9 t).1 := by
  by_cases h : (stV t).1.length = (st9 t).1
  · left
    rw [takeDc_eq]
    simp only [Dc.hd, decD, h, Int.toNat_natCast]
  · exact .inr h
theorem hd_dec' (t : List UInt8) : (takeDc t 0 0).1 = ((decD t).hd, (decD t).bs) := (hd_dec t).resolve_right fun h => h (takeVs_len _ _ _)
theorem enc_dec {t : List UInt8} (h : decE t = 0) : encB (decD t) = t ∧ (decD t).num ∧ chk (decD t) = 0 := by
  unfold decE at h
  split at h
  · cases h
  · split at h
    · rename_i h1; exact absurd h h1
    · rename_i h0 h1
      have h1' : endE t (stV t).2.1 (stV t).2.2 = 0 := Decidable.byContradiction h1
      have he : (stV t).2.2 = 0 := by
        unfold endE at h1'
        split at h1'
        · cases h1'
        · exact h1'
      have hp : ¬ (stV t).2.1 < t.length := by
        intro hlt
        unfold endE at h1'
        rw [if_pos ⟨he, hlt⟩] at h1'
        cases h1'
      obtain ⟨b1, b2, b3⟩ := fmDc.back (t := t) (p := 0) (Nat.zero_le _) (by rw [takeDc_eq]; exact he)
      rw [hd_dec'] at b1 b2
      rw [takeDc_eq] at b2
      simp only [List.drop_zero] at b2
      rw [List.drop_of_length_le (by omega), List.append_nil] at b2
      refine ⟨by rw [encB_eq]; exact b2.symm, ?_, h⟩
      obtain ⟨⟨o1, o2, o3, o4, o5, _⟩, _⟩ := b1
      have o3' : (decD t).pid.toNat < 2 ^ 64 := o3
      refine ⟨o1, o2, ⟨by show (0 : Int) ≤ ((st3 t).1 : Int); omega, by omega⟩, o4, o5⟩
end Go.Proofs.YtnjadekngjgjcaaGreatDoor

/- Layer 7: the law's first run; the laws of reading, cutting, holding apart. -/
namespace Go.Proofs.YtnjadekngjgjcaaGreatDoor
open Go Go.Pk
theorem tup2v {v : Value} {e : Int} {K : Value × Int × Unit → Prop} (h : K (v, e, ())) : TupP [.val, .int .i64] (.tuple #[v, .int .i64 e]) K := ⟨_, rfl, h⟩
section
variable {W w : World} {l : List Res} {K : Value → World → Prop} {d d1 d2 : Dc} {t : List UInt8}
end
end Go.Proofs.YtnjadekngjgjcaaGreatDoor

/- Layer 7: the laws of reading, writing, cutting, holding apart. -/
namespace Go.Proofs.YtnjadekngjgjcaaGreatDoor
open Go Go.Pk
section
variable {W w : World} {l : List Res} {K : Value → World → Prop} {d d1 d2 : Dc} {t : List UInt8}
end
end Go.Proofs.YtnjadekngjgjcaaGreatDoor

/- Layer 7: the laws of writing, cutting, holding apart. -/
namespace Go.Proofs.YtnjadekngjgjcaaGreatDoor
open Go Go.Pk
noncomputable def eB (d : Dc) : List UInt8 := if chk d = 0 then encB d else []
def Dc.small (d : Dc) : Prop := d.bs.length < 2 ^ 40 ∧ ∀ b ∈ d.bs, b.length ≤ 140737488355328
theorem eB_len {d : Dc} (hn : d.num) : (eB d).length ≤ 2000 := by
  unfold eB
  split
  · rename_i h
    obtain ⟨n1, n7, n2⟩ := chk0 h
    have hb16 : d.bs.length ≤ 16 := Nat.le_of_not_lt fun h => n2 (.inl h)
    have hb64 : ∀ b ∈ d.bs, b.length ≤ 64 := fun b hb => Nat.le_of_not_lt fun h => n2 (.inr ⟨b, hb, h⟩)
    obtain ⟨⟨a0, a1⟩, ⟨b0, b1⟩, ⟨c0, c1⟩, ⟨e0, e1⟩, ⟨f0, f1⟩⟩ := hn
    have q1 := intB_len10 a0 a1
    have q2 := intB_len10 b0 b1
    have q3 := uintB_len10 d.pid.toNat (by omega)
    have q4 := intB_len10 e0 e1
    have q5 := intB_len10 f0 f1
    have q6 := uintB_len10 d.bs.length (by omega)
    have q7 := flagB_len d.tx
    have q8 := flagB_len d.ct
    have q9 := flagB_len d.cm
    have q0 := vals_len d.bs hb64
    simp only [encB, headB, List.length_append]
    omega
  · simp
theorem encB_len {d : Dc} (hn : d.num) (h : chk d = 0) : (encB d).length ≤ 2000 := by
  have := eB_len hn
  unfold eB at this
  rwa [if_pos h] at this
section
variable {W w : World} {l : List Res} {K : Value → World → Prop} {d d1 d2 : Dc} {t : List UInt8}
theorem hldAggB {S : World → Prop} {W : World} {b : Nat} {cs : List Value} {T : TypeId} {t : TypeId} (hS : ∀ w, S w → ∃ l, Sat W w (Blk b cs T :: l)) (ht : aggT P t cs.length = true) {K : Value → Prop} (hK : K (.agg cs.toArray)) :
    HRun S .val P (Instr.loadAt t (.pointer (some ⟨b, 0, none⟩))) K :=
  ⟨.agg cs.toArray, fun w hw => by
    obtain ⟨l, h⟩ := hS w hw
    obtain ⟨x, hx, hk⟩ := ldAggB (K := fun v => v = .agg cs.toArray) h ht rfl
    rw [hx]; exact congrArg (fun v => Result.ok v w) hk, hK⟩
end
end Go.Proofs.YtnjadekngjgjcaaGreatDoor
