/- Layer 7: a batch, and whether it is fit. -/
import Derived.Test.YtcfgbboibgjlcaaLE
import Derived.Test.YtcfgbboibgjlcaaFC
namespace Go.Proofs.Ytcfgbboibgjlcaa
open Go Go.Pk
structure Dc where
  ba : Int
  ep : Int
  pid : Int
  pe : Int
  sq : Int
  tx : Bool
  ct : Bool
  cm : Bool
  vs : Sl
  ss : List Sl
  bs : List (List UInt8)
def Dc.cells (d : Dc) : List Value := [.int .i64 d.ba, .int .i64 d.ep, .int .u64 d.pid, .int .i64 d.pe, .int .i64 d.sq, .bool d.tx, .bool d.ct, .bool d.cm, d.vs.v]
def Dc.num (d : Dc) : Prop := (-9223372036854775808 ≤ d.ba ∧ d.ba < 9223372036854775808) ∧ (-9223372036854775808 ≤ d.ep ∧ d.ep < 9223372036854775808) ∧ (0 ≤ d.pid ∧ d.pid < 18446744073709551616) ∧ (-9223372036854775808 ≤ d.pe ∧ d.pe < 9223372036854775808) ∧ (-9223372036854775808 ≤ d.sq ∧ d.sq < 9223372036854775808)
def VRd (W : World) (l : List Res) (d : Dc) : Prop := Rd W l d.vs 1 (d.ss.map Sl.v) ∧ d.ss.length = d.bs.length ∧ ∀ (i : Nat) (s : Sl) (b : List UInt8), d.ss[i]? = some s → d.bs[i]? = some b → Rd W l s 1 (b.map vB)
theorem VRd.cons {W : World} {l : List Res} {R : Res} {d : Dc} (h : VRd W l d) : VRd W (R :: l) d := ⟨Rd.cons h.1, h.2.1, fun i s b h1 h2 => Rd.cons (h.2.2 i s b h1 h2)⟩
def bad1 (d : Dc) : Prop := d.ba < 0 ∨ d.ep < 0 ∨ d.pe < 0 ∨ d.sq < 0 ∨ d.pe > 1000 ∨ d.pid > 1000
def bad7 (d : Dc) : Prop := (match d.ct with | true => d.bs.length > 0 ∨ d.tx = false ∨ d.pid = 0 ∨ d.sq ≠ 0 | false => d.bs.length = 0 ∨ d.cm = true) ∨ (d.pid = 0 ∧ (d.tx = true ∨ d.pe > 0 ∨ d.sq > 0))
def bad2 (d : Dc) : Prop := d.bs.length > 16 ∨ ∃ b ∈ d.bs, b.length > 64
open Classical in
noncomputable def chk (d : Dc) : Int := if bad1 d then 1 else if bad7 d then 7 else if bad2 d then 2 else 0
theorem et_vs : ET P T_sl_sl_uint8 T_sl_uint8 1 24 := ET.of (by kernel_rfl)
section
variable {W w : World} {l : List Res} {K : Value → World → Prop} {d : Dc}
theorem VRd.len (h : VRd W l d) (hs : Sat W w l) : d.vs.len = d.bs.length ∧ d.vs.len = d.ss.length := by
  have := (h.1 w hs).1
  simp at this
  have := h.2.1
  omega
/-- one of its values is read -/
theorem VRd.ld (h : VRd W l d) (hs : Sat W w l) {i : Nat} (hi : i < d.bs.length) {K : Sl → Prop} (hK : ∀ s, d.ss[i]? = some s → s.len = d.bs[i].length → Rd W l s 1 (d.bs[i].map vB) → K s) :
    RunQ .addr P (Instr.indexAt T_sl_sl_uint8 d.vs.v (.int .i64 i)) w fun a => RunQ .sl P (Instr.loadAt T_sl_uint8 (.pointer (some a))) w K := by
  have hi2 : i < d.ss.length := by rw [h.2.1]; exact hi
  have hr := h.2.2 i d.ss[i] d.bs[i] (List.getElem?_eq_getElem hi2) (List.getElem?_eq_getElem hi)
  have hl := (hr w hs).1
  simp at hl
  refine ixld et_vs (h.1 w hs) (by omega) (k := .sl) (x := d.ss[i]) (by simp [hi2]) ?_
  exact hK _ (List.getElem?_eq_getElem hi2) (by omega) hr
theorem chk_eq1 (h : bad1 d) : chk d = 1 := by simp [chk, h]
theorem chk_eq7 (h : ¬ bad1 d) (h7 : bad7 d) : chk d = 7 := by simp [chk, h, h7]
theorem chk_eq2 (h : ¬ bad1 d) (h7 : ¬ bad7 d) (h2 : bad2 d) : chk d = 2 := by simp [chk, h, h7, h2]
theorem chk_eq0 (h : ¬ bad1 d) (h7 : ¬ bad7 d) (h2 : ¬ bad2 d) : chk d = 0 := by simp [chk, h, h7, h2]
set_option maxHeartbeats 2000000 in
theorem check_ok (h : Sat W w l) (hv : VRd W l d) (hK : ∀ w', Sat W w' l → K (.int .i64 (chk d)) w') : CallP P F_batch_Check [.agg d.cells.toArray] w K := by
  apply c_batch_Check
  unfold S_batch_Check
  refine boxB h fun b w1 h1 => ?_
  have hA : Sat W w1 (Blk b d.cells 66 :: l) := h1
  clear h1
  have hl := hv.len h
  have hvi := hv
  refine ⟨fun _ w' => ¬ bad1 d ∧ ¬ bad7 d ∧ d.bs.length ≤ 16 ∧ Sat W w' (Blk b d.cells 66 :: l), ?_, ?_⟩
  · rintro _ w2 ⟨n1, n7, n16, h2⟩
    refine ldB h2 (i := 8) (x := d.vs) ?_
    refine ⟨fun z w' => ∃ i : Nat, z.1 = i ∧ i ≤ d.bs.length ∧ (∀ b ∈ d.bs.take i, b.length ≤ 64) ∧ Sat W w' (Blk b d.cells 66 :: l), fun z _ => d.bs.length - z.1.toNat, ⟨0, rfl, by omega, by simp, h2⟩, ?_⟩
    rintro ⟨i', u⟩ w3 ⟨i, hi, hil, hall, h3⟩
    simp only at hi ⊢
    subst hi
    refine ifB_dec (fun hlt => ?_) fun hge => ?_
    · have hi1 : i < d.bs.length := by omega
      refine (hv.cons (R := Blk b d.cells 66)).ld h3 hi1 fun s hs hsl _ => ?_
      refine ifB_dec (fun hc => ?_) fun hc => ?_
      · have := hK w3 h3.tail
        rw [chk_eq2 n1 n7 (.inr ⟨_, List.getElem_mem hi1, by omega⟩)] at this
        exact this
      · rw [w_i64 (by omega) (by omega)]
        refine ⟨⟨i + 1, rfl, by omega, ?_, h3⟩, by omega⟩
        intro b hb
        rw [List.take_add_one, List.getElem?_eq_getElem hi1] at hb
        rcases List.mem_append.1 hb with hb | hb
        · exact hall b hb
        · simp at hb; subst hb; omega
    · have := hK w3 h3.tail
      rw [List.take_of_length_le (by omega)] at hall
      rw [chk_eq0 n1 n7 (by rintro (h | ⟨b, hb, h⟩); omega; have := hall b hb; omega)] at this
      exact this
  · have r1 : bad1 d → K (.int .i64 1) w1 := fun hb => by have := hK w1 hA.tail; rwa [chk_eq1 hb] at this
    have r7 : ¬ bad1 d → bad7 d → K (.int .i64 7) w1 := fun hb h7 => by have := hK w1 hA.tail; rwa [chk_eq7 hb h7] at this
    have r2 : ¬ bad1 d → ¬ bad7 d → d.bs.length > 16 → K (.int .i64 2) w1 := fun hb h7 h2 => by have := hK w1 hA.tail; rwa [chk_eq2 hb h7 (.inl h2)] at this
    have rj : ¬ bad1 d → ¬ bad7 d → d.bs.length ≤ 16 → (¬ bad1 d ∧ ¬ bad7 d ∧ d.bs.length ≤ 16 ∧ Sat W w1 (Blk b d.cells 66 :: l)) := fun a b c => ⟨a, b, c, hA⟩
    clear hK
    have hl1 := hl.1
    simp only [bad1, bad7] at r1 r7 r2 rj ⊢
    cases htx : d.tx <;> cases hct : d.ct <;> cases hcm : d.cm <;> simp only [htx, hct, hcm, Bool.false_eq_true, Bool.true_eq_false, or_false, or_true, true_or, false_or, and_true, eq_self, not_true_eq_false] at r7 r2 rj ⊢ <;>
    repeat first
      | refine ldB hA (o := 0) ?_
      | refine ifB_dec (fun _ => ?_) (fun _ => ?_)
      | refine ifB_beq (fun _ => ?_) (fun _ => ?_)
      | refine ifB_bne (fun _ => ?_) (fun _ => ?_)
      | exact r1 (by omega)
      | exact r7 (by omega) (by first | exact True.intro | omega)
      | exact r2 (by omega) (by first | exact fun h => h | omega) (by omega)
      | exact rj (by omega) (by first | exact fun h => h | omega) (by omega)
      | simp only [htx, hct, hcm, Bool.not_true, Bool.not_false, ifB_true, ifB_false]
end
end Go.Proofs.Ytcfgbboibgjlcaa
