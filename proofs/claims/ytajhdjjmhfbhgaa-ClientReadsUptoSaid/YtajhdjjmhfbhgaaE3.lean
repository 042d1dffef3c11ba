/- Texts of mine, put together: KCa, KCb, KCc, KCd, KCe, KCf, KCg. -/
import Derived.Test.YtajhdjjmhfbhgaaKX
import Derived.Test.YtajhdjjmhfbhgaaFKg
import Derived.Test.YtajhdjjmhfbhgaaKN
/- The reference of layer 9: what is known of a producer. -/
namespace Go.Proofs.Ytajhdjjmhfbhgaa
open Go Go.Pk
/-- how many offsets a batch takes -/
def bsz (b : Bt) : Int := if b.control then 1 else (b.vs.len : Int)
/-- what is known of a producer: its epoch, its next number, where its open transaction begins -/
structure Kn where
  ep : Int
  nxt : Int
  is : Bool
  opn : Int
def knStep (pid : Int) (k : Kn) (b : Bt) : Kn :=
  if b.pid ≠ pid ∨ pid = 0 then k else
    let up : Bool := !k.is || decide (b.pe > k.ep)
    if b.control then ⟨if up then b.pe else k.ep, if up then 0 else k.nxt, true, -1⟩
    else ⟨if up then b.pe else k.ep, IntKind.i64.wrap (b.seq + bsz b), true, if b.txn = true ∧ k.opn < 0 then b.base else k.opn⟩
def kn (pid : Int) (tl : List Bt) : Kn := tl.foldl (knStep pid) ⟨0, 0, false, -1⟩
def Kn.v (k : Kn) : Value := if k.is then .tuple #[.int .i64 k.ep, .int .i64 k.nxt, .int .i64 k.opn, .bool true] else .tuple #[.int .i64 0, .int .i64 0, .int .i64 0, .bool false]
def zBt : List Value := [.int .i64 0, .int .i64 0, .int .u64 0, .int .i64 0, .int .i64 0, .bool false, .bool false, .bool false, .slice none 0 0]
theorem kn_take {pid : Int} {tl : List Bt} {i : Nat} (hi : i < tl.length) : kn pid (tl.take (i + 1)) = knStep pid (kn pid (tl.take i)) tl[i] := by
  unfold kn
  rw [List.take_add_one, List.getElem?_eq_getElem hi, List.foldl_append]; rfl
theorem et_bts : ET P T_sl_api_Batch T_api_Batch 9 72 := ET.of (by kernel_rfl)
theorem et_u64s : ET P T_sl_uint64 T_uint64 1 8 := ET.of (by kernel_rfl)
section
variable {W w : World} {l : List Res} {K : Value → World → Prop} {g : Nat} {s : Sl} {tl : List Bt} {pid : Int}
theorem rsizeB {b : Bt} (h : Sat W w l) (hK : ∀ w', Sat W w' l → K (.int .i64 (bsz b)) w') : CallP P F_ref07_Size [.agg b.cells.toArray] w K := by
  apply c_ref07_Size
  unfold S_ref07_Size
  refine boxB h fun m w1 h1 => ?_
  have hA : Sat W w1 (Blk m b.cells T_api_Batch :: l) := h1
  have hk := hK w1 hA.tail
  unfold bsz at hk
  refine ldX hA 6 (k := .bool) (x := b.control) ?_
  refine ifB_intro (fun hc => ?_) fun hc => ?_
  · rw [if_pos hc] at hk; exact hk
  · rw [if_neg (by rw [hc]; decide)] at hk
    refine ldX hA 8 (k := .sl) (x := b.vs) ?_
    exact hk
theorem known_ok (h : Sat W w (Blk g [s.v] T_penstockref09_Table :: l)) (hr : Rd W l s 9 (elB.flat tl)) (hn : tl.length ≤ 1000000000) (hK : ∀ w', Sat W w' (Blk g [s.v] T_penstockref09_Table :: l) → K (kn pid tl).v w') :
    CallP P F_ref09_Table_Known [.pointer (some ⟨g, 0, none⟩), .int .u64 pid] w K := by
  apply c_ref09_Table_Known
  unfold S_ref09_Table_Known
  have hsl : s.len = tl.length := RdC.elen (E := elB) (hr w h.tail) (by decide)
  refine ⟨fun z w' => ∃ i : Nat, z.2.2.2.2.1 = i ∧ i ≤ tl.length ∧ (⟨z.1, z.2.1, z.2.2.1, z.2.2.2.1⟩ : Kn) = kn pid (tl.take i) ∧ Sat W w' (Blk g [s.v] T_penstockref09_Table :: l), fun z _ => tl.length - z.2.2.2.2.1.toNat, ⟨0, rfl, Nat.zero_le _, rfl, h⟩, ?_⟩
  rintro ⟨e0, n0, is0, o0, i', u⟩ w2 ⟨i, hi, hil, hk, h2⟩
  simp only at hi hk ⊢
  subst hi
  refine ldX h2 0 (k := .sl) (x := s) ?_
  refine ifB_dec (fun hlt => ?_) fun hge => ?_
  · have hi1 : i < tl.length := by omega
    refine ldX h2 0 (k := .sl) (x := s) ?_
    refine ixEl (E := elB) et_bts rfl (hr w2 h2.tail) (by omega) (x := tl[i]) (by rw [Int.toNat_natCast, List.getElem?_eq_getElem hi1]) (by omega) fun A hA => ?_
    refine ldAggC (cs := tl[i].cells) hA ?_
    have hst := kn_take (pid := pid) hi1
    rw [← hk] at hst
    generalize tl[i] = b at hst
    refine newAgg (z := zBt) h2 (elB.one b) fun m w3 h3 => ?_
    have h3 : Sat W w3 (Blk m b.cells T_api_Batch :: Blk g [s.v] T_penstockref09_Table :: l) := h3
    have hw1 : IntKind.i64.wrap ((i : Int) + 1) = ((i + 1 : Nat) : Int) := w_i64 (by omega) (by omega)
    -- on with the next one
    have nx : ∀ (k : Kn) w4, k = kn pid (tl.take (i + 1)) → Sat W w4 (Blk g [s.v] T_penstockref09_Table :: l) →
        (∃ j : Nat, IntKind.i64.wrap ((i : Int) + 1) = (j : Int) ∧ j ≤ tl.length ∧ (⟨k.ep, k.nxt, k.is, k.opn⟩ : Kn) = kn pid (tl.take j) ∧ Sat W w4 (Blk g [s.v] T_penstockref09_Table :: l)) ∧ tl.length - (IntKind.i64.wrap ((i : Int) + 1)).toNat < tl.length - ((i : Int)).toNat := by
      intro k w4 hk4 h4
      rw [hw1]
      exact ⟨⟨i + 1, rfl, by omega, hk4, h4⟩, by omega⟩
    refine ⟨fun _ w' => ¬ (b.pid ≠ pid ∨ pid = 0) ∧ Sat W w' (Blk m b.cells T_api_Batch :: Blk g [s.v] T_penstockref09_Table :: l), ?_, ?_⟩
    · rintro _ w4 ⟨hp, h4⟩
      have hst2 : kn pid (tl.take (i + 1)) = (if b.control = true then (⟨if (!is0 || decide (b.pe > e0)) = true then b.pe else e0, if (!is0 || decide (b.pe > e0)) = true then 0 else n0, true, -1⟩ : Kn) else ⟨if (!is0 || decide (b.pe > e0)) = true then b.pe else e0, IntKind.i64.wrap (b.seq + bsz b), true, if b.txn = true ∧ o0 < 0 then b.base else o0⟩) := by
        rw [hst]
        unfold knStep
        rw [if_neg hp]
      refine ⟨fun t w' => t.1 = (if (!is0 || decide (b.pe > e0)) = true then b.pe else e0) ∧ t.2.1 = (if (!is0 || decide (b.pe > e0)) = true then 0 else n0) ∧ Sat W w' (Blk m b.cells T_api_Batch :: Blk g [s.v] T_penstockref09_Table :: l), ?_, ?_⟩
      · rintro ⟨e1, n1, u⟩ w5 ⟨he1, hn1, h5⟩
        simp only at he1 hn1 ⊢
        refine ldX h5 6 (k := .bool) (x := b.control) ?_
        refine ifB_intro (fun hc => ?_) fun hc => ?_
        · rw [if_pos hc, ← he1, ← hn1] at hst2
          exact nx ⟨e1, n1, true, -1⟩ w5 hst2.symm h5.tail
        · rw [if_neg (by rw [hc]; decide), ← he1] at hst2
          have h6 := h5.drew
          let S : World → Prop := fun w => ∃ L, Sat W w (Blk m b.cells T_api_Batch :: L)
          refine ⟨S, ⟨_, h6⟩, ?_⟩
          refine hldX (S := S) (fun w h => h) 4 (x := b.seq) ?_
          refine hldAggB (S := S) (cs := b.cells) (fun w h => h) (by kernel_rfl) ?_
          refine rsizeB h6 fun w6 h7 => tyI (k := .int .i64) ⟨⟨_, h7⟩, ?_⟩
          refine ldX h7 5 (k := .bool) (x := b.txn) ?_
          refine ifB_intro (fun ht => ?_) fun ht => ?_
          · refine ifB_dec (fun ho => ?_) fun ho => ?_
            · refine ldX h7 0 (x := b.base) ?_
              rw [if_pos ⟨ht, ho⟩] at hst2
              exact nx ⟨e1, IntKind.i64.wrap (b.seq + bsz b), true, b.base⟩ w6 hst2.symm h7.tail
            · rw [if_neg (fun hh => ho hh.2)] at hst2
              exact nx ⟨e1, IntKind.i64.wrap (b.seq + bsz b), true, o0⟩ w6 hst2.symm h7.tail
          · rw [if_neg (fun hh => by rw [ht] at hh; cases hh.1)] at hst2
            exact nx ⟨e1, IntKind.i64.wrap (b.seq + bsz b), true, o0⟩ w6 hst2.symm h7.tail
      · cases is0 with
        | false =>
          refine ldX h4 3 (x := b.pe) ?_
          exact ⟨rfl, rfl, h4⟩
        | true =>
          refine ldX h4 3 (x := b.pe) ?_
          refine ifB_dec (fun hgt => ?_) fun hgt => ?_
          · refine ldX h4 3 (x := b.pe) ?_
            exact ⟨by simp [hgt], by simp [hgt], h4⟩
          · exact ⟨by simp [hgt], by simp [hgt], h4⟩
    · have skip : (b.pid ≠ pid ∨ pid = 0) → ∀ w4, Sat W w4 (Blk m b.cells T_api_Batch :: Blk g [s.v] T_penstockref09_Table :: l) → (∃ j : Nat, IntKind.i64.wrap ((i : Int) + 1) = (j : Int) ∧ j ≤ tl.length ∧ (⟨e0, n0, is0, o0⟩ : Kn) = kn pid (tl.take j) ∧ Sat W w4 (Blk g [s.v] T_penstockref09_Table :: l)) ∧ tl.length - (IntKind.i64.wrap ((i : Int) + 1)).toNat < tl.length - ((i : Int)).toNat := fun hp w4 h4 => by
        refine nx ⟨e0, n0, is0, o0⟩ w4 ?_ h4.tail
        rw [hst]
        unfold knStep
        rw [if_pos hp]
      refine ldX h3 2 (k := .int .u64) (x := b.pid) ?_
      refine ifB_bne (fun hne => skip (.inl hne) w3 h3) fun he => ?_
      refine ifB_beq (fun h0 => skip (.inr h0) w3 h3) fun h0 => ⟨by rintro (hh | hh); exact hh he; exact h0 hh, h3⟩
  · have e : i = tl.length := by omega
    subst e
    rw [List.take_of_length_le (Nat.le_refl _)] at hk
    have hf := hK w2 h2
    rw [← hk] at hf
    cases is0 with
    | false => exact hf
    | true => exact hf
/-- whether an epoch rose -/
theorem rose_ok {i : Int} {ep : Int} (h : Sat W w (Blk g [s.v] T_penstockref09_Table :: l)) (hr : Rd W l s 9 (elB.flat tl)) (hn : tl.length ≤ 1000000000) (hi0 : 0 ≤ i) (hi1 : i < tl.length) (hK : ∀ (t : Bool) w', Sat W w' (Blk g [s.v] T_penstockref09_Table :: l) → K (.bool t) w') :
    CallP P F_ref09_Table_rose [.pointer (some ⟨g, 0, none⟩), .int .i64 i, .int .i64 ep] w K := by
  apply c_ref09_Table_rose
  unfold S_ref09_Table_rose
  have hsl : s.len = tl.length := RdC.elen (E := elB) (hr w h.tail) (by decide)
  refine ⟨fun z w' => ∃ j : Nat, z.1 = j ∧ j ≤ tl.length ∧ Sat W w' (Blk g [s.v] T_penstockref09_Table :: l), fun z _ => tl.length - z.1.toNat, ⟨0, rfl, Nat.zero_le _, h⟩, ?_⟩
  rintro ⟨j', u⟩ w2 ⟨j, hj, hjl, h2⟩
  simp only at hj ⊢
  subst hj
  refine ifB_dec (fun hle => ?_) fun hgt => hK true w2 h2
  have hj1 : j < tl.length := by omega
  have hii : i.toNat < tl.length := by omega
  have h3 := h2.drew
  have hw1 : IntKind.i64.wrap ((j : Int) + 1) = ((j + 1 : Nat) : Int) := w_i64 (by omega) (by omega)
  have nx : ((∃ k : Nat, IntKind.i64.wrap ((j : Int) + 1) = (k : Int) ∧ k ≤ tl.length ∧ Sat W w2.drew (Blk g [s.v] T_penstockref09_Table :: l)) ∧ tl.length - (IntKind.i64.wrap ((j : Int) + 1)).toNat < tl.length - ((j : Int)).toNat) := by
    rw [hw1]; exact ⟨⟨j + 1, rfl, by omega, h3⟩, by omega⟩
  refine ldX h3 0 (k := .sl) (x := s) ?_
  refine ixEl (E := elB) et_bts rfl (hr _ h3.tail) (by omega) (x := tl[j]) (by rw [Int.toNat_natCast, List.getElem?_eq_getElem hj1]) (by omega) fun A hA => ?_
  refine ldC (k := .int .u64) (x := tl[j].pid) (hA 2 _ rfl) ?_
  refine ldX h3 0 (k := .sl) (x := s) ?_
  refine ixEl (E := elB) et_bts rfl (hr _ h3.tail) hi0 (x := tl[i.toNat]) (by rw [List.getElem?_eq_getElem hii]) (by omega) fun A2 hA2 => ?_
  refine ldC (k := .int .u64) (x := tl[i.toNat].pid) (hA2 2 _ rfl) ?_
  refine ifB_beq (fun _ => ?_) fun _ => nx
  refine ldX h3 0 (k := .sl) (x := s) ?_
  refine ixEl (E := elB) et_bts rfl (hr _ h3.tail) (by omega) (x := tl[j]) (by rw [Int.toNat_natCast, List.getElem?_eq_getElem hj1]) (by omega) fun A hA => ?_
  refine ldC (x := tl[j].pe) (hA 3 _ rfl) ?_
  refine ifB_beq (fun _ => hK false _ h3) fun _ => nx
/-- some of a producer's last batches -/
theorem last_ok (h : Sat W w (Blk g [s.v] T_penstockref09_Table :: l)) (hr : Rd W l s 9 (elB.flat tl)) (hn : tl.length ≤ 1000000000) (hK : ∀ (s2 : Sl) (ll : List Bt) w', ll.length ≤ 5 → Sat W w' (SlR T_api_Batch 9 s2 (elB.flat ll) :: Blk g [s.v] T_penstockref09_Table :: l) → K s2.v w') :
    CallP P F_ref09_Table_last [.pointer (some ⟨g, 0, none⟩), .int .u64 pid] w K := by
  apply c_ref09_Table_last
  unfold S_ref09_Table_last
  have hsl : s.len = tl.length := RdC.elen (E := elB) (hr w h.tail) (by decide)
  refine known_ok (pid := pid) h hr hn fun w1 h1 => ?_
  obtain ⟨e0, n0, o0, i0, hv⟩ : ∃ e n o b, (kn pid tl).v = .tuple #[.int .i64 e, .int .i64 n, .int .i64 o, .bool b] := by
    unfold Kn.v; split
    · exact ⟨_, _, _, _, rfl⟩
    · exact ⟨_, _, _, _, rfl⟩
  rw [hv]
  refine ⟨(e0, n0, o0, i0, ()), rfl, ?_⟩
  refine ldX h1 0 (k := .sl) (x := s) ?_
  refine ⟨fun z w' => ∃ ll : List Bt, -1 ≤ z.2.1 ∧ z.2.1 < tl.length ∧ ll.length ≤ 5 ∧ Sat W w' (SlR T_api_Batch 9 z.1 (elB.flat ll) :: Blk g [s.v] T_penstockref09_Table :: l), fun z _ => (z.2.1 + 1).toNat,
    ⟨[], by show -1 ≤ IntKind.i64.wrap ((s.len : Int) - 1); rw [w_i64 (by omega) (by omega)]; omega, by show IntKind.i64.wrap ((s.len : Int) - 1) < _; rw [w_i64 (by omega) (by omega)]; omega, Nat.zero_le _, Sat.nilSlr h1 T_api_Batch 9⟩, ?_⟩
  rintro ⟨s2, i, u⟩ w2 ⟨ll, hi0, hi1, hll, h2⟩
  simp only at hi0 hi1 h2 ⊢
  have hl2 : s2.len = ll.length := RdC.elen (E := elB) h2.rdc (by decide)
  refine ⟨fun _ w' => 0 ≤ i ∧ ll.length < 5 ∧ w' = w2, ?_, ?_⟩
  · rintro _ w3 ⟨hi0, hl5, rfl⟩
    have hii : i.toNat < tl.length := by omega
    refine ldX h2.swap 0 (k := .sl) (x := s) ?_
    refine ixEl (E := elB) et_bts rfl (hr _ h2.tail.tail) hi0 (x := tl[i.toNat]) (by rw [List.getElem?_eq_getElem hii]) (by omega) fun A hA => ?_
    refine ldAggC (cs := tl[i.toNat].cells) hA ?_
    generalize tl[i.toNat] = b
    refine newAgg (z := zBt) h2 (elB.one b) fun m w4 h4 => ?_
    have h4 : Sat W w4 (Blk m b.cells T_api_Batch :: SlR T_api_Batch 9 s2 (elB.flat ll) :: Blk g [s.v] T_penstockref09_Table :: l) := h4
    have hw1 : IntKind.i64.wrap (i - 1) = i - 1 := w_i64 (by omega) (by omega)
    have nx : ∀ (s3 : Sl) (l3 : List Bt) w5, l3.length ≤ 5 → Sat W w5 (SlR T_api_Batch 9 s3 (elB.flat l3) :: Blk g [s.v] T_penstockref09_Table :: l) →
        (∃ ll : List Bt, -1 ≤ IntKind.i64.wrap (i - 1) ∧ IntKind.i64.wrap (i - 1) < tl.length ∧ ll.length ≤ 5 ∧ Sat W w5 (SlR T_api_Batch 9 s3 (elB.flat ll) :: Blk g [s.v] T_penstockref09_Table :: l)) ∧ (IntKind.i64.wrap (i - 1) + 1).toNat < (i + 1).toNat := by
      intro s3 l3 w5 hl3 h5
      rw [hw1]
      exact ⟨⟨l3, by omega, by omega, hl3, h5⟩, by omega⟩
    refine ldX h4 2 (k := .int .u64) (x := b.pid) ?_
    refine ifB_bne (fun _ => nx s2 ll w4 hll h4.tail) fun _ => ?_
    refine ⟨fun _ w' => Sat W w' (Blk m b.cells T_api_Batch :: SlR T_api_Batch 9 s2 (elB.flat ll) :: Blk g [s.v] T_penstockref09_Table :: l), ?_, ?_⟩
    · rintro _ w5 h5
      refine ldX h5 6 (k := .bool) (x := b.control) ?_
      refine ifB_intro (fun hc => ?_) fun hc => nx s2 ll w5 hll h5.tail
      refine ldAggB h5 (by kernel_rfl) ?_
      refine bsB h5 (cs := b.cells) (e := T_api_Batch) (fun w => by kernel_rfl) fun g2 w6 h6 => ?_
      have h7 : Sat W w6 (SlR T_api_Batch 9 s2 (elB.flat ll) :: Blk g2 b.cells T_api_Batch :: Blk m b.cells T_api_Batch :: Blk g [s.v] T_penstockref09_Table :: l) := h6.sel 3 [2, 0, 1]
      refine pushB et_bts (by decide) h7 rfl (elB.one b) (by omega) (by omega) fun s3 w7 h8 => ?_
      have e : elB.flat ll ++ b.cells = elB.flat (ll ++ [b]) := by rw [flat_app, flat_one]; rfl
      rw [e] at h8
      exact nx s3 (ll ++ [b]) w7 (by rw [List.length_append, List.length_singleton]; omega) (h8.sel 4 [0, 3])
    · refine ldX h4 3 (x := b.pe) ?_
      refine ifB_dec (fun _ => ?_) fun _ => h4
      have h5 : Sat W w4 (Blk g [s.v] T_penstockref09_Table :: Blk m b.cells T_api_Batch :: SlR T_api_Batch 9 s2 (elB.flat ll) :: l) := h4.sel 3 [2, 0, 1]
      refine rose_ok h5 hr.cons.cons hn hi0 (by omega) fun t w5 h6 => tyI (k := .bool) ?_
      have h7 : Sat W w5 (Blk m b.cells T_api_Batch :: SlR T_api_Batch 9 s2 (elB.flat ll) :: Blk g [s.v] T_penstockref09_Table :: l) := h6.sel 3 [1, 2, 0]
      refine ifB_intro (fun _ => hK s2 ll w5 hll h7.tail) fun _ => h7
  · refine ifB_dec (fun hge => ?_) fun _ => hK s2 ll w2 hll h2
    refine ifB_dec (fun h5 => ⟨hge, by omega, rfl⟩) fun _ => hK s2 ll w2 hll h2
/-- a batch is noted -/
theorem apply_ok {b : Bt} (h : Sat W w (Blk g [s.v] T_penstockref09_Table :: SlR T_api_Batch 9 s (elB.flat tl) :: l)) (hn : tl.length ≤ 1000000000) (hK : ∀ s' w', Sat W w' (Blk g [Sl.v s'] T_penstockref09_Table :: SlR T_api_Batch 9 s' (elB.flat (if b.pid > 0 then tl ++ [b] else tl)) :: l) → K (.tuple #[]) w') :
    CallP P F_ref09_Table_Apply [.pointer (some ⟨g, 0, none⟩), .agg b.cells.toArray] w K := by
  apply c_ref09_Table_Apply
  unfold S_ref09_Table_Apply
  have hsl : s.len = tl.length := RdC.elen (E := elB) h.tail.rdc (by decide)
  refine boxB h fun m w1 h1 => ?_
  have h1 : Sat W w1 (Blk m b.cells T_api_Batch :: Blk g [s.v] T_penstockref09_Table :: SlR T_api_Batch 9 s (elB.flat tl) :: l) := h1
  refine ldX h1 2 (k := .int .u64) (x := b.pid) ?_
  refine ifB_dec (fun hp => ?_) fun hp => ?_
  · rw [if_pos hp] at hK
    have h2 := h1.drew
    let S : World → Prop := fun w => ∃ L, Sat W w (Blk m b.cells T_api_Batch :: L)
    have e : elB.flat tl ++ b.cells = elB.flat (tl ++ [b]) := by rw [flat_app, flat_one]; rfl
    refine ⟨S, ⟨_, h2⟩, ?_⟩
    refine hldAggB (S := S) (cs := b.cells) (fun w h => h) (by kernel_rfl) ?_
    have fin : ∀ g2 w3, Sat W w3 (Blk g2 b.cells T_api_Batch :: Blk m b.cells T_api_Batch :: Blk g [s.v] T_penstockref09_Table :: SlR T_api_Batch 9 s (elB.flat tl) :: l) →
        RunK .sl P (Builtin.append_ #[T_sl_api_Batch, T_sl_api_Batch] T_sl_api_Batch #[s.v, Sl.v ⟨some ⟨g2, 0, none⟩, 1, 1⟩]) w3 fun (s9 : Sl) w10 =>
             (S w10) ∧ StoreP P T_sl_api_Batch (.pointer (some ((⟨g, 0, none⟩ : Addr).add 0))) s9.v w10 fun w12 => (S w12) ∧ K (.tuple #[]) w12 := by
      intro g2 w3 h3
      refine pushB et_bts (by decide) (h3.sel 4 [3, 0, 1, 2]) rfl (elB.one b) (by omega) (by omega) fun s3 w4 h4 => ?_
      rw [e] at h4
      have h5 : Sat W w4 (Blk g [s.v] T_penstockref09_Table :: Blk m b.cells T_api_Batch :: SlR T_api_Batch 9 s3 (elB.flat (tl ++ [b])) :: l) := h4.sel 4 [3, 2, 0]
      refine ⟨⟨_, h5.swap⟩, ?_⟩
      refine stX h5 0 fun w5 h6 => ?_
      have h6 : Sat W w5 (Blk g [s3.v] T_penstockref09_Table :: Blk m b.cells T_api_Batch :: SlR T_api_Batch 9 s3 (elB.flat (tl ++ [b])) :: l) := h6
      exact ⟨⟨_, h6.swap⟩, hK s3 w5 (h6.cut 1)⟩
    refine ⟨?_, ?_, trivial⟩
    · refine ldX h2.swap 0 (k := .sl) (x := s) ⟨⟨_, h2⟩, ?_⟩
      refine bsB h2 (cs := b.cells) (e := T_api_Batch) (fun w => by kernel_rfl) fun g2 w3 h3 => ⟨⟨_, h3.swap⟩, ?_⟩
      exact fin g2 w3 h3
    · refine bsB h2 (cs := b.cells) (e := T_api_Batch) (fun w => by kernel_rfl) fun g2 w3 h3 => ⟨⟨_, h3.swap⟩, ?_⟩
      have h3 : Sat W w3 (Blk g2 b.cells T_api_Batch :: Blk m b.cells T_api_Batch :: Blk g [s.v] T_penstockref09_Table :: SlR T_api_Batch 9 s (elB.flat tl) :: l) := h3
      have h3g : Sat W w3 (Blk g [s.v] T_penstockref09_Table :: _) := h3.up 2
      refine ldX h3g 0 (k := .sl) (x := s) ⟨⟨_, h3.swap⟩, ?_⟩
      exact fin g2 w3 h3
  · rw [if_neg hp] at hK
    exact hK s w1 h1.tail
end
end Go.Proofs.Ytajhdjjmhfbhgaa

/- The reference of layer 9: producers, open transactions, aborts; its check. -/
namespace Go.Proofs.Ytajhdjjmhfbhgaa
open Go Go.Pk
def vU (n : Int) : Value := .int .u64 n
theorem vU_all (xs : List Int) : ∀ u ∈ xs.map vU, u.oneCell' = true := by
  intro u hu
  obtain ⟨x, _, rfl⟩ := List.mem_map.1 hu
  rfl
/-- what opens first -/
def US (tl : List Bt) (first : Int) (any : Bool) : Prop := (any = false → ∀ b ∈ tl, (kn b.pid tl).opn < 0) ∧ (any = true → 0 ≤ first ∧ (∃ b ∈ tl, (kn b.pid tl).opn = first) ∧ ∀ b ∈ tl, 0 ≤ (kn b.pid tl).opn → first ≤ (kn b.pid tl).opn)
def abOf (tl : List Bt) (lo hi : Int) (i : Nat) : List Ao := match tl[i]? with
  | none => []
  | some b => if b.control = true ∧ b.commit = false ∧ (kn b.pid (tl.take i)).is = true ∧ (kn b.pid (tl.take i)).opn ≥ 0 ∧ b.base ≥ lo ∧ (kn b.pid (tl.take i)).opn < hi then [⟨b.pid, (kn b.pid (tl.take i)).opn, b.base⟩] else []
def aborts (tl : List Bt) (lo hi : Int) : List Ao := (List.range tl.length).flatMap (abOf tl lo hi)
theorem et_abs : ET P T_sl_api_Abort T_api_Abort 3 24 := ET.of (by kernel_rfl)
theorem kn_is {pid : Int} (hp : pid ≠ 0) : ∀ (tl : List Bt) (k : Kn), (∃ b ∈ tl, b.pid = pid) ∨ k.is = true → (tl.foldl (knStep pid) k).is = true
  | [], k, h => by
    rcases h with ⟨b, hb, _⟩ | h
    · cases hb
    · exact h
  | b :: tl, k, h => by
    rw [List.foldl_cons]
    refine kn_is hp tl _ ?_
    by_cases hb : b.pid = pid
    · right
      unfold knStep
      rw [if_neg (by rintro (h | h); exact h hb; exact hp h)]
      simp only
      split <;> rfl
    · rcases h with ⟨c, hc, he⟩ | h
      · rcases List.mem_cons.1 hc with rfl | hc
        · exact absurd he hb
        · exact .inl ⟨c, hc, he⟩
      · right
        unfold knStep
        rw [if_pos (.inl hb)]; exact h
section
variable {W w : World} {l : List Res} {K : Value → World → Prop} {g : Nat} {s : Sl} {tl : List Bt} {pid : Int}
theorem pids_ok (h : Sat W w (Blk g [s.v] T_penstockref09_Table :: l)) (hr : Rd W l s 9 (elB.flat tl)) (hn : tl.length ≤ 1000000000) (hK : ∀ (s2 : Sl) (pl : List Int) w', (∀ b ∈ tl, b.pid ∈ pl) → (∀ p ∈ pl, ∃ b ∈ tl, b.pid = p) → pl.length ≤ tl.length → Sat W w' (SlR T_uint64 1 s2 (pl.map vU) :: Blk g [s.v] T_penstockref09_Table :: l) → K s2.v w') :
    CallP P F_ref09_Table_Pids [.pointer (some ⟨g, 0, none⟩)] w K := by
  apply c_ref09_Table_Pids
  unfold S_ref09_Table_Pids
  have hsl : s.len = tl.length := RdC.elen (E := elB) (hr w h.tail) (by decide)
  refine ⟨fun z w' => ∃ (i : Nat) (pl : List Int), z.2.1 = i ∧ i ≤ tl.length ∧ (∀ b ∈ tl.take i, b.pid ∈ pl) ∧ (∀ p ∈ pl, ∃ b ∈ tl, b.pid = p) ∧ pl.length ≤ i ∧ Sat W w' (SlR T_uint64 1 z.1 (pl.map vU) :: Blk g [s.v] T_penstockref09_Table :: l), fun z _ => tl.length - z.2.1.toNat, ⟨0, [], rfl, Nat.zero_le _, by simp, by simp, Nat.le_refl _, Sat.nilSlr h T_uint64 1⟩, ?_⟩
  rintro ⟨sp, i', u⟩ w2 ⟨i, pl, hi, hil, hp1, hp2, hp3, h2⟩
  simp only at hi h2 ⊢
  subst hi
  have hpl : sp.len = pl.length := by have := h2.slLen.1; simp at this; omega
  refine ldX h2.swap 0 (k := .sl) (x := s) ?_
  refine ifB_dec (fun hlt => ?_) fun hge => ?_
  · have hi1 : i < tl.length := by omega
    have hw1 : IntKind.i64.wrap ((i : Int) + 1) = ((i + 1 : Nat) : Int) := w_i64 (by omega) (by omega)
    have hx : tl[(i : Int).toNat]? = some tl[i] := by rw [Int.toNat_natCast, List.getElem?_eq_getElem hi1]
    have htk : ∀ b ∈ tl.take (i + 1), b ∈ tl.take i ∨ b = tl[i] := by
      intro b hb
      rw [List.take_add_one, List.getElem?_eq_getElem hi1] at hb
      rcases List.mem_append.1 hb with hb | hb
      · exact .inl hb
      · right; simpa using hb
    have hmem : tl[i] ∈ tl := List.getElem_mem hi1
    have nx : ∀ (s3 : Sl) (l3 : List Int) w5, (∀ p ∈ pl, p ∈ l3) → tl[i].pid ∈ l3 → (∀ p ∈ l3, p ∈ pl ∨ p = tl[i].pid) → l3.length ≤ pl.length + 1 → Sat W w5 (SlR T_uint64 1 s3 (l3.map vU) :: Blk g [s.v] T_penstockref09_Table :: l) →
        (∃ (j : Nat) (pl : List Int), IntKind.i64.wrap ((i : Int) + 1) = j ∧ j ≤ tl.length ∧ (∀ b ∈ tl.take j, b.pid ∈ pl) ∧ (∀ p ∈ pl, ∃ b ∈ tl, b.pid = p) ∧ pl.length ≤ j ∧ Sat W w5 (SlR T_uint64 1 s3 (pl.map vU) :: Blk g [s.v] T_penstockref09_Table :: l)) ∧ tl.length - (IntKind.i64.wrap ((i : Int) + 1)).toNat < tl.length - ((i : Int)).toNat := by
      intro s3 l3 w5 a1 a2 a3 a4 h5
      rw [hw1]
      refine ⟨⟨i + 1, l3, rfl, by omega, fun b hb => ?_, fun p hp => ?_, by omega, h5⟩, by omega⟩
      · rcases htk b hb with hb | rfl
        · exact a1 _ (hp1 b hb)
        · exact a2
      · rcases a3 p hp with hp | rfl
        · exact hp2 p hp
        · exact ⟨_, hmem, rfl⟩
    -- a new one is put in its place
    have put : ∀ (at_ : Nat) w4, at_ ≤ pl.length → Sat W w4 (SlR T_uint64 1 sp (pl.map vU) :: Blk g [s.v] T_penstockref09_Table :: l) →
       RunQ .sl P (Instr.sliceAt T_sl_uint64 sp.v none (some (.int .i64 (at_ : Int))) none) w4 fun (s46 : Sl) =>
        RunK .sl P (Builtin.append_ #[T_sl_uint64, T_sl_uint64] T_sl_uint64 #[(.slice none 0 0), s46.v]) w4 fun (s47 : Sl) w48 =>
         nilCk (some (⟨g, 0, none⟩ : Addr)) fun (a49 : Addr) =>
          RunQ .sl P (Instr.loadAt T_sl_api_Batch (.pointer (some (a49.add 0)))) w48 fun (s50 : Sl) =>
           RunQ .addr P (Instr.indexAt T_sl_api_Batch s50.v (.int .i64 (i : Int))) w48 fun (a51 : Addr) =>
            RunQ (.int .u64) P (Instr.loadAt T_uint64 (.pointer (some (Go.Addr.add a51 2)))) w48 fun (n52 : Int) =>
             RunK .sl P (Instr.buildSlice T_sl_uint64 1 #[(0, (.int .u64 n52))]) w48 fun (s53 : Sl) w54 =>
              RunK .sl P (Builtin.append_ #[T_sl_uint64, T_sl_uint64] T_sl_uint64 #[s47.v, s53.v]) w54 fun (s55 : Sl) w56 =>
               RunQ .sl P (Instr.sliceAt T_sl_uint64 sp.v (some (.int .i64 (at_ : Int))) none none) w56 fun (s57 : Sl) =>
                RunK .sl P (Builtin.append_ #[T_sl_uint64, T_sl_uint64] T_sl_uint64 #[s55.v, s57.v]) w56 fun (s58 : Sl) w59 =>
                ((∃ (j : Nat) (pl : List Int), IntKind.i64.wrap ((i : Int) + 1) = j ∧ j ≤ tl.length ∧ (∀ b ∈ tl.take j, b.pid ∈ pl) ∧ (∀ p ∈ pl, ∃ b ∈ tl, b.pid = p) ∧ pl.length ≤ j ∧ Sat W w59 (SlR T_uint64 1 s58 (pl.map vU) :: Blk g [s.v] T_penstockref09_Table :: l)) ∧ tl.length - (IntKind.i64.wrap ((i : Int) + 1)).toNat < tl.length - ((i : Int)).toNat) := by
      intro at_ w4 hat h4
      have hcap := h4.rdc.2.1
      refine ⟨⟨sp.a, at_, sp.cap⟩, run_sliceHi et_u64s (by omega) (by omega) w4, ?_⟩
      have hr4 : RdC w4 ⟨sp.a, at_, sp.cap⟩ 1 ((pl.take at_).map vU) := by
        have := h4.rdc.hi (n := at_) (by omega)
        rw [Nat.mul_one, ← List.map_take] at this
        exact this
      refine appB et_u64s (by decide) (s := ⟨none, 0, 0⟩) (Sat.nilSlr h4 T_uint64 1) hr4 (vU_all _) (by simp only; omega) (by simp only; omega) fun s47 w5 h5 hs47 => ?_
      have h5 : Sat W w5 (SlR T_uint64 1 s47 ((pl.take at_).map vU) :: SlR T_uint64 1 sp (pl.map vU) :: Blk g [s.v] T_penstockref09_Table :: l) := by simpa using h5
      have hs47 : s47.len = at_ := by simpa using hs47
      have h5g : Sat W w5 (Blk g [s.v] T_penstockref09_Table :: _) := h5.up 2
      refine ldX h5g 0 (k := .sl) (x := s) ?_
      refine ixEl (E := elB) et_bts rfl (hr w5 h5.tail.tail.tail) (by omega) (x := tl[i]) hx (by omega) fun A hA => ?_
      refine ldC (k := .int .u64) (x := tl[i].pid) (hA 2 _ rfl) ?_
      refine bsB h5 (cs := [.int .u64 tl[i].pid]) (e := T_uint64) (fun w => by kernel_rfl) fun g2 w6 h6 => ?_
      refine pushB et_u64s (by decide) (h6.sel 4 [1, 0, 2, 3]) rfl (by intro u hu; simp at hu; subst hu; rfl) (by omega) (by omega) fun s55 w7 h7 => ?_
      have h7 : Sat W w7 (SlR T_uint64 1 s55 ((pl.take at_).map vU ++ [.int .u64 tl[i].pid]) :: SlR T_uint64 1 sp (pl.map vU) :: Blk g [s.v] T_penstockref09_Table :: l) := h7.cut 1
      have hl55 : s55.len = at_ + 1 := by
        have := h7.slLen.1
        simp at this; omega
      have hcap7 := h7.tail.rdc.2.1
      refine ⟨subSl sp 1 at_ sp.len, run_sliceLo et_u64s (by omega) (by omega) hcap7 w7, ?_⟩
      have hr7 : RdC w7 (subSl sp 1 at_ sp.len) 1 ((pl.drop at_).map vU) := by
        have := h7.tail.rdc.sub (lo := at_) (hi := sp.len) (by omega) (Nat.le_refl _)
        rw [Nat.mul_one, Nat.mul_one, ← List.map_drop, List.take_of_length_le (by rw [List.length_map, List.length_drop]; omega)] at this
        exact this
      refine appB et_u64s (by decide) (s := s55) h7 hr7 (vU_all _) (by show (s55.len + (sp.len - at_)) * 8 ≤ _; omega) (by show s55.len + (sp.len - at_) < _; omega) fun s58 w8 h8 _ => ?_
      have e : ((pl.take at_).map vU ++ [.int .u64 tl[i].pid]) ++ (pl.drop at_).map vU = (pl.take at_ ++ tl[i].pid :: pl.drop at_).map vU := by
        rw [List.map_append, List.map_cons, List.append_assoc]; rfl
      rw [e] at h8
      refine nx s58 (pl.take at_ ++ tl[i].pid :: pl.drop at_) w8 (fun p hp => ?_) (by simp) (fun p hp => ?_) ?_ (h8.cut 1)
      · rw [← List.take_append_drop at_ pl] at hp
        rcases List.mem_append.1 hp with hp | hp
        · exact List.mem_append_left _ hp
        · exact List.mem_append_right _ (List.mem_cons_of_mem _ hp)
      · rcases List.mem_append.1 hp with hp | hp
        · exact .inl (List.mem_of_mem_take hp)
        · rcases List.mem_cons.1 hp with rfl | hp
          · exact .inr rfl
          · exact .inl (List.mem_of_mem_drop hp)
      · rw [List.length_append, List.length_cons, List.length_take, List.length_drop]; omega
    refine ⟨fun z w' => ∃ a : Nat, z.1 = a ∧ a ≤ pl.length ∧ Sat W w' (SlR T_uint64 1 sp (pl.map vU) :: Blk g [s.v] T_penstockref09_Table :: l), fun z _ => pl.length - z.1.toNat, ⟨0, rfl, Nat.zero_le _, h2⟩, ?_⟩
    rintro ⟨a', u⟩ w3 ⟨a, ha, hal, h3⟩
    simp only at ha ⊢
    subst ha
    have hwa : a < pl.length → IntKind.i64.wrap ((a : Int) + 1) = ((a + 1 : Nat) : Int) := fun h => w_i64 (by omega) (by omega)
    refine ifB_dec (fun hal2 => ?_) fun hal2 => ?_
    · have ha1 : a < pl.length := by omega
      have h4 := h3.drew
      have hpa : (pl.map vU)[((a : Int).toNat)]? = some (vU pl[a]) := by simp [ha1]
      refine ixld et_u64s h4.rdc (by omega) (k := .int .u64) (x := pl[a]) hpa ?_
      refine ldX h4.swap 0 (k := .sl) (x := s) ?_
      refine ixEl (E := elB) et_bts rfl (hr _ h4.tail.tail) (by omega) (x := tl[i]) hx (by omega) fun A hA => ?_
      refine ldC (k := .int .u64) (x := tl[i].pid) (hA 2 _ rfl) ?_
      refine ifB_dec (fun _ => ?_) fun _ => ?_
      · rw [hwa ha1]
        exact ⟨⟨a + 1, rfl, by omega, h4⟩, by omega⟩
      · refine ⟨fun _ w' => Sat W w' (SlR T_uint64 1 sp (pl.map vU) :: Blk g [s.v] T_penstockref09_Table :: l), fun _ w' h' => put a w' (by omega) h', ?_⟩
        have h5 := h4.drew
        refine ifB_dec (fun _ => ?_) fun _ => h5
        refine ixld et_u64s h5.rdc (by omega) (k := .int .u64) (x := pl[a]) hpa ?_
        refine ldX h5.swap 0 (k := .sl) (x := s) ?_
        refine ixEl (E := elB) et_bts rfl (hr _ h5.tail.tail) (by omega) (x := tl[i]) hx (by omega) fun A hA => ?_
        refine ldC (k := .int .u64) (x := tl[i].pid) (hA 2 _ rfl) ?_
        refine ifB_beq (fun e => nx sp pl _ (fun p hp => hp) (by rw [← e]; exact List.getElem_mem ha1) (fun p hp => .inl hp) (by omega) h5) fun _ => h5
    · refine ⟨fun _ w' => Sat W w' (SlR T_uint64 1 sp (pl.map vU) :: Blk g [s.v] T_penstockref09_Table :: l), fun _ w' h' => put a w' (by omega) h', ?_⟩
      refine ifB_dec (fun hlt => absurd hlt (by omega)) fun _ => h3.drew.drew
  · have e : i = tl.length := by omega
    subst e
    rw [List.take_of_length_le (Nat.le_refl _)] at hp1
    exact hK sp pl w2 hp1 hp2 hp3 h2
end
end Go.Proofs.Ytajhdjjmhfbhgaa

/- Layer 7's reference: its check, copies. -/
namespace Go.Proofs.Ytajhdjjmhfbhgaa
open Go Go.Pk
def VRd (W : World) (l : List Res) (d : Bt) : Prop := Rd W l d.vs 1 (d.ss.map Sl.v) ∧ d.ss.length = d.bs.length ∧ ∀ (i : Nat) (s : Sl) (b : List UInt8), d.ss[i]? = some s → d.bs[i]? = some b → Rd W l s 1 (b.map vB)
theorem VRd.cons {W : World} {l : List Res} {R : Res} {d : Bt} (h : VRd W l d) : VRd W (R :: l) d := ⟨Rd.cons h.1, h.2.1, fun i s b h1 h2 => Rd.cons (h.2.2 i s b h1 h2)⟩
def bad1 (d : Bt) : Prop := d.base < 0 ∨ d.ep < 0 ∨ d.pe < 0 ∨ d.seq < 0 ∨ d.pe > 1000 ∨ d.pid > 1000
def bad7 (d : Bt) : Prop := (match d.control with | true => d.bs.length > 0 ∨ d.txn = false ∨ d.pid = 0 ∨ d.seq ≠ 0 | false => d.bs.length = 0 ∨ d.commit = true) ∨ (d.pid = 0 ∧ (d.txn = true ∨ d.pe > 0 ∨ d.seq > 0))
def bad2 (d : Bt) : Prop := d.bs.length > 16 ∨ ∃ b ∈ d.bs, b.length > 64
open Classical in
noncomputable def chk (d : Bt) : Int := if bad1 d then 1 else if bad7 d then 7 else if bad2 d then 2 else 0
theorem getElem?_vI {t : List Int} {i : Nat} (h : i < t.length) : (t.map vI)[i]? = some (Kd.v (.int .i64) (t[i])) := by simp [vI, h]
section
variable {W w : World} {l : List Res} {K : Value → World → Prop} {d : Bt}
theorem appBytes {s x : Sl} {o n : List UInt8} {ty : TypeId} {K : Sl → World → Prop} (h : Sat W w (BsR s o :: l)) (hx : RdC w x 1 (n.map vB)) (hb : o.length + n.length ≤ 140737488355328)
    (hK : ∀ s' w', Sat W w' (BsR s' (o ++ n) :: l) → K s' w') : RunK .sl P (Builtin.append_ #[T_sl_uint8, T_sl_uint8] ty #[s.v, x.v]) w K := by
  have h1 := Sat.bsLen h
  have h2 := hx.1
  simp at h2
  refine appB et_bytes (by decide) h hx (vB_all n) (by omega) (by omega) fun s' w' h' _ => hK s' w' (by rw [BsR, List.map_append]; exact h')
theorem VRd.len (h : VRd W l d) (hs : Sat W w l) : d.vs.len = d.bs.length ∧ d.vs.len = d.ss.length := by
  have := (h.1 w hs).1
  simp at this
  have := h.2.1
  omega
theorem VRd.ld (h : VRd W l d) (hs : Sat W w l) {i : Nat} (hi : i < d.bs.length) {K : Sl → Prop} (hK : ∀ s, d.ss[i]? = some s → s.len = d.bs[i].length → Rd W l s 1 (d.bs[i].map vB) → K s) :
    RunQ .addr P (Instr.indexAt T_sl_sl_uint8 d.vs.v (.int .i64 i)) w fun a => RunQ .sl P (Instr.loadAt T_sl_uint8 (.pointer (some a))) w K := by
  have hi2 : i < d.ss.length := by rw [h.2.1]; exact hi
  have hr := h.2.2 i d.ss[i] d.bs[i] (List.getElem?_eq_getElem hi2) (List.getElem?_eq_getElem hi)
  have hl := (hr w hs).1
  simp at hl
  refine ixld et_lists (h.1 w hs) (by omega) (k := .sl) (x := d.ss[i]) (by simp [hi2]) ?_
  exact hK _ (List.getElem?_eq_getElem hi2) (by omega) hr
theorem chk_eq1 (h : bad1 d) : chk d = 1 := by simp [chk, h]
theorem chk_eq7 (h : ¬ bad1 d) (h7 : bad7 d) : chk d = 7 := by simp [chk, h, h7]
theorem chk_eq2 (h : ¬ bad1 d) (h7 : ¬ bad7 d) (h2 : bad2 d) : chk d = 2 := by simp [chk, h, h7, h2]
theorem chk_eq0 (h : ¬ bad1 d) (h7 : ¬ bad7 d) (h2 : ¬ bad2 d) : chk d = 0 := by simp [chk, h, h7, h2]
set_option maxHeartbeats 2000000 in
theorem rcheck_ok (h : Sat W w l) (hv : VRd W l d) (hK : ∀ w', Sat W w' l → K (.int .i64 (chk d)) w') : CallP P F_ref07_DocCheck [.agg d.cells.toArray] w K := by
  apply c_ref07_DocCheck
  unfold S_ref07_DocCheck
  refine boxB h fun b w1 h1 => ?_
  have hA : Sat W w1 (Blk b d.cells T_api_Batch :: l) := h1
  have hl := hv.len h
  have hl1 := hl.1
  refine ldB hA (o := 0) ?_
  refine ldB hA (o := 0) ?_
  refine ldB hA (o := 0) ?_
  refine ldB hA (o := 0) ?_
  have r1 : bad1 d → ∀ w, Sat W w (Blk b d.cells T_api_Batch :: l) → K (.int .i64 1) w := fun hb w h => by have := hK w h.tail; rwa [chk_eq1 hb] at this
  have r7 : ¬ bad1 d → bad7 d → ∀ w, Sat W w (Blk b d.cells T_api_Batch :: l) → K (.int .i64 7) w := fun hb h7 w h => by have := hK w h.tail; rwa [chk_eq7 hb h7] at this
  have r2 : ¬ bad1 d → ¬ bad7 d → bad2 d → ∀ w, Sat W w (Blk b d.cells T_api_Batch :: l) → K (.int .i64 2) w := fun hb h7 h2 w h => by have := hK w h.tail; rwa [chk_eq2 hb h7 h2] at this
  have r0 : ¬ bad1 d → ¬ bad7 d → ¬ bad2 d → ∀ w, Sat W w (Blk b d.cells T_api_Batch :: l) → K (.int .i64 0) w := fun hb h7 h2 w h => by have := hK w h.tail; rwa [chk_eq0 hb h7 h2] at this
  clear hK
  refine bsB hA (cs := [d.base, d.ep, d.pe, d.seq].map vI) (e := T_int) (fun w => by kernel_rfl) fun g w2 h2 => ?_
  refine ⟨fun z w' => ∃ i : Nat, z.1 = i ∧ i ≤ 4 ∧ (∀ j, j < i → ∀ n, [d.base, d.ep, d.pe, d.seq][j]? = some n → 0 ≤ n) ∧ Sat W w' (Blk g ([d.base, d.ep, d.pe, d.seq].map vI) T_int :: Blk b d.cells T_api_Batch :: l), fun z _ => 4 - z.1.toNat, ⟨0, rfl, by omega, by omega, h2⟩, ?_⟩
  rintro ⟨i', u⟩ w3 ⟨i, hi, hil, hall, h3⟩
  simp only at hi ⊢
  subst hi
  refine ifB_dec (fun hlt => ?_) fun hge => ?_
  · have hi1 : i < [d.base, d.ep, d.pe, d.seq].length := by simp; omega
    refine ixld et_ints (rdBlk h3 (n := 4) (sz := 1) rfl) (by omega) (k := .int .i64) (x := [d.base, d.ep, d.pe, d.seq][i]) (by exact getElem?_vI hi1) ?_
    refine ifB_dec (fun hneg => ?_) fun hpos => ?_
    · refine r1 ?_ _ h3.tail
      unfold bad1
      have : i = 0 ∨ i = 1 ∨ i = 2 ∨ i = 3 := by omega
      rcases this with rfl | rfl | rfl | rfl <;> simp at hneg <;> omega
    · rw [w_i64 (by omega) (by omega)]
      refine ⟨⟨i + 1, rfl, by omega, ?_, h3⟩, by omega⟩
      intro j hj n hn
      rcases Nat.lt_or_ge j i with h | h
      · exact hall j h n hn
      · have : j = i := by omega
        subst this
        rw [List.getElem?_eq_getElem hi1] at hn
        cases hn; omega
  · have p0 := hall 0 (by omega) _ rfl
    have p1 := hall 1 (by omega) _ rfl
    have p2 := hall 2 (by omega) _ rfl
    have p3 := hall 3 (by omega) _ rfl
    have hB := h3.tail
    refine ⟨fun _ w' => ¬ bad1 d ∧ Sat W w' (Blk b d.cells T_api_Batch :: l), ?_, ?_⟩
    · rintro _ w4 ⟨n1, h4⟩
      refine ⟨fun _ w' => ¬ (match d.control with | true => d.bs.length > 0 ∨ d.txn = false ∨ d.pid = 0 ∨ d.seq ≠ 0 | false => d.bs.length = 0 ∨ d.commit = true) ∧ Sat W w' (Blk b d.cells T_api_Batch :: l), ?_, ?_⟩
      · rintro _ w5 ⟨n7a, h5⟩
        refine ⟨fun _ w' => ¬ bad7 d ∧ Sat W w' (Blk b d.cells T_api_Batch :: l), ?_, ?_⟩
        · rintro _ w6 ⟨n7, h6⟩
          refine ldB h6 (o := 0) ?_
          refine ifB_dec (fun hc => r2 n1 n7 (.inl (by omega)) _ h6) fun hc => ?_
          refine ⟨fun z w' => ∃ i : Nat, z.1 = i ∧ i ≤ d.bs.length ∧ (∀ b ∈ d.bs.take i, b.length ≤ 64) ∧ Sat W w' (Blk b d.cells T_api_Batch :: l), fun z _ => d.bs.length - z.1.toNat, ⟨0, rfl, by omega, by simp, h6⟩, ?_⟩
          rintro ⟨i', u⟩ w7 ⟨i, hi, hil, hall, h7⟩
          simp only at hi ⊢
          subst hi
          refine ldB h7 (o := 0) ?_
          refine ifB_dec (fun hlt => ?_) fun hge => ?_
          · have hi1 : i < d.bs.length := by omega
            refine ldB h7 (o := 0) ?_
            refine (hv.cons (R := Blk b d.cells T_api_Batch)).ld h7 hi1 fun s hs hsl _ => ?_
            refine ifB_dec (fun hc => r2 n1 n7 (.inr ⟨_, List.getElem_mem hi1, by omega⟩) _ h7) fun hc => ?_
            rw [w_i64 (by omega) (by omega)]
            refine ⟨⟨i + 1, rfl, by omega, ?_, h7⟩, by omega⟩
            intro b hb
            rw [List.take_add_one, List.getElem?_eq_getElem hi1] at hb
            rcases List.mem_append.1 hb with hb | hb
            · exact hall b hb
            · simp at hb; subst hb; omega
          · rw [List.take_of_length_le (by omega)] at hall
            exact r0 n1 n7 (by rintro (h | ⟨b, hb, h⟩); omega; have := hall b hb; omega) _ h7
        · clear r0 r2
          simp only [bad7] at r7 ⊢
          have h7p : d.pid = 0 → (d.txn = true ∨ d.pe > 0 ∨ d.seq > 0) → K (.int .i64 7) w5 := fun a b => r7 n1 (.inr ⟨a, b⟩) _ h5
          clear r7
          refine ldB h5 (o := 0) ?_
          refine ifB_beq (fun hp => ?_) fun hp => ⟨fun hh => hh.elim n7a fun hh => hp hh.1, h5⟩
          refine ldB h5 (o := 0) ?_
          refine ifB_intro (fun ht => h7p hp (.inl ht)) fun ht => ?_
          refine ldB h5 (o := 0) ?_
          refine ifB_dec (fun hc => h7p hp (.inr (.inl hc))) fun hc1 => ?_
          refine ldB h5 (o := 0) ?_
          refine ifB_dec (fun hc => h7p hp (.inr (.inr hc))) fun hc2 => ?_
          refine ⟨fun hh => hh.elim n7a fun hh => ?_, h5⟩
          rcases hh.2 with h | h | h
          · change d.txn = false at ht; rw [h] at ht; cases ht
          · exact hc1 h
          · exact hc2 h
      · clear r0 r2
        simp only [bad7] at r7 ⊢
        have h7p : (match d.control with | true => d.bs.length > 0 ∨ d.txn = false ∨ d.pid = 0 ∨ d.seq ≠ 0 | false => d.bs.length = 0 ∨ d.commit = true) → K (.int .i64 7) w4 := fun a => r7 n1 (.inl a) _ h4
        clear r7
        refine ldB h4 (o := 0) ?_
        cases hct : d.control <;> simp only [hct] at h7p ⊢
        · simp only [ifB_false]
          refine ldB h4 (o := 0) ?_
          refine ifB_beq (fun hp => h7p (.inl (by omega))) fun hp => ?_
          refine ldB h4 (o := 0) ?_
          refine ifB_intro (fun ht => h7p (.inr ht)) fun ht => ⟨?_, h4⟩
          rintro (h | h)
          · omega
          · change d.commit = false at ht; rw [h] at ht; cases ht
        · simp only [ifB_true]
          refine ldB h4 (o := 0) ?_
          refine ifB_dec (fun hp => h7p (.inl (by omega))) fun hp0 => ?_
          refine ldB h4 (o := 0) ?_
          refine ifB_not ?_
          refine ifB_intro (fun ht => ?_) fun ht => h7p (.inr (.inl ht))
          refine ldB h4 (o := 0) ?_
          refine ifB_beq (fun hp => h7p (.inr (.inr (.inl hp)))) fun hp1 => ?_
          refine ldB h4 (o := 0) ?_
          refine ifB_bne (fun hp => h7p (.inr (.inr (.inr hp)))) fun hp2 => ⟨?_, h4⟩
          rintro (h | h | h | h)
          · omega
          · change d.txn = true at ht; rw [h] at ht; cases ht
          · exact hp1 h
          · exact h hp2
    · refine ldB hB (o := 0) ?_
      refine ifB_dec (fun hc => r1 (by unfold bad1; right; right; right; right; left; exact hc) _ hB) fun hc1 => ?_
      refine ldB hB (o := 0) ?_
      refine ifB_dec (fun hc => r1 (by unfold bad1; right; right; right; right; right; exact hc) _ hB) fun hc2 => ?_
      refine ⟨?_, hB⟩
      unfold bad1
      change ¬ d.pe > 1000 at hc1
      change ¬ d.pid > 1000 at hc2
      omega
end
def vals (ss : List Sl) (bs : List (List UInt8)) : List Res := (ss.zip bs).map fun p => BsR p.1 p.2
/-- values of one's own -/
def VsR (vs : Sl) (ss : List Sl) (bs : List (List UInt8)) : Res := All [SlR T_sl_uint8 1 vs (ss.map Sl.v), All (vals ss bs)]
section
variable {W w : World} {l : List Res} {K : Value → World → Prop} {d : Bt} {vs : Sl} {ss : List Sl} {bs : List (List UInt8)}
theorem sat_vs : Sat W w (VsR vs ss bs :: l) ↔ Sat W w (SlR T_sl_uint8 1 vs (ss.map Sl.v) :: All (vals ss bs) :: l) := sat_all
theorem vals_snoc {s : Sl} {b : List UInt8} (hl : ss.length = bs.length) (h : Sat W w (BsR s b :: All (vals ss bs) :: l)) : Sat W w (All (vals (ss ++ [s]) (bs ++ [b])) :: l) := by
  have h1 := sat_all.1 h.swap
  rw [sat_all]
  have e : vals (ss ++ [s]) (bs ++ [b]) = vals ss bs ++ [BsR s b] := by
    simp only [vals]
    rw [List.zip_append hl]
    simp
  rw [e, List.append_assoc]
  exact h1
theorem sat_mem {R : Res} {m : List Res} (hm : R ∈ m) (h : Sat W w (All m :: l)) : ∃ l', Sat W w (R :: l') := by
  obtain ⟨a, b, rfl⟩ := List.append_of_mem hm
  have h1 := sat_all.1 h
  rw [List.append_assoc] at h1
  exact ⟨_, h1.perm List.perm_middle⟩
theorem Rd.vsHead : Rd W (VsR vs ss bs :: l) vs 1 (ss.map Sl.v) := fun w h => (sat_vs.1 h).rdc
theorem Rd.vsOne {i : Nat} {s : Sl} {b : List UInt8} (h1 : ss[i]? = some s) (h2 : bs[i]? = some b) : Rd W (VsR vs ss bs :: l) s 1 (b.map vB) := by
  intro w h
  have hm : BsR s b ∈ vals ss bs := by
    simp only [vals]
    refine List.mem_map.2 ⟨(s, b), ?_, rfl⟩
    refine List.mem_of_getElem? (i := i) ?_
    rw [List.getElem?_zip_eq_some]
    exact ⟨h1, h2⟩
  obtain ⟨l', h'⟩ := sat_mem hm (sat_vs.1 h).tail
  exact h'.rdc
theorem VRd.own (hl : ss.length = bs.length) {d : Bt} : VRd W (VsR vs ss bs :: l) { d with vs := vs, ss := ss, bs := bs } :=
  ⟨Rd.vsHead, hl, fun i s b h1 h2 => Rd.vsOne h1 h2⟩
theorem rcopyB (h : Sat W w l) (hv : VRd W l d) (hb : d.bs.length < 2 ^ 40) (hb2 : ∀ b ∈ d.bs, b.length ≤ 140737488355328)
    (hK : ∀ vs ss w', ss.length = d.bs.length → Sat W w' (VsR vs ss d.bs :: l) → K (.agg ({ d with vs := vs, ss := ss } : Bt).cells.toArray) w') : CallP P F_ref07_Copy [.agg d.cells.toArray] w K := by
  apply c_ref07_Copy
  unfold S_ref07_Copy
  refine boxB h fun a w1 h1 => ?_
  have hA : Sat W w1 (Blk a d.cells T_api_Batch :: l) := h1
  have hl := hv.len h
  refine allocB hA (z := .agg #[.int .i64 0, .int .i64 0, .int .u64 0, .int .i64 0, .int .i64 0, .bool false, .bool false, .bool false, .slice none 0 0]) (by kernel_rfl) fun a2 w2 h2 => ?_
  have hs : Sat W w2 (VsR ⟨none, 0, 0⟩ [] [] :: Blk a d.cells T_api_Batch :: Blk a2 [.int .i64 0, .int .i64 0, .int .u64 0, .int .i64 0, .int .i64 0, .bool false, .bool false, .bool false, .slice none 0 0] T_api_Batch :: l) := by
    refine sat_vs.2 (Sat.nilSlr ?_ T_sl_uint8 1)
    exact sat_all.2 h2.swap
  refine ⟨fun z w' => ∃ (i : Nat) (ss : List Sl), z.2.1 = i ∧ i ≤ d.bs.length ∧ ss.length = i ∧ Sat W w' (VsR z.1 ss (d.bs.take i) :: Blk a d.cells T_api_Batch :: Blk a2 [.int .i64 0, .int .i64 0, .int .u64 0, .int .i64 0, .int .i64 0, .bool false, .bool false, .bool false, .slice none 0 0] T_api_Batch :: l), fun z _ => d.bs.length - z.2.1.toNat,
    ⟨0, [], rfl, by omega, rfl, hs⟩, ?_⟩
  rintro ⟨s, i', u⟩ w3 ⟨i, ss, hi, hil, hsl, h3⟩
  simp only at hi h3 ⊢
  subst hi
  refine ldB h3.swap (o := 0) ?_
  refine ifB_dec (fun hlt => ?_) fun hge => ?_
  · have hi1 : i < d.bs.length := by omega
    refine ldB h3.swap (o := 0) ?_
    refine (hv.cons.cons.cons).ld h3 hi1 fun s1 hs1 hs1l hr => ?_
    refine appBytes (s := ⟨none, 0, 0⟩) (o := []) (Sat.nilSlr h3 T_uint8 1) (hr w3 h3) (by simpa using hb2 _ (List.getElem_mem hi1)) fun s2 w4 h4 => ?_
    rw [List.nil_append] at h4
    have h5 := sat_vs.1 h4.swap
    have hle := h5.slLen
    simp only [List.length_map, Nat.mul_one] at hle
    refine app1 et_lists h5 rfl (by omega) (by omega) fun s3 w5 h6 _ => ?_
    have h8 : Sat W w5 (VsR s3 (ss ++ [s2]) (d.bs.take (i + 1)) :: Blk a d.cells T_api_Batch :: Blk a2 [.int .i64 0, .int .i64 0, .int .u64 0, .int .i64 0, .int .i64 0, .bool false, .bool false, .bool false, .slice none 0 0] T_api_Batch :: l) := by
      have e : d.bs.take (i + 1) = d.bs.take i ++ [d.bs[i]] := by rw [List.take_add_one, List.getElem?_eq_getElem hi1]; rfl
      rw [e]
      refine sat_vs.2 ?_
      have h9 := vals_snoc (l := SlR T_sl_uint8 1 s3 ((ss ++ [s2]).map Sl.v) :: Blk a d.cells T_api_Batch :: Blk a2 [.int .i64 0, .int .i64 0, .int .u64 0, .int .i64 0, .int .i64 0, .bool false, .bool false, .bool false, .slice none 0 0] T_api_Batch :: l) (ss := ss) (bs := d.bs.take i) (s := s2) (b := d.bs[i]) (by simp; omega)
        (by
          have h6' : Sat W w5 (SlR T_sl_uint8 1 s3 ((ss ++ [s2]).map Sl.v) :: All (vals ss (d.bs.take i)) :: BsR s2 d.bs[i] :: Blk a d.cells T_api_Batch :: Blk a2 [.int .i64 0, .int .i64 0, .int .u64 0, .int .i64 0, .int .i64 0, .bool false, .bool false, .bool false, .slice none 0 0] T_api_Batch :: l) := by
            rw [List.map_append]; exact h6
          exact h6'.rot3.swap.rot3 |> fun _ => h6'.perm ((List.Perm.swap _ _ _).trans ((List.Perm.cons _ (List.Perm.swap _ _ _)).trans (List.Perm.swap _ _ _))))
      exact h9.swap
    rw [w_i64 (by omega) (by omega)]
    exact ⟨⟨i + 1, ss ++ [s2], rfl, by omega, by simp [hsl], h8⟩, by omega⟩
  · have hii : d.bs.take i = d.bs := List.take_of_length_le (by omega)
    rw [hii] at h3
    refine stB h3.swap (i := 8) (v := s.v) (hi := (by show 8 < 9; decide)) fun w4 h4 => ?_
    have h5 : Sat W w4 (Blk a ({ d with vs := s, ss := ss } : Bt).cells T_api_Batch :: VsR s ss d.bs :: Blk a2 [.int .i64 0, .int .i64 0, .int .u64 0, .int .i64 0, .int .i64 0, .bool false, .bool false, .bool false, .slice none 0 0] T_api_Batch :: l) := h4
    refine ldAggB h5 (by kernel_rfl) ?_
    refine stAggB (cs' := ({ d with vs := s, ss := ss } : Bt).cells) h5.rot3 rfl ?_ (by kernel_rfl) fun w5 h6 => ?_
    · intro u hu
      simp only [Bt.cells, List.mem_cons, List.not_mem_nil, or_false] at hu
      rcases hu with rfl | rfl | rfl | rfl | rfl | rfl | rfl | rfl | rfl <;> rfl
    · exact ldAggB h6 (by kernel_rfl) (hK s ss w5 (by omega) h6.tail.tail)
end
end Go.Proofs.Ytajhdjjmhfbhgaa

/- The reference of layer 9: what is open, what was aborted; its check. -/
namespace Go.Proofs.Ytajhdjjmhfbhgaa
open Go Go.Pk
theorem kn_v {k : Kn} : ∃ e n o b, k.v = .tuple #[.int .i64 e, .int .i64 n, .int .i64 o, .bool b] ∧ (k.is = true → o = k.opn ∧ e = k.ep ∧ n = k.nxt) ∧ b = k.is := by
  unfold Kn.v
  cases h : k.is with
  | true => exact ⟨_, _, _, _, rfl, fun _ => ⟨rfl, rfl, rfl⟩, rfl⟩
  | false => exact ⟨_, _, _, _, rfl, (fun h => by cases h), rfl⟩
theorem kn_opn {pid : Int} (tl : List Bt) (hp : pid ≠ 0) (hb : ∃ b ∈ tl, b.pid = pid) : (kn pid tl).is = true := kn_is hp tl _ (.inl hb)
section
variable {W w : World} {l : List Res} {K : Value → World → Prop} {g : Nat} {s : Sl} {tl : List Bt} {pid : Int}
theorem unstable_ok (h : Sat W w (Blk g [s.v] T_penstockref09_Table :: l)) (hr : Rd W l s 9 (elB.flat tl)) (hn : tl.length ≤ 1000000000) (hpid : ∀ b ∈ tl, b.pid ≠ 0) (hK : ∀ first any w', US tl first any → Sat W w' (Blk g [s.v] T_penstockref09_Table :: l) → K (.tuple #[.int .i64 first, .bool any]) w') :
    CallP P F_ref09_Table_Unstable [.pointer (some ⟨g, 0, none⟩)] w K := by
  apply c_ref09_Table_Unstable
  unfold S_ref09_Table_Unstable
  refine pids_ok h hr hn fun s2 pl w1 hp1 hp2 hp3 h1 => tyI (k := .sl) ?_
  have hpl : s2.len = pl.length := by have := h1.slLen.1; simp at this; omega
  refine ⟨fun z w' => ∃ i : Nat, z.2.2.1 = i ∧ i ≤ pl.length ∧ (z.2.1 = false → ∀ p ∈ pl.take i, (kn p tl).opn < 0) ∧ (z.2.1 = true → 0 ≤ z.1 ∧ (∃ p ∈ pl, (kn p tl).opn = z.1) ∧ ∀ p ∈ pl.take i, 0 ≤ (kn p tl).opn → z.1 ≤ (kn p tl).opn) ∧
      Sat W w' (SlR T_uint64 1 s2 (pl.map vU) :: Blk g [s.v] T_penstockref09_Table :: l), fun z _ => pl.length - z.2.2.1.toNat, ⟨0, rfl, Nat.zero_le _, (fun _ => by simp), (fun h => by cases h), h1⟩, ?_⟩
  rintro ⟨f0, a0, i', u⟩ w2 ⟨i, hi, hil, q1, q2, h2⟩
  simp only at hi q1 q2 ⊢
  subst hi
  refine ifB_dec (fun hlt => ?_) fun hge => ?_
  · have hi1 : i < pl.length := by omega
    have hw1 : IntKind.i64.wrap ((i : Int) + 1) = ((i + 1 : Nat) : Int) := w_i64 (by omega) (by omega)
    have hpa : (pl.map vU)[((i : Int).toNat)]? = some (vU pl[i]) := by simp [hi1]
    refine ixld et_u64s h2.rdc (by omega) (k := .int .u64) (x := pl[i]) hpa ?_
    refine known_ok (pid := pl[i]) h2.swap hr.cons hn fun w3 h3 => ?_
    obtain ⟨b0, hb0, hbp⟩ := hp2 pl[i] (List.getElem_mem hi1)
    have his := kn_opn (pid := pl[i]) tl (by rw [← hbp]; exact hpid b0 hb0) ⟨b0, hb0, hbp⟩
    obtain ⟨e, n, o, b, hv, hv2, _⟩ := kn_v (k := kn pl[i] tl)
    rw [hv]
    refine ⟨(e, n, o, b, ()), rfl, ?_⟩
    have ho := (hv2 his).1
    subst ho
    have h4 := h3.swap
    have hmem : pl[i] ∈ pl := List.getElem_mem hi1
    have htk : ∀ p ∈ pl.take (i + 1), p ∈ pl.take i ∨ p = pl[i] := by
      intro p hp
      rw [List.take_add_one, List.getElem?_eq_getElem hi1] at hp
      rcases List.mem_append.1 hp with hp | hp
      · exact .inl hp
      · right; simpa using hp
    refine ifB_dec (fun hge => ?_) fun hneg => ?_
    · refine ifB_not (ifB_intro (fun ha => ?_) fun ha => ?_)
      · subst ha
        obtain ⟨r1, r2, r3⟩ := q2 rfl
        refine ifB_dec (fun hlt2 => ?_) fun hge2 => ?_
        · have hlt2 : (kn pl[i] tl).opn < f0 := hlt2
          rw [hw1]
          refine ⟨⟨i + 1, rfl, by omega, (fun h => by cases h), fun _ => ⟨hge, ⟨_, hmem, rfl⟩, fun p hp h0 => ?_⟩, h4⟩, by omega⟩
          rcases htk p hp with hp | rfl
          · have := r3 p hp h0; omega
          · exact Int.le_refl _
        · have hge2 : ¬ (kn pl[i] tl).opn < f0 := hge2
          rw [hw1]
          refine ⟨⟨i + 1, rfl, by omega, (fun h => by cases h), fun _ => ⟨r1, r2, fun p hp h0 => ?_⟩, h4⟩, by omega⟩
          rcases htk p hp with hp | rfl
          · exact r3 p hp h0
          · omega
      · subst ha
        rw [hw1]
        refine ⟨⟨i + 1, rfl, by omega, (fun h => by cases h), fun _ => ⟨hge, ⟨_, hmem, rfl⟩, fun p hp h0 => ?_⟩, h4⟩, by omega⟩
        rcases htk p hp with hp | rfl
        · have := q1 rfl p hp; omega
        · exact Int.le_refl _
    · have hneg : ¬ (kn pl[i] tl).opn ≥ 0 := hneg
      rw [hw1]
      refine ⟨⟨i + 1, rfl, by omega, fun ha p hp => ?_, fun ha => ?_, h4⟩, by omega⟩
      · rcases htk p hp with hp | rfl
        · exact q1 ha p hp
        · omega
      · obtain ⟨r1, r2, r3⟩ := q2 ha
        refine ⟨r1, r2, fun p hp h0 => ?_⟩
        rcases htk p hp with hp | rfl
        · exact r3 p hp h0
        · omega
  · have e : i = pl.length := by omega
    subst e
    rw [List.take_of_length_le (Nat.le_refl _)] at q1 q2
    refine hK f0 a0 w2 ⟨fun ha b hb => q1 ha _ (hp1 b hb), fun ha => ?_⟩ h2.tail
    obtain ⟨r1, ⟨p, hp, hpo⟩, r3⟩ := q2 ha
    obtain ⟨b0, hb0, hbp⟩ := hp2 p hp
    exact ⟨r1, ⟨b0, hb0, by rw [hbp]; exact hpo⟩, fun b hb h0 => r3 _ (hp1 b hb) h0⟩
theorem aborts_snoc {lo hi : Int} {i : Nat} : (List.range (i + 1)).flatMap (abOf tl lo hi) = (List.range i).flatMap (abOf tl lo hi) ++ abOf tl lo hi i := by
  rw [List.range_succ, List.flatMap_append]
  simp
theorem abOf_len {lo hi : Int} {i : Nat} : (abOf tl lo hi i).length ≤ 1 := by
  unfold abOf
  split
  · exact Nat.zero_le _
  · split
    · exact Nat.le_refl _
    · exact Nat.zero_le _
theorem aborts_len {lo hi : Int} : ∀ i : Nat, ((List.range i).flatMap (abOf tl lo hi)).length ≤ i
  | 0 => Nat.le_refl _
  | i + 1 => by
    rw [aborts_snoc, List.length_append]
    have := aborts_len (lo := lo) (hi := hi) i
    have := abOf_len (tl := tl) (lo := lo) (hi := hi) (i := i)
    omega
theorem aborts_ok {lo hi : Int} (h : Sat W w (Blk g [s.v] T_penstockref09_Table :: l)) (hr : Rd W l s 9 (elB.flat tl)) (hn : tl.length ≤ 1000000000) (hK : ∀ (s2 : Sl) w', Sat W w' (SlR T_api_Abort 3 s2 (elA.flat (aborts tl lo hi)) :: Blk g [s.v] T_penstockref09_Table :: l) → K s2.v w') :
    CallP P F_ref09_Table_Aborts [.pointer (some ⟨g, 0, none⟩), .int .i64 lo, .int .i64 hi] w K := by
  apply c_ref09_Table_Aborts
  unfold S_ref09_Table_Aborts
  have hsl : s.len = tl.length := RdC.elen (E := elB) (hr w h.tail) (by decide)
  refine ⟨fun z w' => ∃ i : Nat, z.2.1 = i ∧ i ≤ tl.length ∧ Sat W w' (SlR T_api_Abort 3 z.1 (elA.flat ((List.range i).flatMap (abOf tl lo hi))) :: Blk g [s.v] T_penstockref09_Table :: l), fun z _ => tl.length - z.2.1.toNat, ⟨0, rfl, Nat.zero_le _, Sat.nilSlr h T_api_Abort 3⟩, ?_⟩
  rintro ⟨s2, i', u⟩ w2 ⟨i, hi', hil, h2⟩
  simp only at hi' h2 ⊢
  subst hi'
  have hl2 : s2.len = ((List.range i).flatMap (abOf tl lo hi)).length := RdC.elen (E := elA) h2.rdc (by decide)
  have hlen := aborts_len (tl := tl) (lo := lo) (hi := hi) i
  refine ldX h2.swap 0 (k := .sl) (x := s) ?_
  refine ifB_dec (fun hlt => ?_) fun hge => ?_
  · have hi1 : i < tl.length := by omega
    have hw1 : IntKind.i64.wrap ((i : Int) + 1) = ((i + 1 : Nat) : Int) := w_i64 (by omega) (by omega)
    refine ldX h2.swap 0 (k := .sl) (x := s) ?_
    refine ixEl (E := elB) et_bts rfl (hr w2 h2.tail.tail) (by omega) (x := tl[i]) (by rw [Int.toNat_natCast, List.getElem?_eq_getElem hi1]) (by omega) fun A hA => ?_
    refine ldAggC (cs := tl[i].cells) hA ?_
    have hab : abOf tl lo hi i = if tl[i].control = true ∧ tl[i].commit = false ∧ (kn tl[i].pid (tl.take i)).is = true ∧ (kn tl[i].pid (tl.take i)).opn ≥ 0 ∧ tl[i].base ≥ lo ∧ (kn tl[i].pid (tl.take i)).opn < hi then [⟨tl[i].pid, (kn tl[i].pid (tl.take i)).opn, tl[i].base⟩] else [] := by
      unfold abOf
      rw [List.getElem?_eq_getElem hi1]
    generalize tl[i] = b at hab
    refine newAgg (z := zBt) h2 (elB.one b) fun m w3 h3 => ?_
    have h3 : Sat W w3 (Blk m b.cells T_api_Batch :: SlR T_api_Abort 3 s2 (elA.flat ((List.range i).flatMap (abOf tl lo hi))) :: Blk g [s.v] T_penstockref09_Table :: l) := h3
    have nx : ∀ (s3 : Sl) w4, Sat W w4 (SlR T_api_Abort 3 s3 (elA.flat ((List.range i).flatMap (abOf tl lo hi) ++ abOf tl lo hi i)) :: Blk g [s.v] T_penstockref09_Table :: l) →
        (∃ j : Nat, IntKind.i64.wrap ((i : Int) + 1) = j ∧ j ≤ tl.length ∧ Sat W w4 (SlR T_api_Abort 3 s3 (elA.flat ((List.range j).flatMap (abOf tl lo hi))) :: Blk g [s.v] T_penstockref09_Table :: l)) ∧ tl.length - (IntKind.i64.wrap ((i : Int) + 1)).toNat < tl.length - ((i : Int)).toNat := by
      intro s3 w4 h4
      rw [hw1]
      refine ⟨⟨i + 1, rfl, by omega, ?_⟩, by omega⟩
      rw [aborts_snoc]; exact h4
    have skip : ¬ (b.control = true ∧ b.commit = false ∧ (kn b.pid (tl.take i)).is = true ∧ (kn b.pid (tl.take i)).opn ≥ 0 ∧ b.base ≥ lo ∧ (kn b.pid (tl.take i)).opn < hi) → ∀ w4, Sat W w4 (SlR T_api_Abort 3 s2 (elA.flat ((List.range i).flatMap (abOf tl lo hi))) :: Blk g [s.v] T_penstockref09_Table :: l) →
        (∃ j : Nat, IntKind.i64.wrap ((i : Int) + 1) = j ∧ j ≤ tl.length ∧ Sat W w4 (SlR T_api_Abort 3 s2 (elA.flat ((List.range j).flatMap (abOf tl lo hi))) :: Blk g [s.v] T_penstockref09_Table :: l)) ∧ tl.length - (IntKind.i64.wrap ((i : Int) + 1)).toNat < tl.length - ((i : Int)).toNat := by
      intro hc w4 h4
      refine nx s2 w4 ?_
      rw [hab, if_neg hc, List.append_nil]; exact h4
    refine ⟨fun _ w' => b.control = true ∧ b.commit = false ∧ Sat W w' (Blk m b.cells T_api_Batch :: SlR T_api_Abort 3 s2 (elA.flat ((List.range i).flatMap (abOf tl lo hi))) :: Blk g [s.v] T_penstockref09_Table :: l), ?_, ?_⟩
    · rintro _ w4 ⟨c1, c2, h4⟩
      have h4g : Sat W w4 (Blk g [s.v] T_penstockref09_Table :: _) := h4.up 2
      refine ldX h4g 0 (k := .sl) (x := s) ?_
      have hrc := hr w4 h4.tail.tail.tail
      refine ⟨⟨s.a, i, s.cap⟩, run_sliceHi et_bts (by omega) (by have := hrc.2.1; omega) w4, ?_⟩
      refine boxB h4 fun g2 w5 h5 => ?_
      have h5 : Sat W w5 (Blk g2 [Sl.v ⟨s.a, i, s.cap⟩] T_penstockref09_Table :: Blk m b.cells T_api_Batch :: SlR T_api_Abort 3 s2 (elA.flat ((List.range i).flatMap (abOf tl lo hi))) :: Blk g [s.v] T_penstockref09_Table :: l) := h5
      refine ldX h5.swap 2 (k := .int .u64) (x := b.pid) ?_
      have hr2 : Rd W (Blk m b.cells T_api_Batch :: SlR T_api_Abort 3 s2 (elA.flat ((List.range i).flatMap (abOf tl lo hi))) :: Blk g [s.v] T_penstockref09_Table :: l) ⟨s.a, i, s.cap⟩ 9 (elB.flat (tl.take i)) := by
        have := (hr.cons.cons.cons : Rd W (Blk m b.cells T_api_Batch :: SlR T_api_Abort 3 s2 (elA.flat ((List.range i).flatMap (abOf tl lo hi))) :: Blk g [s.v] T_penstockref09_Table :: l) s 9 (elB.flat tl)).hi (n := i) (by omega)
        rw [show (elB.flat tl).take (i * 9) = elB.flat (tl.take i) from flat_take (E := elB) tl i] at this
        exact this
      refine known_ok (pid := b.pid) h5 hr2 (by rw [List.length_take]; omega) fun w6 h6 => ?_
      obtain ⟨e, n, o, bb, hv, hv2, hv3⟩ := kn_v (k := kn b.pid (tl.take i))
      rw [hv]
      refine ⟨(e, n, o, bb, ()), rfl, ?_⟩
      have h7 : Sat W w6 (Blk m b.cells T_api_Batch :: SlR T_api_Abort 3 s2 (elA.flat ((List.range i).flatMap (abOf tl lo hi))) :: Blk g [s.v] T_penstockref09_Table :: l) := h6.tail
      refine ifB_intro (fun hbb => ?_) fun hbb => skip (by rintro ⟨_, _, h, _⟩; have hbb : bb = false := hbb; rw [hv3] at hbb; rw [hbb] at h; cases h) w6 h7.tail
      have hbb : bb = true := hbb
      have his : (kn b.pid (tl.take i)).is = true := by rw [← hv3]; exact hbb
      have ho := (hv2 his).1
      subst ho
      refine ifB_dec (fun h0 => ?_) fun h0 => skip (fun hh => h0 hh.2.2.2.1) w6 h7.tail
      refine ldX h7 0 (x := b.base) ?_
      refine ifB_dec (fun hlo => ?_) fun hlo => skip (fun hh => hlo hh.2.2.2.2.1) w6 h7.tail
      refine ifB_dec (fun hhi => ?_) fun hhi => skip (fun hh => hhi hh.2.2.2.2.2) w6 h7.tail
      refine ldX h7 2 (k := .int .u64) (x := b.pid) ?_
      refine ldX h7 0 (x := b.base) ?_
      rw [if_pos ⟨c1, c2, his, h0, hlo, hhi⟩] at hab
      refine bsB h7 (cs := (⟨b.pid, (kn b.pid (tl.take i)).opn, b.base⟩ : Ao).cells) (e := T_api_Abort) (fun w => by kernel_rfl) fun g3 w7 h8 => ?_
      refine pushB et_abs (by decide) (h8.sel 3 [2, 0, 1]) rfl (elA.one _) (by omega) (by omega) fun s3 w8 h9 => ?_
      refine nx s3 w8 ?_
      rw [hab]
      have e2 : elA.flat ((List.range i).flatMap (abOf tl lo hi)) ++ (⟨b.pid, (kn b.pid (tl.take i)).opn, b.base⟩ : Ao).cells = elA.flat ((List.range i).flatMap (abOf tl lo hi) ++ [⟨b.pid, (kn b.pid (tl.take i)).opn, b.base⟩]) := by rw [flat_app, flat_one]; rfl
      rw [e2] at h9
      exact h9.sel 4 [0, 3]
    · refine ldX h3 6 (k := .bool) (x := b.control) ?_
      refine ifB_not (ifB_intro (fun hc => ?_) fun hc => skip (by rintro ⟨h, _⟩; have hc : b.control = false := hc; rw [hc] at h; cases h) w3 h3.tail)
      refine ldX h3 7 (k := .bool) (x := b.commit) ?_
      refine ifB_intro (fun hm => skip (by rintro ⟨_, h, _⟩; have hm : b.commit = true := hm; rw [hm] at h; cases h) w3 h3.tail) fun hm => ⟨hc, hm, h3⟩
  · have e : i = tl.length := by omega
    subst e
    exact hK s2 w2 h2
/-- its check: what passes is as batches are -/
theorem check9_ok {d : Bt} (h : Sat W w (Blk g [s.v] T_penstockref09_Table :: l)) (hr : Rd W l s 9 (elB.flat tl)) (hn : tl.length ≤ 1000000000) (hv : VRd W l d) (hK : ∀ x again e w', (e = 0 → chk d = 0) → Sat W w' (Blk g [s.v] T_penstockref09_Table :: l) → K (.tuple #[.int .i64 x, .bool again, .int .i64 e]) w') :
    CallP P F_ref09_Table_Check [.pointer (some ⟨g, 0, none⟩), .agg d.cells.toArray] w K := by
  apply c_ref09_Table_Check
  unfold S_ref09_Table_Check
  refine boxB h fun m w1 h1 => ?_
  have h1 : Sat W w1 (Blk m d.cells T_api_Batch :: Blk g [s.v] T_penstockref09_Table :: l) := h1
  refine ldAggB h1 (by kernel_rfl) ?_
  refine rcheck_ok h1 hv.cons.cons fun w2 h2 => tyI (k := .int .i64) ?_
  refine ifB_bne (fun hne => hK 0 false _ w2 (fun h => absurd h hne) h2.tail) fun he => ?_
  have ok : ∀ x again e w', Sat W w' (Blk m d.cells T_api_Batch :: Blk g [s.v] T_penstockref09_Table :: l) → K (.tuple #[.int .i64 x, .bool again, .int .i64 e]) w' := fun x again e w' h' => hK x again e w' (fun _ => he) h'.tail
  refine ldX h2 2 (k := .int .u64) (x := d.pid) ?_
  refine ifB_beq (fun _ => ok 0 false 0 w2 h2) fun _ => ?_
  refine ldX h2 2 (k := .int .u64) (x := d.pid) ?_
  refine known_ok (pid := d.pid) h2.swap hr.cons hn fun w3 h3 => ?_
  obtain ⟨e0, n0, o0, b0, hv0, _, _⟩ := kn_v (k := kn d.pid tl)
  rw [hv0]
  refine ⟨(e0, n0, o0, b0, ()), rfl, ?_⟩
  have h3 := h3.swap
  refine ⟨fun _ w' => Sat W w' (Blk m d.cells T_api_Batch :: Blk g [s.v] T_penstockref09_Table :: l), ?_, ?_⟩
  · rintro _ w4 h4
    refine ldX h4 6 (k := .bool) (x := d.control) ?_
    refine ifB_intro (fun _ => ok 0 false 0 w4 h4) fun _ => ?_
    refine ⟨fun _ w' => Sat W w' (Blk m d.cells T_api_Batch :: Blk g [s.v] T_penstockref09_Table :: l), ?_, ?_⟩
    · rintro _ w5 h5
      refine ldX h5 2 (k := .int .u64) (x := d.pid) ?_
      refine last_ok (pid := d.pid) h5.swap hr.cons hn fun s2 ll w6 hll h6 => tyI (k := .sl) ?_
      have h6 : Sat W w6 (SlR T_api_Batch 9 s2 (elB.flat ll) :: Blk m d.cells T_api_Batch :: Blk g [s.v] T_penstockref09_Table :: l) := h6.sel 3 [0, 2, 1]
      have hl2 : s2.len = ll.length := RdC.elen (E := elB) h6.rdc (by decide)
      refine ⟨fun z w' => -1 ≤ z.1 ∧ z.1 < ll.length ∧ Sat W w' (SlR T_api_Batch 9 s2 (elB.flat ll) :: Blk m d.cells T_api_Batch :: Blk g [s.v] T_penstockref09_Table :: l), fun z _ => (z.1 + 1).toNat,
        ⟨by show -1 ≤ IntKind.i64.wrap ((s2.len : Int) - 1); rw [w_i64 (by omega) (by omega)]; omega, by show IntKind.i64.wrap ((s2.len : Int) - 1) < _; rw [w_i64 (by omega) (by omega)]; omega, h6⟩, ?_⟩
      rintro ⟨i, u⟩ w7 ⟨hi0, hi1, h7⟩
      simp only at hi0 hi1 ⊢
      have hw1 : IntKind.i64.wrap (i - 1) = i - 1 := w_i64 (by omega) (by omega)
      refine ifB_dec (fun hge => ?_) fun _ => ?_
      · have hii : i.toNat < ll.length := by omega
        have h8 := h7.drew
        have nx : (-1 ≤ IntKind.i64.wrap (i - 1) ∧ IntKind.i64.wrap (i - 1) < ll.length ∧ Sat W w7.drew (SlR T_api_Batch 9 s2 (elB.flat ll) :: Blk m d.cells T_api_Batch :: Blk g [s.v] T_penstockref09_Table :: l)) ∧ (IntKind.i64.wrap (i - 1) + 1).toNat < (i + 1).toNat := by
          rw [hw1]; exact ⟨⟨by omega, by omega, h8⟩, by omega⟩
        refine ixEl (E := elB) et_bts rfl h8.rdc hge (x := ll[i.toNat]) (by rw [List.getElem?_eq_getElem hii]) (by omega) fun A hA => ?_
        refine ldC (x := ll[i.toNat].seq) (hA 4 _ rfl) ?_
        refine ldX h8.swap 4 (x := d.seq) ?_
        refine ifB_beq (fun _ => ?_) fun _ => nx
        refine ixEl (E := elB) et_bts rfl h8.rdc hge (x := ll[i.toNat]) (by rw [List.getElem?_eq_getElem hii]) (by omega) fun A hA => ?_
        refine ldC (k := .sl) (x := ll[i.toNat].vs) (hA 8 _ rfl) ?_
        refine ldX h8.swap 8 (k := .sl) (x := d.vs) ?_
        refine ifB_beq (fun _ => ?_) fun _ => nx
        refine ixEl (E := elB) et_bts rfl h8.rdc hge (x := ll[i.toNat]) (by rw [List.getElem?_eq_getElem hii]) (by omega) fun A hA => ?_
        refine ldC (x := ll[i.toNat].base) (hA 0 _ rfl) ?_
        exact ok _ true 0 _ h8.tail
      · refine ldX h7.swap 4 (x := d.seq) ?_
        refine ifB_bne (fun _ => ok 0 false 11 w7 h7.tail) fun _ => ok 0 false 0 w7 h7.tail
    · refine ifB_not (ifB_intro (fun _ => ?_) fun _ => ?_)
      · refine ldX h4 3 (x := d.pe) ?_
        refine ifB_dec (fun _ => ?_) fun _ => h4
        refine ldX h4 4 (x := d.seq) ?_
        refine ifB_dec (fun _ => ok 0 false 11 w4 h4) fun _ => ok 0 false 0 w4 h4
      · refine ldX h4 4 (x := d.seq) ?_
        refine ifB_dec (fun _ => ok 0 false 11 w4 h4) fun _ => ok 0 false 0 w4 h4
  · refine ifB_intro (fun _ => ?_) fun _ => h3
    refine ldX h3 3 (x := d.pe) ?_
    refine ifB_dec (fun _ => ok 0 false 10 w3 h3) fun _ => h3
end
end Go.Proofs.Ytajhdjjmhfbhgaa

/- The reference of layer 14: a leader alone. -/
namespace Go.Proofs.Ytajhdjjmhfbhgaa
open Go Go.Pk
/-- a batch with values of its own -/
def elBv : El Bt := ⟨T_api_Batch, 9, Bt.cells, fun d => VsR d.vs d.ss d.bs, elB.len, elB.one⟩
@[simp] theorem Bt.clen (d : Bt) : d.cells.length = 9 := rfl
theorem elBv_flat (dl : List Bt) : elBv.flat dl = elB.flat dl := rfl
/-- a leader alone -/
structure Rr where
  ls : Sl
  dl : List Bt
  ep : Int
  leads : Bool
  begin : Int
  high : Int
  isr : Sl
def zPeers : List Value := [.bool false, .int .i64 0, .int .i64 0, .bool false, .int .i64 0, .int .i64 0, .bool false, .int .i64 0, .int .i64 0, .bool false, .int .i64 0, .int .i64 0, .bool false, .int .i64 0, .int .i64 0]
def Rr.cells (r : Rr) : List Value := [.int .i64 0, .int .i64 0, r.ls.v, .int .i64 r.ep, .bool r.leads, .int .i64 r.begin, .int .i64 r.high, r.isr.v, .slice none 0 0] ++ zPeers
@[simp] theorem Rr.clen (r : Rr) : r.cells.length = 24 := rfl
def bend (b : Bt) : Int := IntKind.i64.wrap (b.base + bsz b)
def lend (dl : List Bt) : Int := match dl.getLast? with
  | none => 0
  | some b => bend b
def tabl (dl : List Bt) (to : Int) : List Bt := dl.filter fun b => decide (bend b ≤ to) && decide (b.pid > 0)
section
variable {W w : World} {l : List Res} {K : Value → World → Prop} {g : Nat} {r : Rr}
theorem lend_at {dl : List Bt} (h : dl ≠ []) : ∃ b, dl[dl.length - 1]? = some b ∧ lend dl = bend b := by
  refine ⟨dl.getLast h, ?_, ?_⟩
  · rw [← List.getLast?_eq_getElem?, List.getLast?_eq_some_getLast h]
  · unfold lend
    rw [List.getLast?_eq_some_getLast h]
theorem end_ok14 (h : Sat W w (Blk g r.cells T_penstockref14_Replica :: l)) (hr : Rd W l r.ls 9 (elB.flat r.dl)) (hn : r.dl.length ≤ 1000000000) (hK : ∀ w', Sat W w' (Blk g r.cells T_penstockref14_Replica :: l) → K (.int .i64 (lend r.dl)) w') : CallP P F_ref14_Replica_End [.pointer (some ⟨g, 0, none⟩)] w K := by
  apply c_ref14_Replica_End
  unfold S_ref14_Replica_End
  have hsl : r.ls.len = r.dl.length := RdC.elen (E := elB) (hr w h.tail) (by decide)
  refine ldX h 2 (k := .sl) (x := r.ls) ?_
  refine ifB_beq (fun e => ?_) fun e => ?_
  · have : r.dl = [] := List.length_eq_zero_iff.1 (by omega)
    have hk := hK w h
    rw [this] at hk
    exact hk
  · have hne : r.dl ≠ [] := by intro hh; rw [hh] at hsl; simp at hsl; omega
    obtain ⟨b, hb, hlb⟩ := lend_at hne
    rw [hlb] at hK
    have h2 := h.drew
    let S : World → Prop := fun w => Sat W w (Blk g r.cells T_penstockref14_Replica :: l)
    refine ⟨S, h2, ?_⟩
    refine hldX (S := S) (fun w h => ⟨_, h⟩) 2 (k := .sl) (x := r.ls) ?_
    refine hldX (S := S) (fun w h => ⟨_, h⟩) 2 (k := .sl) (x := r.ls) ?_
    have hw1 : IntKind.i64.wrap ((r.ls.len : Int) - 1) = ((r.dl.length - 1 : Nat) : Int) := by rw [w_i64 (by omega) (by omega)]; omega
    rw [hw1]
    refine hixEl (S := S) (E := elB) et_bts rfl (fun w h => hr w h.tail) h2 (by omega) (x := b) (by rw [Int.toNat_natCast]; exact hb) (by omega) fun A hA => ?_
    refine hldAggC (S := S) (cs := b.cells) hA ?_
    refine allocB h2 (z := .agg zBt.toArray) (by kernel_rfl) fun m w3 h3 => ?_
    have h3 : Sat W w3 (Blk m zBt T_api_Batch :: Blk g r.cells T_penstockref14_Replica :: l) := h3
    refine ⟨h3.tail, ?_⟩
    refine stAggB (cs' := b.cells) h3 rfl (elB.one b) (by kernel_rfl) fun w4 h4 => ⟨h4.tail, ?_⟩
    have h5 := h4.drew
    let S2 : World → Prop := fun w => Sat W w (Blk m b.cells T_api_Batch :: Blk g r.cells T_penstockref14_Replica :: l)
    refine ⟨S2, h5, ?_⟩
    refine hldX (S := S2) (fun w h => ⟨_, h⟩) 0 (x := b.base) ?_
    refine hldAggB (S := S2) (cs := b.cells) (fun w h => ⟨_, h⟩) (by kernel_rfl) ?_
    refine rsizeB h5 fun w6 h6 => tyI (k := .int .i64) ⟨h6, ?_⟩
    exact hK w6 h6.tail
theorem tabl_snoc {dl : List Bt} {to : Int} {i : Nat} (hi : i < dl.length) : tabl (dl.take (i + 1)) to = tabl (dl.take i) to ++ (if bend dl[i] ≤ to ∧ dl[i].pid > 0 then [dl[i]] else []) := by
  unfold tabl
  rw [List.take_add_one, List.getElem?_eq_getElem hi, List.filter_append]
  congr 1
  simp only [Option.toList_some, List.filter_cons, List.filter_nil]
  by_cases h1 : bend dl[i] ≤ to <;> by_cases h2 : dl[i].pid > 0 <;> simp [h1, h2]
theorem table_ok14 {to : Int} (h : Sat W w (Blk g r.cells T_penstockref14_Replica :: l)) (hr : Rd W l r.ls 9 (elB.flat r.dl)) (hn : r.dl.length ≤ 1000000000) (hK : ∀ t s w', Sat W w' (Blk t [Sl.v s] T_penstockref09_Table :: SlR T_api_Batch 9 s (elB.flat (tabl r.dl to)) :: Blk g r.cells T_penstockref14_Replica :: l) → K (.pointer (some ⟨t, 0, none⟩)) w') : CallP P F_ref14_Replica_table [.pointer (some ⟨g, 0, none⟩), .int .i64 to] w K := by
  apply c_ref14_Replica_table
  unfold S_ref14_Replica_table
  have hsl : r.ls.len = r.dl.length := RdC.elen (E := elB) (hr w h.tail) (by decide)
  refine boxB h fun t w1 h1 => ?_
  have h1 : Sat W w1 (Blk t [Sl.v ⟨none, 0, 0⟩] T_penstockref09_Table :: Blk g r.cells T_penstockref14_Replica :: l) := h1
  refine ⟨fun z w' => ∃ (i : Nat) (s : Sl), z.1 = i ∧ i ≤ r.dl.length ∧ Sat W w' (Blk t [Sl.v s] T_penstockref09_Table :: SlR T_api_Batch 9 s (elB.flat (tabl (r.dl.take i) to)) :: Blk g r.cells T_penstockref14_Replica :: l), fun z _ => r.dl.length - z.1.toNat, ⟨0, ⟨none, 0, 0⟩, rfl, Nat.zero_le _, (Sat.nilSlr h1 T_api_Batch 9).swap⟩, ?_⟩
  rintro ⟨i', u⟩ w2 ⟨i, s, hi, hil, h2⟩
  simp only at hi ⊢
  subst hi
  have h2g : Sat W w2 (Blk g r.cells T_penstockref14_Replica :: Blk t [Sl.v s] T_penstockref09_Table :: SlR T_api_Batch 9 s (elB.flat (tabl (r.dl.take i) to)) :: l) := h2.up 2
  refine ldX h2g 2 (k := .sl) (x := r.ls) ?_
  refine ifB_dec (fun hlt => ?_) fun hge => ?_
  · have hi1 : i < r.dl.length := by omega
    have hw1 : IntKind.i64.wrap ((i : Int) + 1) = ((i + 1 : Nat) : Int) := w_i64 (by omega) (by omega)
    have hx : r.dl[((i : Int)).toNat]? = some r.dl[i] := by rw [Int.toNat_natCast, List.getElem?_eq_getElem hi1]
    have hsn := tabl_snoc (to := to) hi1
    have htl : (tabl (r.dl.take i) to).length ≤ 1000000000 := by
      refine Nat.le_trans (List.length_filter_le _ _) ?_
      rw [List.length_take]; omega
    have h3 := h2g.drew
    let S : World → Prop := fun w => Sat W w (Blk g r.cells T_penstockref14_Replica :: Blk t [Sl.v s] T_penstockref09_Table :: SlR T_api_Batch 9 s (elB.flat (tabl (r.dl.take i) to)) :: l)
    have hrS : ∀ w, S w → RdC w r.ls 9 (elB.flat r.dl) := fun w h => hr w h.tail.tail.tail
    refine ⟨S, h3, ?_⟩
    refine hldX (S := S) (fun w h => ⟨_, h⟩) 2 (k := .sl) (x := r.ls) ?_
    refine hixEl (S := S) (E := elB) et_bts rfl hrS h3 (by omega) (x := r.dl[i]) hx (by omega) fun A hA => ?_
    refine hld (x := r.dl[i].base) (fun w hw => hA w hw 0 _ rfl) ?_
    refine hldX (S := S) (fun w h => ⟨_, h⟩) 2 (k := .sl) (x := r.ls) ?_
    refine hixEl (S := S) (E := elB) et_bts rfl hrS h3 (by omega) (x := r.dl[i]) hx (by omega) fun A2 hA2 => ?_
    refine hldAggC (S := S) (cs := r.dl[i].cells) hA2 ?_
    refine rsizeB h3 fun w4 h4 => tyI (k := .int .i64) ⟨h4, ?_⟩
    refine ifB_dec (fun hle => ?_) fun hgt => ?_
    · refine ldX h4 2 (k := .sl) (x := r.ls) ?_
      refine ixEl (E := elB) et_bts rfl (hrS w4 h4) (by omega) (x := r.dl[i]) hx (by omega) fun A3 hA3 => ?_
      refine ldAggC (cs := r.dl[i].cells) hA3 ?_
      have h5 : Sat W w4 (Blk t [Sl.v s] T_penstockref09_Table :: SlR T_api_Batch 9 s (elB.flat (tabl (r.dl.take i) to)) :: Blk g r.cells T_penstockref14_Replica :: l) := h4.sel 3 [1, 2, 0]
      refine apply_ok h5 htl fun s' w5 h6 => tupU rfl ?_
      rw [hw1]
      refine ⟨⟨i + 1, s', rfl, by omega, ?_⟩, by omega⟩
      have hle : bend r.dl[i] ≤ to := hle
      rw [hsn]
      by_cases hp : r.dl[i].pid > 0
      · rw [if_pos hp] at h6
        rw [if_pos ⟨hle, hp⟩]; exact h6
      · rw [if_neg hp] at h6
        rw [if_neg (fun hh => hp hh.2), List.append_nil]; exact h6
    · rw [hw1]
      refine ⟨⟨i + 1, s, rfl, by omega, ?_⟩, by omega⟩
      rw [hsn, if_neg (fun hh => hgt hh.1), List.append_nil]
      exact h4.sel 3 [1, 2, 0]
  · have e : i = r.dl.length := by omega
    subst e
    rw [List.take_of_length_le (Nat.le_refl _)] at h2
    exact hK t s w2 h2
theorem own_ok14 {x : Sl} {xs : List Int} (h : Sat W w l) (hr : Rd W l x 1 (xs.map vI)) (hn : xs.length ≤ 1000000) (hK : ∀ s w', Sat W w' (IsR s xs :: l) → K (Sl.v s) w') : CallP P F_ref14_own [x.v] w K := by
  apply c_ref14_own
  unfold S_ref14_own
  have hrc := hr w h
  have hl := hrc.1
  simp at hl
  refine appB et_ints (by decide) (s := ⟨none, 0, 0⟩) (Sat.nilSlr h T_int 1) hrc (vI_all xs) (by simp only; omega) (by simp only; omega) fun s w1 h1 _ => hK s w1 (by simpa using h1)
/-- the high watermark of a leader alone is its end -/
theorem rise_ok14 (h : Sat W w (Blk g r.cells T_penstockref14_Replica :: l)) (hr : Rd W l r.ls 9 (elB.flat r.dl)) (hi : Rd W l r.isr 1 [vI 0]) (hn : r.dl.length ≤ 1000000000) (hK : ∀ w', Sat W w' (Blk g ({ r with high := if lend r.dl > r.high then lend r.dl else r.high } : Rr).cells T_penstockref14_Replica :: l) → K (.tuple #[]) w') :
    CallP P F_ref14_Replica_rise [.pointer (some ⟨g, 0, none⟩)] w K := by
  apply c_ref14_Replica_rise
  unfold S_ref14_Replica_rise
  refine end_ok14 h hr hn fun w1 h1 => tyI (k := .int .i64) ?_
  refine ldX h1 7 (k := .sl) (x := r.isr) ?_
  have hl0 := (hi w1 h1.tail).1
  have hl1 : r.isr.len = 1 := by simpa using hl0.symm
  refine appB et_ints (by decide) (s := ⟨none, 0, 0⟩) (Sat.nilSlr h1 T_int 1) (hi w1 h1.tail) (vI_all [0]) (by simp only; omega) (by simp only; omega) fun s5 w2 h2 _ => ?_
  have h2 : Sat W w2 (SlR T_int 1 s5 ([0].map vI) :: Blk g r.cells T_penstockref14_Replica :: l) := by simpa using h2
  refine ldX h2.swap 8 (k := .sl) (x := ⟨none, 0, 0⟩) ?_
  have hl5 : s5.len = 1 := by have := h2.slLen.1; simpa using this.symm
  have hnil : RdC w2 ⟨none, 0, 0⟩ 1 [] := by
    have := (Sat.nilSlr h2 T_int 1).rdc
    exact this
  refine appB et_ints (by decide) (s := s5) h2 hnil (by intro u hu; cases hu) (by simp only; omega) (by simp only; omega) fun s9 w3 h3 _ => ?_
  have h3 : Sat W w3 (SlR T_int 1 s9 ([0].map vI) :: Blk g r.cells T_penstockref14_Replica :: l) := by simpa using h3
  have hl9 : s9.len = 1 := by have := h3.slLen.1; simpa using this.symm
  refine ⟨fun z w' => z.1 = lend r.dl ∧ (z.2.1 = 0 ∨ z.2.1 = 1) ∧ Sat W w' (SlR T_int 1 s9 ([0].map vI) :: Blk g r.cells T_penstockref14_Replica :: l), fun z _ => 1 - z.2.1.toNat, ⟨rfl, .inl rfl, h3⟩, ?_⟩
  rintro ⟨to, i, u⟩ w4 ⟨hto, hi01, h4⟩
  simp only at hto hi01 ⊢
  subst hto
  refine ifB_dec (fun hlt => ?_) fun hge => ?_
  · have hi0 : i = 0 := by omega
    subst hi0
    refine ⟨fun z w' => z.1 = lend r.dl ∧ Sat W w' (SlR T_int 1 s9 ([0].map vI) :: Blk g r.cells T_penstockref14_Replica :: l), ?_, ?_⟩
    · rintro ⟨z, u⟩ w5 ⟨hz, h5⟩
      simp only at hz
      subst hz
      refine ifB_dec (fun hlt => absurd hlt (by show ¬ lend r.dl < lend r.dl; omega)) fun _ => ?_
      exact ⟨⟨rfl, .inr rfl, h5⟩, by decide⟩
    · have h5 := h4.drew
      refine ixld et_ints h5.rdc (by omega) (k := .int .i64) (x := (0 : Int)) rfl ?_
      refine ldX h5.swap 1 (x := (0 : Int)) ?_
      refine ifB_beq (fun _ => ?_) fun hne => absurd rfl hne
      refine end_ok14 h5.swap hr.cons hn fun w6 h6 => tyI (k := .int .i64) ⟨rfl, h6.swap⟩
  · refine ldX h4.swap 6 (x := r.high) ?_
    refine ifB_dec (fun hgt => ?_) fun hle => ?_
    · refine stX h4.swap 6 fun w5 h5 => ?_
      rw [if_pos hgt] at hK
      exact hK w5 (h5.cut 1)
    · rw [if_neg hle] at hK
      exact hK w4 (h4.tail)
end
end Go.Proofs.Ytajhdjjmhfbhgaa

/- The reference of layer 14: a leader alone begins, lays batches, tells up to where they are stable. -/
namespace Go.Proofs.Ytajhdjjmhfbhgaa
open Go Go.Pk
theorem peers_build (w : World) : (Instr.build T_5_penstockref14_Peer #[]).run P w = .ok (.agg zPeers.toArray) w := by kernel_rfl
/-- its memory -/
abbrev RrL (g : Nat) (r : Rr) (l : List Res) : List Res := Blk g r.cells T_penstockref14_Replica :: OwnS elBv r.ls r.dl :: IsR r.isr [0] :: l
def rr0 : Rr := ⟨⟨none, 0, 0⟩, [], -1, false, 0, 0, ⟨none, 0, 0⟩⟩
section
variable {W w : World} {l : List Res} {K : Value → World → Prop} {g : Nat} {r : Rr}
theorem new_ok14 (h : Sat W w l) (hK : ∀ g w', Sat W w' (Blk g rr0.cells T_penstockref14_Replica :: l) → K (.pointer (some ⟨g, 0, none⟩)) w') : CallP P F_ref14_New [.int .i64 0, .int .i64 0] w K := by
  apply c_ref14_New
  unfold S_ref14_New
  exact boxB h fun g w1 h1 => hK g w1 h1
theorem lead_ok14 {x : Sl} (h : Sat W w (Blk g rr0.cells T_penstockref14_Replica :: l)) (hr : Rd W l x 1 [vI 0]) (hK : ∀ isr w', Sat W w' (RrL g ⟨⟨none, 0, 0⟩, [], 1, true, 0, 0, isr⟩ l) → K (.int .i64 0) w') : CallP P F_ref14_Replica_Lead [.pointer (some ⟨g, 0, none⟩), .int .i64 1, x.v] w K := by
  apply c_ref14_Replica_Lead
  unfold S_ref14_Replica_Lead
  refine ldX h 3 (x := (-1 : Int)) ?_
  refine ifB_dec (fun hle => absurd hle (by decide)) fun _ => ?_
  refine stX h 3 fun w1 h1 => ?_
  refine stX h1 4 fun w2 h2 => ?_
  have h2 : Sat W w2 (Blk g ({ rr0 with ep := 1, leads := true } : Rr).cells T_penstockref14_Replica :: l) := h2
  refine end_ok14 (r := { rr0 with ep := 1, leads := true }) h2 (Rd.nil rfl) (Nat.zero_le _) fun w3 h3 => tyI (k := .int .i64) ?_
  refine stX h3 5 fun w4 h4 => ?_
  have h4 : Sat W w4 (Blk g ({ rr0 with ep := 1, leads := true } : Rr).cells T_penstockref14_Replica :: l) := h4
  refine own_ok14 (xs := [0]) h4 hr.cons (by decide) fun isr w5 h5 => tyI (k := .sl) ?_
  refine stX h5.swap 7 fun w6 h6 => ?_
  refine stX h6 8 fun w7 h7 => ?_
  have h7 : Sat W w7 (Blk g ({ rr0 with ep := 1, leads := true, isr := isr } : Rr).cells T_penstockref14_Replica :: IsR isr [0] :: l) := h7
  refine ⟨_, peers_build w7, ?_⟩
  refine stAggX (cs' := zPeers) 9 h7 (by
    intro u hu
    have h : zPeers.all (fun u => u.oneCell') = true := rfl
    exact List.all_eq_true.1 h u hu) (hl := by show 9 + 15 ≤ 24; decide) fun w8 h8 => ?_
  have h8 : Sat W w8 (Blk g ({ rr0 with ep := 1, leads := true, isr := isr } : Rr).cells T_penstockref14_Replica :: IsR isr [0] :: l) := h8
  refine rise_ok14 (r := { rr0 with ep := 1, leads := true, isr := isr }) h8 (Rd.nil rfl) (fun w h => h.rdc) (Nat.zero_le _) fun w9 h9 => tupU rfl ?_
  exact hK isr w9 ((own_nil (E := elBv) h9).swap)
theorem RrL.rd {g : Nat} {r : Rr} {l : List Res} : Rd W (OwnS elBv r.ls r.dl :: IsR r.isr [0] :: l) r.ls 9 (elB.flat r.dl) := Rd.ownS (E := elBv)
theorem RrL.isrd {r : Rr} {l : List Res} : Rd W (OwnS elBv r.ls r.dl :: IsR r.isr [0] :: l) r.isr 1 [vI 0] := fun w h => h.tail.rdc
/-- behind a batch that was offered -/
def Laid (r r' : Rr) (d : Bt) : Prop := r' = r ∨ ∃ ls vs ss, ss.length = d.bs.length ∧ chk { d with base := 0, ep := 0 } = 0 ∧ r' = { r with ls := ls, dl := r.dl ++ [{ d with base := lend r.dl, ep := r.ep, vs := vs, ss := ss }], high := if lend (r.dl ++ [{ d with base := lend r.dl, ep := r.ep, vs := vs, ss := ss }]) > r.high then lend (r.dl ++ [{ d with base := lend r.dl, ep := r.ep, vs := vs, ss := ss }]) else r.high }
theorem chk_small {d : Bt} (h : chk d = 0) : d.bs.length ≤ 16 ∧ ∀ b ∈ d.bs, b.length ≤ 64 := by
  unfold chk at h
  split at h
  · cases h
  split at h
  · cases h
  split at h
  · cases h
  · rename_i h2
    unfold bad2 at h2
    refine ⟨?_, fun b hb => ?_⟩
    · rcases Nat.lt_or_ge 16 d.bs.length with hh | hh
      · exact absurd (.inl hh) h2
      · exact hh
    · rcases Nat.lt_or_ge 64 b.length with hh | hh
      · exact absurd (.inr ⟨b, hb, hh⟩) h2
      · exact hh
theorem produce_ok14 {d : Bt} (h : Sat W w (RrL g r l)) (hl : r.leads = true) (hv : VRd W l d) (hn : r.dl.length ≤ 1000000) (hK : ∀ x e r' w', Laid r r' d → Sat W w' (RrL g r' l) → K (.tuple #[.int .i64 x, .int .i64 e]) w') :
    CallP P F_ref14_Replica_Produce [.pointer (some ⟨g, 0, none⟩), .agg d.cells.toArray] w K := by
  apply c_ref14_Replica_Produce
  unfold S_ref14_Replica_Produce
  refine boxB h fun m w1 h1 => ?_
  have h1 : Sat W w1 (Blk m d.cells T_api_Batch :: RrL g r l) := h1
  have hstay : ∀ x e w', Sat W w' (RrL g r l) → K (.tuple #[.int .i64 x, .int .i64 e]) w' := fun x e w' h' => hK x e r w' (.inl rfl) h'
  refine ldX h1.swap 4 (k := .bool) (x := r.leads) ?_
  rw [hl]
  simp only [Bool.not_true, ifB_false]
  refine stX h1 0 fun w2 h2 => ?_
  refine stX h2 1 fun w3 h3 => ?_
  have hd0 : VRd W l ({ d with base := 0, ep := 0 } : Bt) := hv
  have hsmall : chk { d with base := 0, ep := 0 } = 0 → d.bs.length ≤ 16 ∧ ∀ b ∈ d.bs, b.length ≤ 64 := fun h => chk_small (d := { d with base := 0, ep := 0 }) h
  have h3 : Sat W w3 (Blk m ({ d with base := 0, ep := 0 } : Bt).cells T_api_Batch :: RrL g r l) := h3
  have h4 : Sat W w3 (Blk g r.cells T_penstockref14_Replica :: Blk m ({ d with base := 0, ep := 0 } : Bt).cells T_api_Batch :: OwnS elBv r.ls r.dl :: IsR r.isr [0] :: l) := h3.swap
  have hrr : Rd W (Blk m ({ d with base := 0, ep := 0 } : Bt).cells T_api_Batch :: OwnS elBv r.ls r.dl :: IsR r.isr [0] :: l) r.ls 9 (elB.flat r.dl) := Rd.cons (RrL.rd (g := g) (r := r) (l := l))
  refine end_ok14 h4 hrr (by omega) fun w4 h5 => tyI (k := .int .i64) ?_
  refine table_ok14 (to := lend r.dl) h5 hrr (by omega) fun t s w5 h6 => tyI (k := .ptr) (x := some ⟨t, 0, none⟩) ?_
  have htl : (tabl r.dl (lend r.dl)).length ≤ 1000000000 := Nat.le_trans (List.length_filter_le _ _) (by omega)
  have h6m : Sat W w5 (Blk m ({ d with base := 0, ep := 0 } : Bt).cells T_api_Batch :: _) := h6.up 3
  refine ldAggB h6m (by kernel_rfl) ?_
  refine check9_ok (d := { d with base := 0, ep := 0 }) h6 (fun w h => h.rdc) htl hd0.cons.cons.cons.cons.cons fun x again e w6 hchk h7 => ?_
  refine ⟨(x, again, e, ()), rfl, ?_⟩
  have h7 : Sat W w6 (Blk t [Sl.v s] T_penstockref09_Table :: SlR T_api_Batch 9 s (elB.flat (tabl r.dl (lend r.dl))) :: Blk g r.cells T_penstockref14_Replica :: Blk m ({ d with base := 0, ep := 0 } : Bt).cells T_api_Batch :: OwnS elBv r.ls r.dl :: IsR r.isr [0] :: l) := h7
  have fin : ∀ x e w', Sat W w' (Blk t [Sl.v s] T_penstockref09_Table :: SlR T_api_Batch 9 s (elB.flat (tabl r.dl (lend r.dl))) :: Blk g r.cells T_penstockref14_Replica :: Blk m ({ d with base := 0, ep := 0 } : Bt).cells T_api_Batch :: OwnS elBv r.ls r.dl :: IsR r.isr [0] :: l) → K (.tuple #[.int .i64 x, .int .i64 e]) w' := fun x e w' h' => hstay x e w' (h'.sel 5 [2, 4])
  refine ⟨fun _ w' => e = 0 ∧ w' = w6, ?_, ?_⟩
  · rintro _ w7 ⟨he, rfl⟩
    have hchk0 := hchk he
    obtain ⟨hs1, hs2⟩ := hsmall hchk0
    refine ⟨fun _ w' => Sat W w' (Blk m ({ d with base := 0, ep := 0 } : Bt).cells T_api_Batch :: RrL g r l), ?_, ?_⟩
    · rintro _ w8 h8
      have h9 : Sat W w8 (Blk g r.cells T_penstockref14_Replica :: Blk m ({ d with base := 0, ep := 0 } : Bt).cells T_api_Batch :: OwnS elBv r.ls r.dl :: IsR r.isr [0] :: l) := h8.swap
      refine end_ok14 h9 hrr (by omega) fun w9 h10 => tyI (k := .int .i64) ?_
      refine stX h10.swap 0 fun w10 h11 => ?_
      refine ldX h11.swap 3 (x := r.ep) ?_
      refine stX h11 1 fun w11 h12 => ?_
      have h12 : Sat W w11 (Blk m ({ d with base := lend r.dl, ep := r.ep } : Bt).cells T_api_Batch :: RrL g r l) := h12
      have hd1 : VRd W l ({ d with base := lend r.dl, ep := r.ep } : Bt) := hv
      refine ⟨fun _ w' => ∃ ls vs ss, ss.length = d.bs.length ∧ Sat W w' (Blk m ({ d with base := lend r.dl, ep := r.ep } : Bt).cells T_api_Batch :: Blk g ({ r with ls := ls } : Rr).cells T_penstockref14_Replica :: OwnS elBv ls (r.dl ++ [{ d with base := lend r.dl, ep := r.ep, vs := vs, ss := ss }]) :: IsR r.isr [0] :: l), ?_, ?_⟩
      · rintro _ w12 ⟨ls, vs, ss, hss, h13⟩
        have h14 : Sat W w12 (Blk g ({ r with ls := ls, dl := r.dl ++ [{ d with base := lend r.dl, ep := r.ep, vs := vs, ss := ss }] } : Rr).cells T_penstockref14_Replica :: Blk m ({ d with base := lend r.dl, ep := r.ep } : Bt).cells T_api_Batch :: OwnS elBv ls (r.dl ++ [{ d with base := lend r.dl, ep := r.ep, vs := vs, ss := ss }]) :: IsR r.isr [0] :: l) := h13.swap
        refine rise_ok14 (r := { r with ls := ls, dl := r.dl ++ [{ d with base := lend r.dl, ep := r.ep, vs := vs, ss := ss }] }) h14 (Rd.cons (Rd.ownS (E := elBv))) (fun w h => h.tail.tail.rdc) (by show (r.dl ++ [_]).length ≤ _; rw [List.length_append, List.length_singleton]; omega) fun w13 h15 => tupU rfl ?_
        refine ldX h15.swap 0 (x := lend r.dl) ?_
        exact hK _ _ _ w13 (.inr ⟨ls, vs, ss, hss, hchk0, rfl⟩) (h15.cut 1)
      · have h13 := h12.drew
        let S : World → Prop := fun w => ∃ L, Sat W w (Blk m ({ d with base := lend r.dl, ep := r.ep } : Bt).cells T_api_Batch :: L)
        refine ⟨S, ⟨_, h13⟩, ?_⟩
        refine hldAggB (S := S) (cs := ({ d with base := lend r.dl, ep := r.ep } : Bt).cells) (fun w h => h) (by kernel_rfl) ?_
        -- the copy is laid
        have lay : ∀ (vs : Sl) (ss : List Sl) (g2 : Nat) w14, ss.length = d.bs.length → Sat W w14 (Blk g2 ({ d with base := lend r.dl, ep := r.ep, vs := vs, ss := ss } : Bt).cells T_api_Batch :: VsR vs ss d.bs :: Blk m ({ d with base := lend r.dl, ep := r.ep } : Bt).cells T_api_Batch :: RrL g r l) →
            RunK .sl P (Builtin.append_ #[T_sl_api_Batch, T_sl_api_Batch] T_sl_api_Batch #[r.ls.v, Sl.v ⟨some ⟨g2, 0, none⟩, 1, 1⟩]) w14 fun (s50 : Sl) w51 =>
                (S w51) ∧ StoreP P T_sl_api_Batch (.pointer (some ((⟨g, 0, none⟩ : Addr).add 2))) s50.v w51 fun w53 =>
                (S w53) ∧ ∃ ls vs ss, ss.length = d.bs.length ∧ Sat W w53 (Blk m ({ d with base := lend r.dl, ep := r.ep } : Bt).cells T_api_Batch :: Blk g ({ r with ls := ls } : Rr).cells T_penstockref14_Replica :: OwnS elBv ls (r.dl ++ [{ d with base := lend r.dl, ep := r.ep, vs := vs, ss := ss }]) :: IsR r.isr [0] :: l) := by
          intro vs ss g2 w14 hss h14
          have h15 : Sat W w14 (Blk g2 (elBv.cells { d with base := lend r.dl, ep := r.ep, vs := vs, ss := ss }) T_api_Batch :: elBv.own { d with base := lend r.dl, ep := r.ep, vs := vs, ss := ss } :: OwnS elBv r.ls r.dl :: Blk m ({ d with base := lend r.dl, ep := r.ep } : Bt).cells T_api_Batch :: Blk g r.cells T_penstockref14_Replica :: IsR r.isr [0] :: l) := h14.sel 6 [0, 1, 4, 2, 3, 5]
          refine own_push (E := elBv) et_bts rfl rfl (by decide) h15 (by omega) (by omega) fun s50 w15 h16 => ?_
          have h17 : Sat W w15 (Blk g r.cells T_penstockref14_Replica :: OwnS elBv s50 (r.dl ++ [{ d with base := lend r.dl, ep := r.ep, vs := vs, ss := ss }]) :: Blk m ({ d with base := lend r.dl, ep := r.ep } : Bt).cells T_api_Batch :: IsR r.isr [0] :: l) := h16.sel 3 [2, 0, 1]
          refine ⟨⟨_, h17.up 2⟩, ?_⟩
          refine stX h17 2 fun w16 h18 => ?_
          have h18 : Sat W w16 (Blk g ({ r with ls := s50 } : Rr).cells T_penstockref14_Replica :: OwnS elBv s50 (r.dl ++ [{ d with base := lend r.dl, ep := r.ep, vs := vs, ss := ss }]) :: Blk m ({ d with base := lend r.dl, ep := r.ep } : Bt).cells T_api_Batch :: IsR r.isr [0] :: l) := h18
          exact ⟨⟨_, h18.up 2⟩, s50, vs, ss, hss, h18.sel 3 [2, 0, 1]⟩
        have hb1 : ({ d with base := lend r.dl, ep := r.ep } : Bt).bs.length < 2 ^ 40 := by show d.bs.length < _; omega
        have hb2 : ∀ b ∈ ({ d with base := lend r.dl, ep := r.ep } : Bt).bs, b.length ≤ 140737488355328 := fun b hb => by have := hs2 b hb; omega
        have hvv : VRd W (Blk m ({ d with base := lend r.dl, ep := r.ep } : Bt).cells T_api_Batch :: RrL g r l) ({ d with base := lend r.dl, ep := r.ep } : Bt) := hd1.cons.cons.cons.cons
        have h13g := h13.swap
        refine ⟨?_, ?_, trivial⟩
        · refine ldX h13g 2 (k := .sl) (x := r.ls) ⟨⟨_, h13⟩, ?_⟩
          refine rcopyB h13 hvv hb1 hb2 fun vs ss w14 hss h14 => tyI (k := .val) ⟨⟨_, h14.swap⟩, ?_⟩
          refine bsB h14 (cs := ({ d with base := lend r.dl, ep := r.ep, vs := vs, ss := ss } : Bt).cells) (e := T_api_Batch) (fun w => by kernel_rfl) fun g2 w15 h15 => ⟨⟨_, h15.up 2⟩, ?_⟩
          exact lay vs ss g2 w15 hss h15
        · refine rcopyB h13 hvv hb1 hb2 fun vs ss w14 hss h14 => tyI (k := .val) ⟨⟨_, h14.swap⟩, ?_, ?_, trivial⟩
          · have h14g : Sat W w14 (Blk g r.cells T_penstockref14_Replica :: _) := h14.up 2
            refine ldX h14g 2 (k := .sl) (x := r.ls) ⟨⟨_, h14.swap⟩, ?_⟩
            refine bsB h14 (cs := ({ d with base := lend r.dl, ep := r.ep, vs := vs, ss := ss } : Bt).cells) (e := T_api_Batch) (fun w => by kernel_rfl) fun g2 w15 h15 => ⟨⟨_, h15.up 2⟩, ?_⟩
            exact lay vs ss g2 w15 hss h15
          · refine bsB h14 (cs := ({ d with base := lend r.dl, ep := r.ep, vs := vs, ss := ss } : Bt).cells) (e := T_api_Batch) (fun w => by kernel_rfl) fun g2 w15 h15 => ⟨⟨_, h15.up 2⟩, ?_⟩
            have h15g : Sat W w15 (Blk g r.cells T_penstockref14_Replica :: _) := h15.up 3
            refine ldX h15g 2 (k := .sl) (x := r.ls) ⟨⟨_, h15.up 2⟩, ?_⟩
            exact lay vs ss g2 w15 hss h15
    · have h8 : Sat W w7 (Blk m ({ d with base := 0, ep := 0 } : Bt).cells T_api_Batch :: RrL g r l) := h7.sel 5 [3, 2, 4]
      refine ldX h8 6 (k := .bool) (x := d.control) ?_
      refine ifB_intro (fun _ => ?_) fun _ => h8
      refine ldX h8 2 (k := .int .u64) (x := d.pid) ?_
      refine known_ok (pid := d.pid) h7 (fun w h => h.rdc) htl fun w8 h9 => ?_
      obtain ⟨e0, n0, o0, b0, hv0, _, _⟩ := kn_v (k := kn d.pid (tabl r.dl (lend r.dl)))
      rw [hv0]
      refine ⟨(e0, n0, o0, b0, ()), rfl, ?_⟩
      have h10 : Sat W w8 (Blk m ({ d with base := 0, ep := 0 } : Bt).cells T_api_Batch :: RrL g r l) := h9.sel 5 [3, 2, 4]
      refine ifB_intro (fun _ => ?_) fun _ => h10
      refine ifB_dec (fun _ => ?_) fun _ => h10
      refine ldX h10 3 (x := d.pe) ?_
      refine ifB_beq (fun _ => ?_) fun _ => h10
      refine end_ok14 h10.swap hrr (by omega) fun w9 h11 => tyI (k := .int .i64) ?_
      exact hstay _ _ w9 (h11.cut 1)
  · refine ifB_bne (fun _ => fin _ _ w6 h7) fun he => ?_
    refine ifB_intro (fun _ => fin _ _ w6 h7) fun _ => ⟨he, rfl⟩
theorem stable_ok14 (h : Sat W w (Blk g r.cells T_penstockref14_Replica :: l)) (hr : Rd W l r.ls 9 (elB.flat r.dl)) (hn : r.dl.length ≤ 1000000) (hK : ∀ first any w', US (tabl r.dl r.high) first any → Sat W w' (Blk g r.cells T_penstockref14_Replica :: l) → K (.int .i64 (if any then first else r.high)) w') :
    CallP P F_ref14_Replica_Stable [.pointer (some ⟨g, 0, none⟩)] w K := by
  apply c_ref14_Replica_Stable
  unfold S_ref14_Replica_Stable
  refine ldX h 6 (x := r.high) ?_
  refine table_ok14 (to := r.high) h hr (by omega) fun t s w1 h1 => tyI (k := .ptr) (x := some ⟨t, 0, none⟩) ?_
  have htl : (tabl r.dl r.high).length ≤ 1000000000 := Nat.le_trans (List.length_filter_le _ _) (by omega)
  refine unstable_ok h1 (fun w h => h.rdc) htl (fun b hb => by
    have := (List.mem_filter.1 hb).2
    simp only [Bool.and_eq_true, decide_eq_true_eq] at this
    omega) fun first any w2 hus h2 => ?_
  refine ⟨(first, any, ()), rfl, ?_⟩
  have hk := hK first any w2 hus (h2.sel 3 [2])
  refine ifB_intro (fun ha => ?_) fun ha => ?_
  · have ha : any = true := ha
    rw [if_pos ha] at hk; exact hk
  · have ha : any = false := ha
    rw [if_neg (by rw [ha]; decide)] at hk
    have h2g : Sat W w2 (Blk g r.cells T_penstockref14_Replica :: _) := h2.up 2
    refine ldX h2g 6 (x := r.high) hk
end
end Go.Proofs.Ytajhdjjmhfbhgaa

/- The reference of layer 14: what may be read. -/
namespace Go.Proofs.Ytajhdjjmhfbhgaa
open Go Go.Pk
/-- of the first k batches that end behind a place those that end up to where it is stable -/
def cmts (to from_ : Int) : List Bt → Nat → List Bt
  | [], _ => []
  | b :: dl, k => if k = 0 then [] else if bend b > from_ then (if bend b ≤ to then [b] else []) ++ cmts to from_ dl (k - 1) else cmts to from_ dl k
theorem cmts_zero {to from_ : Int} (dl : List Bt) : cmts to from_ dl 0 = [] := by
  cases dl with
  | nil => rfl
  | cons b dl => rfl
theorem cmts_len {to from_ : Int} : ∀ (dl : List Bt) (k : Nat), (cmts to from_ dl k).length ≤ dl.length
  | [], _ => Nat.le_refl _
  | b :: dl, k => by
    unfold cmts
    split
    · exact Nat.zero_le _
    · split
      · rw [List.length_append, List.length_cons]
        have := cmts_len (to := to) (from_ := from_) dl (k - 1)
        split
        · simp only [List.length_singleton]; omega
        · simp only [List.length_nil]; omega
      · have := cmts_len (to := to) (from_ := from_) dl k
        rw [List.length_cons]; omega
def firstB (l : List Bt) : Int := match l with | [] => 0 | b :: _ => b.base
section
variable {W w : World} {l : List Res} {K : Value → World → Prop} {g : Nat} {r : Rr}
theorem committed_ok14 {from_ : Int} {n : Nat} (h : Sat W w (RrL g r l)) (hn : r.dl.length ≤ 1000000) (hn2 : n ≤ 1000000)
    (hK : ∀ (first : Int) (any : Bool) (s a : Sl) w', US (tabl r.dl r.high) first any →
      Sat W w' (SlR T_api_Batch 9 s (elB.flat (cmts (if any then first else r.high) from_ r.dl n)) :: SlR T_api_Abort 3 a (elA.flat (if cmts (if any then first else r.high) from_ r.dl n = [] then [] else aborts (tabl r.dl (lend r.dl)) (firstB (cmts (if any then first else r.high) from_ r.dl n)) (lend (cmts (if any then first else r.high) from_ r.dl n)))) :: RrL g r l) → K (.tuple #[s.v, a.v, .int .i64 (if any then first else r.high)]) w') :
    CallP P F_ref14_Replica_Committed [.pointer (some ⟨g, 0, none⟩), .int .i64 from_, .int .i64 (n : Int)] w K := by
  apply c_ref14_Replica_Committed
  unfold S_ref14_Replica_Committed
  have hrr : Rd W (OwnS elBv r.ls r.dl :: IsR r.isr [0] :: l) r.ls 9 (elB.flat r.dl) := RrL.rd (g := g) (r := r) (l := l)
  refine stable_ok14 h hrr hn fun first any w1 hus h1 => tyI (k := .int .i64) ?_
  have hK := hK first any
  generalize (if any = true then first else r.high) = to at hK ⊢
  have hsl : r.ls.len = r.dl.length := RdC.elen (E := elB) (hrr w1 h1.tail) (by decide)
  -- the end
  have fin : ∀ (s : Sl) (acc : List Bt) w2, acc = cmts to from_ r.dl n → Sat W w2 (SlR T_api_Batch 9 s (elB.flat acc) :: RrL g r l) →
      ifB ((s.len : Int) == 0)
         (K (.tuple #[(.slice none 0 0), (.slice none 0 0), (.int .i64 to)]) w2)
         (RunQ .addr P (Instr.indexAt T_sl_api_Batch s.v (.int .i64 (IntKind.i64.wrap ((↑s.len : Int) - 1)))) w2 fun (a11 : Addr) =>
          RunQ .val P (Instr.loadAt T_api_Batch (.pointer (some a11))) w2 fun (v12 : Value) =>
           RunK .addr P (Instr.alloc T_api_Batch true (.tuple #[])) w2 fun (a13 : Addr) w14 =>
            StoreP P T_api_Batch (.pointer (some a13)) v12 w14 fun w15 =>
             ∃ S16 : World → Prop, (S16 w15.drew) ∧
               HRun S16 .addr P (Instr.indexAt T_sl_api_Batch s.v (.int .i64 0)) fun (a17 : Addr) =>
                HRun S16 (.int .i64) P (Instr.loadAt T_int (.pointer (some (Go.Addr.add a17 0)))) fun (n18 : Int) =>
                HRun S16 (.int .i64) P (Instr.loadAt T_int (.pointer (some (Go.Addr.add a13 0)))) fun (n19 : Int) =>
                HRun S16 .val P (Instr.loadAt T_api_Batch (.pointer (some a13))) fun (v20 : Value) =>
                CallP P F_ref14_Replica_End [(.pointer (some ⟨g, 0, none⟩))] w15.drew fun (v21 : Value) w22 =>
                TyP (.int .i64) v21 fun (n23 : Int) =>
                (S16 w22) ∧
                CallP P F_ref14_Replica_table [(.pointer (some ⟨g, 0, none⟩)), (.int .i64 n23)] w22 fun (v24 : Value) w25 =>
                TyP .ptr v24 fun (p26 : Option Addr) =>
                (S16 w25) ∧
                CallP P F_ref07_Size [v20] w25 fun (v27 : Value) w28 =>
                TyP (.int .i64) v27 fun (n29 : Int) =>
                (S16 w28) ∧
                CallP P F_ref09_Table_Aborts [(.pointer p26), (.int .i64 n18), (.int .i64 (IntKind.i64.wrap (n19 + n29)))] w28 fun (v30 : Value) w31 =>
                TyP .sl v30 fun (s32 : Sl) =>
                (S16 w31) ∧
                K (.tuple #[s.v, s32.v, (.int .i64 to)]) w31) := by
    rintro s acc w2 hacc h2
    have hal6 : acc.length ≤ 1000000 := by rw [hacc]; exact Nat.le_trans (cmts_len _ _) hn
    rw [← hacc] at hK
    clear hacc
    have hsl2 : s.len = acc.length := RdC.elen (E := elB) h2.rdc (by decide)
    refine ifB_beq (fun e => ?_) fun e => ?_
    · have he : acc = [] := List.length_eq_zero_iff.1 (by omega)
      subst he
      refine hK ⟨none, 0, 0⟩ ⟨none, 0, 0⟩ w2 hus ?_
      exact Sat.nilSlr (Sat.nilSlr h2.tail T_api_Abort 3) T_api_Batch 9 |> fun h => h
    · have hne : acc ≠ [] := by intro hh; rw [hh] at hsl2; simp at hsl2; omega
      obtain ⟨b, hb, hlb⟩ := lend_at hne
      have hlt : acc.length < 9223372036854775807 := by omega
      have hw1 : IntKind.i64.wrap ((s.len : Int) - 1) = ((acc.length - 1 : Nat) : Int) := by rw [w_i64 (by omega) (by omega)]; omega
      rw [hw1]
      refine ixEl (E := elB) et_bts rfl h2.rdc (by omega) (x := b) (by rw [Int.toNat_natCast]; exact hb) (by omega) fun A hA => ?_
      refine ldAggC (cs := b.cells) hA ?_
      refine newAgg (z := zBt) h2 (elB.one b) fun m w3 h3 => ?_
      have h3 : Sat W w3 (Blk m b.cells T_api_Batch :: SlR T_api_Batch 9 s (elB.flat acc) :: RrL g r l) := h3
      have h4 := h3.drew
      let S : World → Prop := fun w => Sat W w (Blk m b.cells T_api_Batch :: SlR T_api_Batch 9 s (elB.flat acc) :: RrL g r l)
      refine ⟨S, h4, ?_⟩
      obtain ⟨b1, hb1, hf1⟩ : ∃ b1, acc[0]? = some b1 ∧ firstB acc = b1.base := by
        cases acc with
        | nil => exact absurd rfl hne
        | cons b1 acc => exact ⟨b1, rfl, rfl⟩
      refine hixEl (S := S) (E := elB) et_bts rfl (fun w h => h.tail.rdc) h4 (i := 0) (by decide) (x := b1) hb1 (by show 0 < s.len; omega) fun A2 hA2 => ?_
      refine hld (x := b1.base) (fun w hw => hA2 w hw 0 _ rfl) ?_
      refine hldX (S := S) (fun w h => ⟨_, h⟩) 0 (x := b.base) ?_
      refine hldAggB (S := S) (cs := b.cells) (fun w h => ⟨_, h⟩) (by kernel_rfl) ?_
      have h5 : Sat W w3.drew (Blk g r.cells T_penstockref14_Replica :: Blk m b.cells T_api_Batch :: SlR T_api_Batch 9 s (elB.flat acc) :: OwnS elBv r.ls r.dl :: IsR r.isr [0] :: l) := h4.sel 3 [2, 0, 1]
      have hrr2 : Rd W (Blk m b.cells T_api_Batch :: SlR T_api_Batch 9 s (elB.flat acc) :: OwnS elBv r.ls r.dl :: IsR r.isr [0] :: l) r.ls 9 (elB.flat r.dl) := hrr.cons.cons
      refine end_ok14 h5 hrr2 (by omega) fun w4 h6 => tyI (k := .int .i64) ⟨h6.sel 3 [1, 2, 0], ?_⟩
      refine table_ok14 (to := lend r.dl) h6 hrr2 (by omega) fun t st w5 h7 => tyI (k := .ptr) (x := some ⟨t, 0, none⟩) ⟨h7.sel 5 [3, 4, 2], ?_⟩
      have htl : (tabl r.dl (lend r.dl)).length ≤ 1000000000 := Nat.le_trans (List.length_filter_le _ _) (by omega)
      refine rsizeB h7 fun w6 h8 => tyI (k := .int .i64) ⟨h8.sel 5 [3, 4, 2], ?_⟩
      refine aborts_ok h8 (fun w h => h.rdc) htl fun s32 w7 h9 => tyI (k := .sl) ⟨h9.sel 6 [4, 5, 3], ?_⟩
      have h10 : Sat W w7 (SlR T_api_Batch 9 s (elB.flat acc) :: SlR T_api_Abort 3 s32 (elA.flat (aborts (tabl r.dl (lend r.dl)) b1.base (IntKind.i64.wrap (b.base + bsz b)))) :: RrL g r l) := h9.sel 6 [5, 0, 3]
      refine hK s s32 w7 hus ?_
      rw [if_neg hne, hf1, hlb]
      exact h10
  refine ⟨fun z w' => ∃ (k i : Nat) (acc : List Bt), z.1 = k ∧ z.2.2.1 = i ∧ k ≤ n ∧ i ≤ r.dl.length ∧ acc ++ cmts to from_ (r.dl.drop i) (n - k) = cmts to from_ r.dl n ∧ acc.length ≤ i ∧ Sat W w' (SlR T_api_Batch 9 z.2.1 (elB.flat acc) :: RrL g r l), fun z _ => r.dl.length - z.2.2.1.toNat, ⟨0, 0, [], rfl, rfl, Nat.zero_le _, Nat.zero_le _, rfl, Nat.le_refl _, Sat.nilSlr h1 T_api_Batch 9⟩, ?_⟩
  rintro ⟨k', s, i', u⟩ w2 ⟨k, i, acc, hk, hi, hkn, hil, hacc, hal, h2⟩
  simp only at hk hi h2 ⊢
  subst hk
  subst hi
  have hsl2 : s.len = acc.length := RdC.elen (E := elB) h2.rdc (by decide)
  have h2g := h2.swap
  refine ⟨fun _ w' => i < r.dl.length ∧ k < n ∧ w' = w2, ?_, ?_⟩
  · rintro _ w3 ⟨hi1, hkn1, rfl⟩
    have hw1 : IntKind.i64.wrap ((i : Int) + 1) = ((i + 1 : Nat) : Int) := w_i64 (by omega) (by omega)
    have hw2 : IntKind.i64.wrap ((k : Int) + 1) = ((k + 1 : Nat) : Int) := w_i64 (by omega) (by omega)
    have hx : r.dl[((i : Int)).toNat]? = some r.dl[i] := by rw [Int.toNat_natCast, List.getElem?_eq_getElem hi1]
    rw [List.drop_eq_getElem_cons hi1] at hacc
    obtain ⟨j, hj⟩ : ∃ j, n - k = j + 1 := ⟨n - k - 1, by omega⟩
    rw [hj] at hacc
    have hst : cmts to from_ (r.dl[i] :: r.dl.drop (i + 1)) (j + 1) = if bend r.dl[i] > from_ then (if bend r.dl[i] ≤ to then [r.dl[i]] else []) ++ cmts to from_ (r.dl.drop (i + 1)) j else cmts to from_ (r.dl.drop (i + 1)) (j + 1) := rfl
    rw [hst] at hacc
    have h3 := h2g.drew
    let S : World → Prop := fun w => Sat W w (Blk g r.cells T_penstockref14_Replica :: SlR T_api_Batch 9 s (elB.flat acc) :: OwnS elBv r.ls r.dl :: IsR r.isr [0] :: l)
    have hrS : ∀ w, S w → RdC w r.ls 9 (elB.flat r.dl) := fun w h => hrr w h.tail.tail
    refine ⟨S, h3, ?_⟩
    refine hldX (S := S) (fun w h => ⟨_, h⟩) 2 (k := .sl) (x := r.ls) ?_
    refine hixEl (S := S) (E := elB) et_bts rfl hrS h3 (by omega) (x := r.dl[i]) hx (by omega) fun A hA => ?_
    refine hld (x := r.dl[i].base) (fun w hw => hA w hw 0 _ rfl) ?_
    refine hldX (S := S) (fun w h => ⟨_, h⟩) 2 (k := .sl) (x := r.ls) ?_
    refine hixEl (S := S) (E := elB) et_bts rfl hrS h3 (by omega) (x := r.dl[i]) hx (by omega) fun A2 hA2 => ?_
    refine hldAggC (S := S) (cs := r.dl[i].cells) hA2 ?_
    refine rsizeB h3 fun w4 h4 => tyI (k := .int .i64) ⟨h4, ?_⟩
    have hm : r.dl.length - (i + 1) < r.dl.length - i := by omega
    refine ifB_dec (fun hgt => ?_) fun hle => ?_
    · have hgt : bend r.dl[i] > from_ := hgt
      rw [if_pos hgt] at hacc
      refine ifB_dec (fun hle => ?_) fun hnle => ?_
      · have hle : bend r.dl[i] ≤ to := hle
        rw [if_pos hle] at hacc
        refine ldX h4 2 (k := .sl) (x := r.ls) ?_
        refine ixEl (E := elB) et_bts rfl (hrS w4 h4) (by omega) (x := r.dl[i]) hx (by omega) fun A3 hA3 => ?_
        refine ldAggC (cs := r.dl[i].cells) hA3 ?_
        refine bsB h4 (cs := r.dl[i].cells) (e := T_api_Batch) (fun w => by kernel_rfl) fun g2 w5 h5 => ?_
        refine pushB et_bts (by decide) (h5.sel 3 [2, 0, 1]) rfl (elB.one _) (by omega) (by omega) fun s' w6 h6 => ?_
        have e2 : elB.flat acc ++ r.dl[i].cells = elB.flat (acc ++ [r.dl[i]]) := by rw [flat_app, flat_one]; rfl
        rw [e2] at h6
        rw [hw1, hw2]
        refine ⟨⟨k + 1, i + 1, acc ++ [r.dl[i]], rfl, rfl, by omega, by omega, ?_, by rw [List.length_append, List.length_singleton]; omega, h6.sel 3 [0, 2]⟩, hm⟩
        rw [show n - (k + 1) = j from by omega, List.append_assoc]
        exact hacc
      · have hnle : ¬ bend r.dl[i] ≤ to := hnle
        rw [if_neg hnle] at hacc
        rw [hw1, hw2]
        refine ⟨⟨k + 1, i + 1, acc, rfl, rfl, by omega, by omega, ?_, by omega, h4.swap⟩, hm⟩
        rw [show n - (k + 1) = j from by omega]
        exact hacc
    · have hle : ¬ bend r.dl[i] > from_ := hle
      rw [if_neg hle] at hacc
      rw [hw1]
      refine ⟨⟨k, i + 1, acc, rfl, rfl, hkn, by omega, ?_, by omega, h4.swap⟩, hm⟩
      rw [hj]; exact hacc
  · refine ldX h2g 2 (k := .sl) (x := r.ls) ?_
    refine ifB_dec (fun hlt => ?_) fun hge => ?_
    · refine ifB_dec (fun hkl => ⟨by omega, by omega, rfl⟩) fun hkg => ?_
      refine fin s acc w2 ?_ h2
      rw [← hacc, show n - k = 0 from by omega, cmts_zero, List.append_nil]
    · refine fin s acc w2 ?_ h2
      rw [← hacc, List.drop_of_length_le (by omega)]
      show acc = acc ++ []
      rw [List.append_nil]
end
end Go.Proofs.Ytajhdjjmhfbhgaa
