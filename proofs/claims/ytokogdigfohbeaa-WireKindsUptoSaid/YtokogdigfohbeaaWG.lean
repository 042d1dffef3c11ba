/- Layer 17: the reference's writer. -/
import Derived.Test.YtokogdigfohbeaaW1
namespace Go.Proofs.Ytokogdigfohbeaa
open Go Go.Pk
def LdR (a : Nat) (s : Ly) : Res := Ex fun sl : Sl => All [Pure (s.l = 0 ∨ s.l = 2), Blk a [sl.v, .int .i64 s.e, .int .i64 s.l] T_penstockref17_Laid, BsR sl s.o]
section
variable {W w : World} {l L : List Res} {K : Value → World → Prop} {a : Nat} {s : Ly}
theorem sat_ld : Sat W w (LdR a s :: l) ↔ ∃ sl : Sl, (s.l = 0 ∨ s.l = 2) ∧ Sat W w (Blk a [sl.v, .int .i64 s.e, .int .i64 s.l] T_penstockref17_Laid :: BsR sl s.o :: l) := by
  unfold LdR
  rw [sat_ex]
  constructor
  · rintro ⟨sl, h⟩
    obtain ⟨h1, h2⟩ := sat_pure.1 (sat_all.1 h)
    exact ⟨sl, h1, h2⟩
  · rintro ⟨sl, h1, h2⟩
    exact ⟨sl, sat_all.2 (sat_pure.2 ⟨h1, h2⟩)⟩
/-- something is laid behind, in either order of looking -/
theorem apd {n : List UInt8} {F : FuncId} {args : List Value} {S N : World → Prop} (h : Sat W w (LdR a s :: L)) (hlen : s.o.length + n.length ≤ 140737488355328) (hS : ∀ w, Sat W w L → S w)
    (hF : ∀ (R1 R2 : Res) (w0 : World) (K : Value → World → Prop), Sat W w0 (R1 :: R2 :: L) → (∀ t w', Sat W w' (BsR t n :: R1 :: R2 :: L) → K t.v w') → CallP P F args w0 K)
    (hN : ∀ w', Sat W w' (LdR a (s.add (lyO n)) :: L) → N w') :
    (RunQ .sl P (Instr.loadAt T_sl_uint8 (.pointer (some ((⟨a, 0, none⟩ : Addr).add 0)))) w fun (s7 : Sl) =>
      (S w) ∧ CallP P F args w fun (v8 : Value) w9 => TyP .sl v8 fun (s10 : Sl) =>
        (S w9) ∧ RunK .sl P (Builtin.append_ #[T_sl_uint8, T_sl_uint8] T_sl_uint8 #[s7.v, s10.v]) w9 fun (s11 : Sl) w12 =>
          (S w12) ∧ StoreP P T_sl_uint8 (.pointer (some ((⟨a, 0, none⟩ : Addr).add 0))) s11.v w12 fun w14 => (S w14) ∧ N w14) ∧
    (CallP P F args w fun (v15 : Value) w16 => TyP .sl v15 fun (s17 : Sl) =>
      (S w16) ∧ RunQ .sl P (Instr.loadAt T_sl_uint8 (.pointer (some ((⟨a, 0, none⟩ : Addr).add 0)))) w16 fun (s18 : Sl) =>
        (S w16) ∧ RunK .sl P (Builtin.append_ #[T_sl_uint8, T_sl_uint8] T_sl_uint8 #[s18.v, s17.v]) w16 fun (s19 : Sl) w20 =>
          (S w20) ∧ StoreP P T_sl_uint8 (.pointer (some ((⟨a, 0, none⟩ : Addr).add 0))) s19.v w20 fun w22 => (S w22) ∧ N w22) ∧ True := by
  obtain ⟨sl, hl, h1⟩ := sat_ld.1 h
  have fin : ∀ (t : Sl) w9, Sat W w9 (BsR t n :: Blk a [sl.v, .int .i64 s.e, .int .i64 s.l] T_penstockref17_Laid :: BsR sl s.o :: L) →
      RunK .sl P (Builtin.append_ #[T_sl_uint8, T_sl_uint8] T_sl_uint8 #[sl.v, t.v]) w9 fun (s11 : Sl) w12 =>
          (S w12) ∧ StoreP P T_sl_uint8 (.pointer (some ((⟨a, 0, none⟩ : Addr).add 0))) s11.v w12 fun w14 => (S w14) ∧ N w14 := by
    intro t w9 h2
    refine appBytes (h2.up 2) ((h2.up 0).rdc) (by omega) fun s11 w12 h3 => ⟨hS _ h3.tail.tail.tail, ?_⟩
    have h3' : Sat W w12 (Blk a [sl.v, .int .i64 s.e, .int .i64 s.l] T_penstockref17_Laid :: BsR s11 (s.o ++ n) :: L) := (h3.cut 1).up 1
    refine stB h3' (i := 0) (v := s11.v) fun w14 h4 => ⟨hS _ h4.tail.tail, hN _ (sat_ld.2 ⟨s11, ?_, ?_⟩)⟩
    · simp only [Ly.add, lyO, or0_r]; exact hl
    · simp only [Ly.add, lyO, or0_r]; exact h4
  refine ⟨?_, ?_, trivial⟩
  · refine ldB h1 (i := 0) (x := sl) ⟨hS _ h1.tail.tail, ?_⟩
    exact hF _ _ _ _ h1 fun t w9 h2 => tyI ⟨hS _ h2.tail.tail.tail, fin t w9 h2⟩
  · refine hF _ _ _ _ h1 fun t w9 h2 => tyI ⟨hS _ h2.tail.tail.tail, ?_⟩
    have h2' : Sat W w9 (Blk a [sl.v, .int .i64 s.e, .int .i64 s.l] T_penstockref17_Laid :: BsR t n :: BsR sl s.o :: L) := h2.swap
    refine ldB h2' (i := 0) (x := sl) ?_
    exact ⟨hS _ h2.tail.tail.tail, fin t w9 h2⟩
theorem lints_ok {n : List Int} {x : Sl} (h : Sat W w (LdR a s :: l)) (hx : Rd W l x 1 (n.map vI)) (hn : ∀ i ∈ n, okI i) (hlen : s.o.length + 10 + 10 * n.length ≤ 140737488355328)
    (hK : ∀ w', Sat W w' (LdR a (s.add (lyO (n.flatMap intB))) :: l) → K (.tuple #[]) w') : CallP P F_ref17_Laid_ints [.pointer (some ⟨a, 0, none⟩), x.v] w K := by
  apply c_ref17_Laid_ints
  unfold S_ref17_Laid_ints
  simp only [nilCk]
  have hxl := (hx w h.tail).1
  simp at hxl
  refine ⟨fun t w' => ∃ k : Nat, t.1 = k ∧ k ≤ n.length ∧ Sat W w' (LdR a (s.add (lyO ((n.take k).flatMap intB))) :: l), fun t _ => n.length - t.1.toNat, ⟨0, rfl, by omega, by simp only [List.take_zero, List.flatMap_nil]; rw [show lyO [] = ly0 from rfl, Ly.add_0]; exact h⟩, ?_⟩
  rintro ⟨i, u⟩ w2 ⟨k, hk, hkn, h2⟩
  simp only at hk ⊢
  subst hk
  refine ifB_dec (fun hc => ?_) fun hc => ?_
  · have hlt : k < n.length := by omega
    refine ⟨fun w => Sat W w l, h2.drew.tail, ?_⟩
    have hb := hn n[k] (by simp)
    obtain ⟨ad, had⟩ := some_of_lt (hx _ h2.drew.tail) (n := (k : Int).toNat) (by omega)
    refine ⟨_, fun w' _ => run_ix et_ints had (by omega) (by omega) w', ?_⟩
    refine hld (x := n[k]) (fun w' hw' => (hx w' hw').2.2.2 ad had _ _ (by simp [vI, hlt])) ?_
    have hl := ints_len (l := n.take k) fun i hi => hn i (List.mem_of_mem_take hi)
    rw [List.length_take] at hl
    have hbl := intB_len hb
    refine apd (F := F_ref03_Int) (args := [.int .i64 n[k]]) (S := fun w => Sat W w l) (N := fun w' => _) h2.drew (by simp only [Ly.add, lyO, List.length_append]; omega) (fun w h => h) (fun R1 R2 w0 K h0 hK => rInt_ok h0 hb.1 hb.2 hK) fun w3 h3 => ?_
    rw [w_i64 (by omega) (by omega)]
    refine ⟨⟨k + 1, rfl, by omega, ?_⟩, by omega⟩
    rw [List.take_succ_eq_append_getElem hlt, List.flatMap_append]
    rw [Ly.add_assoc] at h3
    simpa [Ly.add, lyO, or0] using h3
  · have : k = n.length := by omega
    subst this
    rw [List.take_length] at h2
    exact hK w2 h2
theorem lfail_ok {x : Int} (h : Sat W w (LdR a s :: l)) (hK : ∀ w', Sat W w' (LdR a (s.add (lyE x)) :: l) → K (.tuple #[]) w') :
    CallP P F_ref17_Laid_fail [.pointer (some ⟨a, 0, none⟩), .int .i64 x] w K := by
  apply c_ref17_Laid_fail
  unfold S_ref17_Laid_fail
  simp only [nilCk]
  obtain ⟨sl, hl, h1⟩ := sat_ld.1 h
  refine ldB h1 (i := 1) (x := s.e) ?_
  refine ifB_beq (fun he => ?_) fun hne => ?_
  · refine stB h1 (i := 1) fun w2 h2 => hK w2 (sat_ld.2 ⟨sl, ?_, ?_⟩)
    · simp only [Ly.add, lyE, or0_r]; exact hl
    · simp only [Ly.add, lyE, List.append_nil, or0_r, he, or0_0]
      exact h2
  · refine hK w (sat_ld.2 ⟨sl, ?_, ?_⟩)
    · simp only [Ly.add, lyE, or0_r]; exact hl
    · simp only [Ly.add, lyE, List.append_nil, or0_r, or0_l hne]
      exact h1
theorem lcount_ok {n : Nat} (h : Sat W w (LdR a s :: l)) (hn : n < 2 ^ 63) (hlen : s.o.length + 10 ≤ 140737488355328)
    (hK : ∀ w', Sat W w' (LdR a (s.add (lyN n)) :: l) → K (.tuple #[]) w') : CallP P F_ref17_Laid_count [.pointer (some ⟨a, 0, none⟩), .int .i64 (n : Int)] w K := by
  apply c_ref17_Laid_count
  unfold S_ref17_Laid_count
  simp only [nilCk]
  refine ⟨fun _ w' => Sat W w' (LdR a (s.add (lyE (if n > 512 then 2 else 0))) :: l), ?_, ?_⟩
  · rintro _ w2 h2
    refine ⟨fun _ => True, trivial, ?_⟩
    rw [w_u64 (by omega) (by omega)]
    have hln := uintB_len10 n (by omega)
    refine apd (F := F_ref03_Uint) (args := [.int .u64 (n : Int)]) (n := uintB n) (S := fun _ => True) (N := fun w' => K (.tuple #[]) w') h2.drew (by simp only [Ly.add, lyE, List.length_append, List.length_nil]; omega) (fun _ _ => trivial) (fun R1 R2 w0 K h0 hK => rUint_ok h0 (by omega) (by omega) (by simpa using hK)) fun w3 h3 => hK w3 ?_
    rw [Ly.add_assoc] at h3
    simpa [Ly.add, lyE, lyO, lyN, or0_r] using h3
  · refine ifB_dec (fun hc => ?_) fun hc => ?_
    · refine lfail_ok h fun w2 h2 => tupU rfl ?_
      rw [if_pos (by omega)]; exact h2
    · rw [if_neg (by omega), show lyE 0 = ly0 from rfl, Ly.add_0]; exact h
theorem lbytes_ok {n : List UInt8} {x : Sl} (h : Sat W w (LdR a s :: l)) (hx : Rd W l x 1 (n.map vB)) (hlen : s.o.length + 10 + n.length ≤ 140737488355328)
    (hK : ∀ w', Sat W w' (LdR a (s.add (lyB n)) :: l) → K (.tuple #[]) w') : CallP P F_ref17_Laid_bytes [.pointer (some ⟨a, 0, none⟩), x.v] w K := by
  apply c_ref17_Laid_bytes
  unfold S_ref17_Laid_bytes
  simp only [nilCk]
  have hxl := (hx w h.tail).1
  simp at hxl
  refine ⟨fun _ w' => Sat W w' (LdR a (s.add ⟨[], 0, if n.length > 4096 then 2 else 0⟩) :: l), ?_, ?_⟩
  · rintro _ w2 h2
    refine ⟨fun _ => True, trivial, ?_⟩
    have hln := uintB_len10 n.length (by omega)
    refine apd (F := F_ref03_Bytes) (args := [x.v]) (n := bytesB n) (S := fun _ => True) (N := fun w' => K (.tuple #[]) w') h2.drew (by simp only [Ly.add, bytesB, List.length_append, List.length_nil]; omega) (fun _ _ => trivial) (fun R1 R2 w0 K h0 hK => rBytes_ok h0 hx.cons.cons (by omega) hK) fun w3 h3 => hK w3 ?_
    rw [Ly.add_assoc] at h3
    have e : ∀ (c : Int) (b : List UInt8), (⟨[], 0, c⟩ : Ly).add (lyO b) = ⟨b, 0, c⟩ := fun c b => by simp only [Ly.add, lyO, List.nil_append, or0_0, or0_r]
    rw [e] at h3
    exact h3
  · obtain ⟨sl, hl, h1⟩ := sat_ld.1 h
    refine ifB_dec (fun hc => ?_) fun hc => ?_
    · refine stB h1 (i := 2) fun w2 h2 => sat_ld.2 ⟨sl, ?_, ?_⟩
      · simp only [Ly.add]
        rw [if_pos (by omega)]
        rcases hl with h | h <;> rw [h] <;> simp [or0]
      · simp only [Ly.add, List.append_nil, or0_r]
        rw [if_pos (by omega)]
        have : or0 s.l 2 = 2 := by rcases hl with h | h <;> rw [h] <;> rfl
        rw [this]; exact h2
    · rw [if_neg (by omega), show (⟨[], 0, 0⟩ : Ly) = ly0 from rfl, Ly.add_0]; exact h
theorem lbatch_ok {d : Dc} (h : Sat W w (LdR a s :: l)) (hn : d.num) (hv : VRd W l d) (hlen : s.o.length + 2010 ≤ 140737488355328)
    (hK : ∀ w', Sat W w' (LdR a (s.add (lyD d)) :: l) → K (.tuple #[]) w') : CallP P F_ref17_Laid_batch [.pointer (some ⟨a, 0, none⟩), .agg d.cells.toArray] w K := by
  apply c_ref17_Laid_batch
  unfold S_ref17_Laid_batch
  refine boxB h fun g w1 h1 => ?_
  have hA : Sat W w1 (Blk g d.cells T_api_Batch :: LdR a s :: l) := h1
  have hl := hv.len h.tail
  refine ⟨fun _ w' => ¬ d.no ∧ Sat W w' (Blk g d.cells T_api_Batch :: LdR a s :: l), ?_, ?_⟩
  · rintro _ w2 ⟨hno, h2⟩
    refine ldAggB h2 (by kernel_rfl) ?_
    refine rencode_all h2 hn hv.cons.cons fun t w3 h3 => tup2 ?_
    have hlb := eB_len hn
    have h3' : Sat W w3 (LdR a s :: BsR t (eB d) :: l) := (h3.cut 1).swap
    have e : (s.add (lyE (chk d))).add (lyB (eB d)) = s.add (lyD d) := by
      rw [Ly.add_assoc]
      congr 1
      unfold lyD
      rw [if_neg hno]
      simp only [Ly.add, lyE, lyB, or0_r, List.nil_append, or0_0]
      rw [if_neg (by omega)]
    refine ifB_bne (fun hne => ?_) fun he => ?_
    · refine lfail_ok h3' fun w4 h4 => tupU rfl ?_
      refine lbytes_ok h4 Rd.own (by simp only [Ly.add, lyE, List.append_nil]; omega) fun w5 h5 => tupU rfl (hK w5 ?_)
      rw [e] at h5
      exact h5.drop2
    · refine lbytes_ok h3' Rd.own (by omega) fun w5 h5 => tupU rfl (hK w5 ?_)
      have he' : chk d = 0 := he
      rw [he', show lyE 0 = ly0 from rfl, Ly.add_0] at e
      rw [e] at h5
      exact h5.drop2
  · refine ldB hA (o := 0) (i := 6) (x := d.ct) ?_
    cases hc : d.ct
    · simp only [Bool.not_false, ifB_true]
      refine ldB hA (o := 0) (i := 8) (x := d.vs) ?_
      refine ifB_beq (fun h0 => ?_) fun h0 => ⟨fun hno => h0 (by rw [hl.1, hno.1]; rfl), hA⟩
      have hb : d.bs = [] := List.eq_nil_of_length_eq_zero (by omega)
      have hno : d.no := ⟨hb, hc⟩
      refine lbytes_ok (n := []) (x := ⟨none, 0, 0⟩) hA.tail (Rd.nil rfl) (by simp only [List.length_nil]; omega) fun w2 h2 => tupU rfl (hK w2 ?_)
      have e : lyD d = lyB [] := by unfold lyD; rw [if_pos hno]; rfl
      rw [e]; exact h2
    · simp only [Bool.not_true, ifB_false]
      exact ⟨fun hno => (by rw [hno.2] at hc; cases hc), hA⟩
theorem lbatches_ok {x : Sl} {bl : List Dc} (h : Sat W w (LdR a s :: l)) (hn : ∀ d ∈ bl, d.num) (hv : DsRd W l x bl) (hlen : s.o.length + 2020 + 2010 * bl.length ≤ 140737488355328)
    (hK : ∀ w', Sat W w' (LdR a (s.add (lyDs bl)) :: l) → K (.tuple #[]) w') : CallP P F_ref17_Laid_batches [.pointer (some ⟨a, 0, none⟩), x.v] w K := by
  apply c_ref17_Laid_batches
  unfold S_ref17_Laid_batches
  have hxl : x.len = bl.length := RdC.elen (E := elDc) (hv.1 w h.tail) (by decide)
  have h10 := uintB_len10 bl.length (by omega)
  rw [hxl]
  refine lcount_ok h (by omega) (by omega) fun w1 h1 => tupU rfl ?_
  refine ⟨fun t w' => ∃ k : Nat, t.1 = k ∧ k ≤ bl.length ∧ Sat W w' (LdR a ((s.add (lyN bl.length)).add (lyL lyD (bl.take k))) :: l), fun t _ => bl.length - t.1.toNat, ⟨0, rfl, by omega, by simp only [List.take_zero, lyL]; rw [Ly.add_0]; exact h1⟩, ?_⟩
  rintro ⟨i, u⟩ w2 ⟨k, hk, hkn, h2⟩
  simp only at hk ⊢
  subst hk
  refine ifB_dec (fun hc => ?_) fun hc => ?_
  · have hlt : k < bl.length := by omega
    refine ixEl (E := elDc) (xs := bl) et_batches rfl (hv.1 w2 h2.tail) (x := bl[k]) (by omega) (by simp [hlt]) (by simp; omega) fun ad ha => ?_
    refine ldAggC (cs := bl[k].cells) ha ?_
    have hd := hn bl[k] (List.getElem_mem hlt)
    have hlk := lyDs_take hn k
    refine lbatch_ok h2 hd (hv.2 _ (List.getElem_mem hlt)) (by simp only [Ly.add, lyN, List.length_append]; omega) fun w4 h4 => tupU rfl ?_
    rw [w_i64 (by omega) (by omega)]
    refine ⟨⟨k + 1, rfl, by omega, ?_⟩, by omega⟩
    rw [lyL_snoc lyD hlt, ← Ly.add_assoc]
    exact h4
  · have : k = bl.length := by omega
    subst this
    rw [List.take_length, Ly.add_assoc] at h2
    exact hK w2 h2
theorem rimage_ok {c : Cd} (h : Sat W w l) (hn : c.num) (hv : Rd W l c.ls 1 (c.li.map vI))
    (hK : ∀ t w', Sat W w' (BsR t (if cdE c = 0 then encCd c.d else []) :: l) → K (.tuple #[t.v, .int .i64 (cdE c)]) w') : CallP P F_ref13_DocEncode [.agg c.cells.toArray] w K := by
  apply c_ref13_DocEncode
  unfold S_ref13_DocEncode
  refine boxB h fun g w1 h1 => ?_
  have hA : Sat W w1 (Blk g c.cells T_api_Cmd :: l) := h1
  have hl := (hv w h).1
  simp at hl
  refine ⟨fun _ w' => cdE c = 0 ∧ Sat W w' (Blk g c.cells T_api_Cmd :: l), ?_, ?_⟩
  · rintro _ w2 ⟨he, h2⟩
    have h5 := cdDE0 (x := c.d) he
    have h6 : c.li.length ≤ 5 := h5.1
    obtain ⟨n1, n2, n3, n4, n5, n6⟩ := hn
    refine ldB h2 (o := 0) ?_
    refine ldB h2 (o := 0) ?_
    refine ldB h2 (o := 0) ?_
    refine ldB h2 (o := 0) ?_
    refine ldB h2 (o := 0) ?_
    have hns : ∀ i ∈ c.d.1, okI i := fun i hi => by
      simp only [Cd.d, List.mem_cons, List.not_mem_nil, or_false] at hi
      rcases hi with rfl | rfl | rfl | rfl | rfl <;> assumption
    refine bsB h2 (cs := c.d.1.map vI) (e := T_int) (fun w => by kernel_rfl) fun g2 w4 h4 => ?_
    have h4' : Sat W w4 (BsR ⟨none, 0, 0⟩ [] :: Blk g2 (c.d.1.map vI) T_int :: Blk g c.cells T_api_Cmd :: l) := Sat.nilSlr h4 T_uint8 1
    refine ⟨fun t w' => ∃ k : Nat, t.2.1 = k ∧ k ≤ 5 ∧ Sat W w' (BsR t.1 ((c.d.1.take k).flatMap intB) :: Blk g2 (c.d.1.map vI) T_int :: Blk g c.cells T_api_Cmd :: l), fun t _ => 5 - t.2.1.toNat, ⟨0, rfl, by omega, h4'⟩, ?_⟩
    rintro ⟨t, i, u⟩ w5 ⟨k, hk, hkn, h5⟩
    simp only at hk h5 ⊢
    subst hk
    have hll := ints_len (l := c.d.1.take k) fun i hi => hns i (List.mem_of_mem_take hi)
    have h51 : c.d.1.length = 5 := rfl
    rw [List.length_take, h51] at hll
    refine ifB_dec (fun hc => ?_) fun hc => ?_
    · have hlt : k < c.d.1.length := by rw [h51]; omega
      refine ixld et_ints (rdBlk (h5.up 1) (n := 5) (sz := 1) rfl) (by omega) (k := .int .i64) (x := c.d.1[k]) (by exact getElem?_vI hlt) ?_
      have hb := hns c.d.1[k] (List.getElem_mem hlt)
      have hbl := intB_len hb
      refine rInt_ok h5 hb.1 hb.2 fun t2 w6 h6 => tyI ?_
      refine appBytes h6.swap h6.rdc (by omega) fun t3 w7 h7 => ?_
      rw [w_i64 (by omega) (by omega)]
      refine ⟨⟨k + 1, rfl, by omega, ?_⟩, by omega⟩
      rw [List.take_succ_eq_append_getElem hlt, List.flatMap_append]
      simpa using h7.drop2
    · have : k = 5 := by omega
      subst this
      refine ldB (h5.up 2) (o := 0) (i := 5) (x := c.ls) ?_
      refine rInts_ok h5 hv.cons.cons.cons n6 (by omega) fun t2 w6 h6 => tyI ?_
      have hel := encCd_len (cd_ok ⟨n1, n2, n3, n4, n5, n6⟩ (by omega)) (by show c.li.length ≤ 5; omega)
      have hil : (intsB c.li).length ≤ 200 := by
        have : (encCd c.d).length = ((c.d.1).flatMap intB).length + (intsB c.li).length := List.length_append
        omega
      refine appBytes h6.swap h6.rdc (by omega) fun t3 w7 h7 => ?_
      have e5 : (c.d.1.take 5).flatMap intB ++ intsB c.li = encCd c.d := rfl
      rw [e5] at h7
      have := hK t3 w7
      rw [he, if_pos rfl] at this
      exact this (((h7.cut 1).cut 1).cut 1)
  · have bad : cdE c ≠ 0 → ∀ w', Sat W w' (Blk g c.cells T_api_Cmd :: l) → K (.tuple #[.slice none 0 0, .int .i64 1]) w' := fun hne w' h' => by
      have := hK ⟨none, 0, 0⟩ w' (by rw [if_neg hne]; exact Sat.nilSlr h'.tail T_uint8 1)
      have h1 : cdE c = 1 := by
        unfold cdE at hne ⊢
        split
        · rfl
        · rename_i h2; rw [if_neg h2] at hne; exact absurd rfl hne
      rwa [h1] at this
    have mk : (c.k < 1 ∨ c.k > 5 ∨ c.li.length > 5) → cdE c ≠ 0 := fun hb => by unfold cdE; rw [if_pos hb]; decide
    refine ldB hA (o := 0) (i := 0) (x := c.k) ?_
    refine ifB_dec (fun hb => bad (mk (.inl hb)) _ hA) fun hb1 => ?_
    refine ldB hA (o := 0) (i := 0) (x := c.k) ?_
    refine ifB_dec (fun hb => bad (mk (.inr (.inl hb))) _ hA) fun hb2 => ?_
    refine ldB hA (o := 0) (i := 5) (x := c.ls) ?_
    refine ifB_dec (fun hb => bad (mk (.inr (.inr (by omega)))) _ hA) fun hb3 => ⟨?_, hA⟩
    unfold cdE
    rw [if_neg (by omega)]
end
end Go.Proofs.Ytokogdigfohbeaa
