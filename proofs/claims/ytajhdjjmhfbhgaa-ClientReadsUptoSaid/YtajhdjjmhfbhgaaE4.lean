/- Texts of mine, put together: KCh, KCi, KCj, KCk, KCm. -/
import Derived.Test.YtajhdjjmhfbhgaaE3
import Derived.Test.YtajhdjjmhfbhgaaKVl
/- Layer 19's law: the records that were committed; what a consumer is answered. -/
namespace Go.Proofs.Ytajhdjjmhfbhgaa
open Go Go.Pk
/-- a record -/
structure Rc where
  off : Int
  val : ByteArray
def Rc.cells (r : Rc) : List Value := [.int .i64 r.off, .string r.val]
def elR : El Rc := ⟨T_penstocklaw19_record, 2, Rc.cells, fun _ => Pure True, fun _ => rfl, fun _ u hu => by
  simp only [Rc.cells, List.mem_cons, List.not_mem_nil, or_false] at hu
  rcases hu with rfl | rfl <;> rfl⟩
theorem et_recs : ET P T_sl_penstocklaw19_record T_penstocklaw19_record 2 24 := ET.of (by kernel_rfl)
/-- the records of a batch from one on -/
def recF (base : Int) : Nat → List (List UInt8) → List Rc
  | _, [] => []
  | i, v :: vs => ⟨IntKind.i64.wrap (base + (i : Int)), str v⟩ :: recF base (i + 1) vs
def recB (b : Bt) : List Rc := recF b.base 0 b.bs
theorem recF_len {base : Int} : ∀ (vs : List (List UInt8)) (i : Nat), (recF base i vs).length = vs.length
  | [], _ => rfl
  | v :: vs, i => by simp only [recF, List.length_cons, recF_len vs (i + 1)]
theorem recF_snoc {base : Int} (v : List UInt8) : ∀ (vs : List (List UInt8)) (i : Nat), recF base i (vs ++ [v]) = recF base i vs ++ [⟨IntKind.i64.wrap (base + ((i + vs.length : Nat) : Int)), str v⟩]
  | [], i => by simp [recF]
  | u :: vs, i => by
    simp only [List.cons_append, recF, recF_snoc v vs (i + 1), List.length_cons]
    rw [show i + 1 + vs.length = i + (vs.length + 1) from by omega]
/-- how the first marker of a producer says that it has ended -/
def mark (pid : Int) : List Bt → Option Bool
  | [] => none
  | b :: l => if b.control = true ∧ b.pid = pid then some b.commit else mark pid l
def okL (st : Int) (b : Bt) (rest : List Bt) : Bool := (!b.control && decide (b.base < st)) && (if b.txn then (match mark b.pid rest with | some c => c | none => true) else true)
def allR (st : Int) : List Bt → List Rc
  | [] => []
  | b :: rest => (if okL st b rest then recB b else []) ++ allR st rest
theorem vtot_cons {b : Bt} {l : List Bt} : vtot (b :: l) = b.bs.length + vtot l := rfl
theorem vtot_mem {b : Bt} : ∀ {l : List Bt}, b ∈ l → b.bs.length ≤ vtot l
  | c :: l, h => by
    rw [vtot_cons]
    rcases List.mem_cons.1 h with rfl | h
    · omega
    · have := vtot_mem h; omega
section
variable {W w : World} {l : List Res} {K : Value → World → Prop} {g : Nat} {r : Rr}
/-- behind the batches up to one -/
theorem allR_split {st : Int} : ∀ (dl : List Bt) (i : Nat) (hi : i < dl.length), (∀ acc, acc ++ allR st (dl.drop i) = (acc ++ (if okL st dl[i] (dl.drop (i + 1)) then recB dl[i] else [])) ++ allR st (dl.drop (i + 1))) := by
  intro dl i hi acc
  rw [List.drop_eq_getElem_cons hi, List.append_assoc]
  rfl
theorem lcommitted_ok {x : Sl} {dl : List Bt} {st : Int} (h : Sat W w l) (hr : Rd W l x 9 (elB.flat dl)) (hv : ∀ d ∈ dl, VRd W l d) (hn : dl.length ≤ 1000000) (hvt : vtot dl ≤ 1000000000) (hK : ∀ s w', Sat W w' (SlR T_penstocklaw19_record 2 s (elR.flat (allR st dl)) :: l) → K (Sl.v s) w') :
    CallP P F_law19_committed [x.v, .int .i64 st] w K := by
  apply c_law19_committed
  unfold S_law19_committed
  have hsl : x.len = dl.length := RdC.elen (E := elB) (hr w h) (by decide)
  refine ⟨fun z w' => ∃ (i : Nat) (acc : List Rc), z.2.1 = i ∧ i ≤ dl.length ∧ acc ++ allR st (dl.drop i) = allR st dl ∧ acc.length + vtot (dl.drop i) ≤ vtot dl ∧ Sat W w' (SlR T_penstocklaw19_record 2 z.1 (elR.flat acc) :: l), fun z _ => dl.length - z.2.1.toNat, ⟨0, [], rfl, Nat.zero_le _, rfl, by simp, Sat.nilSlr h T_penstocklaw19_record 2⟩, ?_⟩
  rintro ⟨s, i', u⟩ w2 ⟨i, acc, hi, hil, hacc, hlen, h2⟩
  simp only at hi h2 ⊢
  subst hi
  refine ifB_dec (fun hlt => ?_) fun hge => ?_
  · have hi1 : i < dl.length := by omega
    have hw1 : IntKind.i64.wrap ((i : Int) + 1) = ((i + 1 : Nat) : Int) := w_i64 (by omega) (by omega)
    have hx : dl[((i : Int)).toNat]? = some dl[i] := by rw [Int.toNat_natCast, List.getElem?_eq_getElem hi1]
    have hvb := hv dl[i] (List.getElem_mem hi1)
    rw [allR_split dl i hi1] at hacc
    rw [List.drop_eq_getElem_cons hi1, vtot_cons] at hlen
    refine ixEl (E := elB) et_bts rfl (hr w2 h2.tail) (by omega) (x := dl[i]) hx (by omega) fun A hA => ?_
    refine ldAggC (cs := dl[i].cells) hA ?_
    generalize hb : dl[i] = b at *
    refine newAgg (z := zBt) h2 (elB.one b) fun m w3 h3 => ?_
    have h3 : Sat W w3 (Blk m b.cells T_api_Batch :: SlR T_penstocklaw19_record 2 s (elR.flat acc) :: l) := h3
    have skip : okL st b (dl.drop (i + 1)) = false → ∀ w4, Sat W w4 (SlR T_penstocklaw19_record 2 s (elR.flat acc) :: l) → (∃ (j : Nat) (acc : List Rc), IntKind.i64.wrap ((i : Int) + 1) = j ∧ j ≤ dl.length ∧ acc ++ allR st (dl.drop j) = allR st dl ∧ acc.length + vtot (dl.drop j) ≤ vtot dl ∧ Sat W w4 (SlR T_penstocklaw19_record 2 s (elR.flat acc) :: l)) ∧ dl.length - (IntKind.i64.wrap ((i : Int) + 1)).toNat < dl.length - ((i : Int)).toNat := by
      intro ho w4 h4
      rw [hw1]
      refine ⟨⟨i + 1, acc, rfl, by omega, ?_, by omega, h4⟩, by omega⟩
      rw [ho] at hacc
      simpa using hacc
    refine ⟨fun z w' => z.1 = (!b.control && decide (b.base < st)) ∧ Sat W w' (Blk m b.cells T_api_Batch :: SlR T_penstocklaw19_record 2 s (elR.flat acc) :: l), ?_, ?_⟩
    · rintro ⟨t9, u⟩ w4 ⟨ht9, h4⟩
      simp only at ht9
      subst ht9
      refine ⟨fun z w' => z.1 = okL st b (dl.drop (i + 1)) ∧ Sat W w' (Blk m b.cells T_api_Batch :: SlR T_penstocklaw19_record 2 s (elR.flat acc) :: l), ?_, ?_⟩
      · rintro ⟨t14, u⟩ w5 ⟨ht, h5⟩
        simp only at ht
        subst ht
        refine ifB_intro (fun ho => ?_) fun ho => skip ho w5 h5.tail
        have ho : okL st b (dl.drop (i + 1)) = true := ho
        rw [if_pos ho] at hacc
        refine ldX h5 8 (k := .sl) (x := b.vs) ?_
        have hvl := hvb.len h5.tail.tail
        refine ⟨fun z w' => ∃ j : Nat, z.2.1 = j ∧ j ≤ b.bs.length ∧ Sat W w' (Blk m b.cells T_api_Batch :: SlR T_penstocklaw19_record 2 z.1 (elR.flat (acc ++ recF b.base 0 (b.bs.take j))) :: l), fun z _ => b.bs.length - z.2.1.toNat, ⟨0, rfl, Nat.zero_le _, by simpa [recF] using h5⟩, ?_⟩
        rintro ⟨s3, j', u⟩ w6 ⟨j, hj, hjl, h6⟩
        simp only at hj h6 ⊢
        subst hj
        have hs3 : s3.len = (acc ++ recF b.base 0 (b.bs.take j)).length := RdC.elen (E := elR) h6.tail.rdc (by decide)
        rw [List.length_append, recF_len, List.length_take] at hs3
        refine ifB_dec (fun hlt2 => ?_) fun hge2 => ?_
        · have hj1 : j < b.bs.length := by omega
          have hwj : IntKind.i64.wrap ((j : Int) + 1) = ((j + 1 : Nat) : Int) := w_i64 (by omega) (by omega)
          refine (hvb.cons.cons).ld h6 hj1 fun sv hsv hsvl hrv => ?_
          refine ldX h6 0 (x := b.base) ?_
          refine cvStr (e := T_uint8) (by kernel_rfl) (by kernel_rfl) (by kernel_rfl) (hrv w6 h6) ?_
          refine bsB h6 (cs := (⟨IntKind.i64.wrap (b.base + (j : Int)), str b.bs[j]⟩ : Rc).cells) (e := T_penstocklaw19_record) (fun w => by kernel_rfl) fun g2 w7 h7 => ?_
          refine pushB et_recs (by decide) (h7.sel 3 [2, 0, 1]) rfl (elR.one _) (by omega) (by omega) fun s4 w8 h8 => ?_
          have e2 : elR.flat (acc ++ recF b.base 0 (b.bs.take j)) ++ (⟨IntKind.i64.wrap (b.base + (j : Int)), str b.bs[j]⟩ : Rc).cells = elR.flat (acc ++ recF b.base 0 (b.bs.take (j + 1))) := by
            rw [List.take_add_one, List.getElem?_eq_getElem hj1]
            show _ = elR.flat (acc ++ recF b.base 0 (b.bs.take j ++ [b.bs[j]]))
            rw [recF_snoc, ← List.append_assoc, flat_app (E := elR) (acc ++ recF b.base 0 (b.bs.take j)), flat_one, List.length_take, Nat.min_eq_left (by omega), Nat.zero_add]
            rfl
          rw [e2] at h8
          rw [hwj]
          exact ⟨⟨j + 1, rfl, by omega, h8.sel 3 [2, 0]⟩, by omega⟩
        · have ej : j = b.bs.length := by omega
          subst ej
          rw [List.take_of_length_le (Nat.le_refl _)] at h6
          rw [hw1]
          refine ⟨⟨i + 1, acc ++ recB b, rfl, by omega, hacc, ?_, h6.tail⟩, by omega⟩
          rw [List.length_append]
          show acc.length + (recF b.base 0 b.bs).length + _ ≤ _
          rw [recF_len]; omega
      · -- the first marker behind it
        refine ⟨fun z w' => ∃ k : Nat, z.2.1 = k ∧ i + 1 ≤ k ∧ k ≤ dl.length ∧ z.1 = (!b.control && decide (b.base < st)) ∧ (b.txn = true → mark b.pid (dl.drop k) = mark b.pid (dl.drop (i + 1))) ∧ Sat W w' (Blk m b.cells T_api_Batch :: SlR T_penstocklaw19_record 2 s (elR.flat acc) :: l), fun z _ => dl.length - z.2.1.toNat,
          ⟨i + 1, hw1, Nat.le_refl _, by omega, rfl, fun _ => rfl, h4⟩, ?_⟩
        rintro ⟨t17, k', u⟩ w5 ⟨k, hk, hk1, hk2, ht17, hmk, h5⟩
        simp only at hk ht17 ⊢
        subst hk
        subst ht17
        have out : (b.txn = false ∨ k = dl.length) → ∀ w', Sat W w' (Blk m b.cells T_api_Batch :: SlR T_penstocklaw19_record 2 s (elR.flat acc) :: l) → (!b.control && decide (b.base < st)) = okL st b (dl.drop (i + 1)) := by
          intro hh w' _
          unfold okL
          rcases hh with hh | hh
          · rw [hh]; simp
          · cases htx : b.txn with
            | false => simp
            | true =>
              rw [← hmk htx, hh, List.drop_of_length_le (Nat.le_refl _)]
              simp [mark]
        refine ⟨fun _ w' => k < dl.length ∧ b.txn = true ∧ w' = w5, ?_, ?_⟩
        · rintro _ w6 ⟨hk3, htx, rfl⟩
          have h6 := h5.drew
          have hxk : dl[((k : Int)).toNat]? = some dl[k] := by rw [Int.toNat_natCast, List.getElem?_eq_getElem hk3]
          have hwk : IntKind.i64.wrap ((k : Int) + 1) = ((k + 1 : Nat) : Int) := w_i64 (by omega) (by omega)
          have hstep : mark b.pid (dl.drop k) = if dl[k].control = true ∧ dl[k].pid = b.pid then some dl[k].commit else mark b.pid (dl.drop (k + 1)) := by
            rw [List.drop_eq_getElem_cons hk3]; rfl
          have nx : ¬ (dl[k].control = true ∧ dl[k].pid = b.pid) → (∃ j : Nat, IntKind.i64.wrap ((k : Int) + 1) = j ∧ i + 1 ≤ j ∧ j ≤ dl.length ∧ (!b.control && decide (b.base < st)) = (!b.control && decide (b.base < st)) ∧ (b.txn = true → mark b.pid (dl.drop j) = mark b.pid (dl.drop (i + 1))) ∧ Sat W w6.drew (Blk m b.cells T_api_Batch :: SlR T_penstocklaw19_record 2 s (elR.flat acc) :: l)) ∧ dl.length - (IntKind.i64.wrap ((k : Int) + 1)).toNat < dl.length - ((k : Int)).toNat := by
            intro hc
            rw [hwk]
            refine ⟨⟨k + 1, rfl, by omega, by omega, rfl, fun ht => ?_, h6⟩, by omega⟩
            rw [← hmk ht, hstep, if_neg hc]
          refine ixEl (E := elB) et_bts rfl (hr _ h6.tail.tail) (by omega) (x := dl[k]) hxk (by omega) fun A hA => ?_
          refine ldC (k := .bool) (x := dl[k].control) (hA 6 _ rfl) ?_
          refine ifB_intro (fun hc => ?_) fun hc => nx (fun hh => by rw [show dl[k].control = false from hc] at hh; cases hh.1)
          refine ixEl (E := elB) et_bts rfl (hr _ h6.tail.tail) (by omega) (x := dl[k]) hxk (by omega) fun A hA => ?_
          refine ldC (k := .int .u64) (x := dl[k].pid) (hA 2 _ rfl) ?_
          refine ldX h6 2 (k := .int .u64) (x := b.pid) ?_
          refine ifB_beq (fun he => ?_) fun hne => nx (fun hh => hne hh.2)
          have hmk2 : mark b.pid (dl.drop (i + 1)) = some dl[k].commit := by rw [← hmk htx, hstep, if_pos ⟨hc, he⟩]
          have hok : okL st b (dl.drop (i + 1)) = ((!b.control && decide (b.base < st)) && dl[k].commit) := by
            unfold okL
            rw [htx, hmk2]; rfl
          refine ifB_intro (fun h1 => ?_) fun h1 => ?_
          · refine ixEl (E := elB) et_bts rfl (hr _ h6.tail.tail) (by omega) (x := dl[k]) hxk (by omega) fun A hA => ?_
            refine ldC (k := .bool) (x := dl[k].commit) (hA 7 _ rfl) ?_
            refine ⟨?_, h6⟩
            rw [hok, show (!b.control && decide (b.base < st)) = true from h1]; rfl
          · refine ⟨?_, h6⟩
            rw [hok, show (!b.control && decide (b.base < st)) = false from h1]; rfl
        · refine ifB_dec (fun hlt2 => ?_) fun hge2 => ⟨out (.inr (by omega)) w5 h5, h5⟩
          refine ldX h5 5 (k := .bool) (x := b.txn) ?_
          refine ifB_intro (fun htx => ⟨by omega, htx, rfl⟩) fun htx => ⟨out (.inl htx) w5 h5, h5⟩
    · refine ldX h3 6 (k := .bool) (x := b.control) ?_
      refine ifB_not (ifB_intro (fun hc => ?_) fun hc => ?_)
      · exact ⟨by rw [show b.control = true from hc]; rfl, h3⟩
      · refine ldX h3 0 (x := b.base) ?_
        exact ⟨by rw [show b.control = false from hc]; rfl, h3⟩
  · have e : i = dl.length := by omega
    subst e
    rw [List.drop_of_length_le (Nat.le_refl _)] at hacc
    have hacc : acc ++ [] = allR st dl := hacc
    rw [List.append_nil] at hacc
    rw [hacc] at h2
    exact hK s w2 h2
end
end Go.Proofs.Ytajhdjjmhfbhgaa

/- Layer 19's law: a consumer is answered. -/
namespace Go.Proofs.Ytajhdjjmhfbhgaa
open Go Go.Pk
def RrOk (r : Rr) : Prop := ∀ d ∈ r.dl, d.ss.length = d.bs.length
/-- what a consumer is answered -/
def mrOf (a : Aq) : Rp := ⟨15, a.corr, 0, 0, a.inc, 0, 0, false, 0, ⟨none, 0, 0⟩, [], ⟨none, 0, 0⟩, [], ⟨none, 0, 0⟩, [], 0⟩
def reB (a : Aq) : Aq := { zAq with kind := 15, corr := a.corr, inc := a.inc }
theorem nset2 {cs : List Value} {i : Nat} {v : Value} (h : i < cs.length) : (cs.set i v)[i]? = some v := by rw [List.getElem?_set_self h]
theorem cmts_in {to from_ : Int} : ∀ (dl : List Bt) (k : Nat), ∀ d ∈ cmts to from_ dl k, d ∈ dl
  | [], _, d, h => by cases h
  | b :: dl, k, d, h => by
    unfold cmts at h
    split at h
    · cases h
    · split at h
      · rcases List.mem_append.1 h with h | h
        · split at h
          · rw [List.mem_singleton.1 h]; exact List.mem_cons_self
          · cases h
        · exact List.mem_cons_of_mem _ (cmts_in dl _ d h)
      · exact List.mem_cons_of_mem _ (cmts_in dl _ d h)
theorem tup3v {v : Value} {n : Int} {e : Bool} {K : Value × Int × Bool × Unit → Prop} (h : K (v, n, e, ())) : TupP [.val, .int .i64, .bool] (.tuple #[v, .int .i64 n, .bool e]) K := ⟨_, rfl, h⟩
theorem tup3s {s a : Sl} {n : Int} {K : Sl × Sl × Int × Unit → Prop} (h : K (s, a, n, ())) : TupP [.sl, .sl, .int .i64] (.tuple #[s.v, a.v, .int .i64 n]) K := ⟨_, rfl, h⟩
section
variable {W w : World} {l : List Res} {K : Value → World → Prop} {g : Nat} {r : Rr} {a : Aq} {vs : Sl} {sure : Int}
theorem VRd.ownR {d : Bt} (hd : d ∈ r.dl) (ho : RrOk r) : VRd W (OwnS elBv r.ls r.dl :: l) d := by
  obtain ⟨i, hi⟩ := List.getElem?_of_mem hd
  refine ⟨Rd.ownE hi fun l => Rd.vsHead, ho d hd, fun j s b h1 h2 => Rd.ownE hi fun l => Rd.vsOne h1 h2⟩
theorem retC {y z : Nat} {cs zs : List Value} {n : Int} {t : Bool} (h : Sat W w (Blk y cs T_api_Msg :: Blk z zs T_api_Msg :: l)) (hc : cs.length = 59) (hz : zs.length = 59) (h1 : ∀ u ∈ cs, u.oneCell' = true) (hK : ∀ w', Sat W w' l → K (.tuple #[.agg cs.toArray, .int .i64 n, .bool t]) w') :
    RunQ .val P (Instr.loadAt T_api_Msg (.pointer (some ⟨y, 0, none⟩))) w fun v => StoreP P T_api_Msg (.pointer (some ⟨z, 0, none⟩)) v w fun w' => LoadK .val P T_api_Msg (.pointer (some ⟨z, 0, none⟩)) w' fun v2 => K (.tuple #[v2, .int .i64 n, .bool t]) w' := by
  refine ldAggB h (by rw [hc]; kernel_rfl) ?_
  refine stAggB (cs' := cs) h.swap (by rw [hc, hz]) h1 (by rw [hc]; kernel_rfl) fun w2 h2 => ?_
  refine lkAgg h2 (by rw [hc]; kernel_rfl) ?_
  exact hK w2 h2.tail.tail
theorem ones_set {cs : List Value} {i : Nat} {v : Value} (h : ∀ u ∈ cs, u.oneCell' = true) (hv : v.oneCell' = true) : ∀ u ∈ cs.set i v, u.oneCell' = true := by
  intro u hu
  rcases List.mem_or_eq_of_mem_set hu with hu | rfl
  · exact h u hu
  · exact hv
theorem serve_ok (h : Sat W w (RrL g r l)) (hn : r.dl.length ≤ 1000000) (ho : RrOk r) (hk : a.kind = 11 ∨ a.kind = 14 ∨ a.kind = 6 ∨ (a.kind = 12 ∧ a.gen = 1 ∧ a.offset ≥ sure))
    (hK : ∀ (cs : List Value) (m : Rp) (ex : Res) (sure' : Int) w', RpC cs m → (∀ u ∈ cs, u.oneCell' = true) → m.kind = 15 → m.corr = a.corr → m.inc = a.inc → m.er = 0 →
      (a.kind = 11 → m.gen = 1 ∧ m.mi = [0] ∧ sure' = sure) → (a.kind = 14 → m.offset = sure ∧ sure' = sure) → (a.kind = 12 → sure' = a.offset) →
      (a.kind = 6 → sure' = sure ∧ ∃ first any, US (tabl r.dl r.high) first any ∧ m.bl = cmts (if any then first else r.high) a.offset r.dl 8 ∧ m.al = if m.bl = [] then [] else aborts (tabl r.dl (lend r.dl)) (firstB m.bl) (lend m.bl)) →
      (a.kind ≠ 6 → m.bl = [] ∧ m.al = []) →
      (∀ L, RpRd W (ex :: RrL g r L) m) → Sat W w' (ex :: RrL g r l) → K (.tuple #[.agg cs.toArray, .int .i64 sure', .bool true]) w') :
    CallP P F_law19_serve [.pointer (some ⟨g, 0, none⟩), .agg (a.cells vs).toArray, .int .i64 sure] w K := by
  apply c_law19_serve
  unfold S_law19_serve
  refine boxB h fun m w1 h1 => ?_
  have h1 : Sat W w1 (Blk m (a.cells vs) T_api_Msg :: RrL g r l) := h1
  refine newM h1 fun z w2 h2 => ?_
  have hm := h2.swap
  refine ldX hm 3 (x := a.corr) ?_
  refine ldX hm 48 (x := a.inc) ?_
  refine newAgg (z := zAq.cells nsl) (cs := (reB a).cells nsl) h2 (Aq.ones _ _) fun y w3 h3 => ?_
  have h3 : Sat W w3 (Blk y ((reB a).cells nsl) T_api_Msg :: Blk z (zAq.cells nsl) T_api_Msg :: Blk m (a.cells vs) T_api_Msg :: RrL g r l) := h3
  have h3m : Sat W w3 (Blk m (a.cells vs) T_api_Msg :: Blk y ((reB a).cells nsl) T_api_Msg :: Blk z (zAq.cells nsl) T_api_Msg :: RrL g r l) := h3.sel 3 [2, 0, 1]
  refine ⟨fun _ w' => ∃ (cs : List Value) (mr : Rp) (ex : Res), a.kind ≠ 12 ∧ RpC cs mr ∧ (∀ u ∈ cs, u.oneCell' = true) ∧ mr.kind = 15 ∧ mr.corr = a.corr ∧ mr.inc = a.inc ∧ mr.er = 0 ∧
      (a.kind = 11 → mr.gen = 1 ∧ mr.mi = [0]) ∧ (a.kind = 14 → mr.offset = sure) ∧
      (a.kind = 6 → ∃ first any, US (tabl r.dl r.high) first any ∧ mr.bl = cmts (if any then first else r.high) a.offset r.dl 8 ∧ mr.al = if mr.bl = [] then [] else aborts (tabl r.dl (lend r.dl)) (firstB mr.bl) (lend mr.bl)) ∧
      (a.kind ≠ 6 → mr.bl = [] ∧ mr.al = []) ∧ (∀ L, RpRd W (ex :: RrL g r L) mr) ∧ Sat W w' (Blk y cs T_api_Msg :: Blk z (zAq.cells nsl) T_api_Msg :: ex :: RrL g r l), ?_, ?_⟩
  · rintro _ w4 ⟨cs, mr, ex, a1, a2, a3, a4, a5, a6, a7, a8, a9, a10, a11, a12, h4⟩
    exact retC h4 a2.len rfl a3 fun w5 h5 => hK cs mr ex sure w5 a2 a3 a4 a5 a6 a7 (fun hh => ⟨(a8 hh).1, (a8 hh).2, rfl⟩) (fun hh => ⟨a9 hh, rfl⟩) (fun hh => absurd hh a1) (fun hh => ⟨rfl, a10 hh⟩) a11 a12 h5
  · have hc0 : RpC ((reB a).cells nsl) (mrOf a) := ⟨rfl, rfl, rfl, rfl, rfl, rfl, rfl, rfl, rfl, rfl, rfl, rfl, rfl, rfl⟩
    refine ldX h3m 0 (x := a.kind) ?_
    refine ifB_beq (fun k11 => ?_) fun k11 => ?_
    · refine stX h3 53 fun w4 h4 => ?_
      have h4 : Sat W w4 (Blk y (((reB a).cells nsl).set 53 (.int .i64 1)) T_api_Msg :: Blk z (zAq.cells nsl) T_api_Msg :: Blk m (a.cells vs) T_api_Msg :: RrL g r l) := h4
      refine bsB h4 (cs := [.int .i64 0]) (e := T_int) (fun w => by kernel_rfl) fun g2 w5 h5 => ?_
      have h5 : Sat W w5 (Blk g2 [.int .i64 0] T_int :: Blk y (((reB a).cells nsl).set 53 (.int .i64 1)) T_api_Msg :: Blk z (zAq.cells nsl) T_api_Msg :: Blk m (a.cells vs) T_api_Msg :: RrL g r l) := h5
      have h6 : Sat W w5 (Blk y (((reB a).cells nsl).set 53 (.int .i64 1)) T_api_Msg :: Blk g2 [.int .i64 0] T_int :: Blk z (zAq.cells nsl) T_api_Msg :: Blk m (a.cells vs) T_api_Msg :: RrL g r l) := h5.swap
      refine stX h6 55 (hi := by rw [List.length_set]; show 55 < 59; decide) fun w6 h7 => ?_
      have hone : ∀ u ∈ (((reB a).cells nsl).set 53 (.int .i64 1)).set 55 (Sl.v ⟨some ⟨g2, 0, none⟩, 1, 1⟩), u.oneCell' = true := ones_set (ones_set (v := .int .i64 1) (Aq.ones _ _) rfl) rfl
      refine ⟨_, { mrOf a with gen := 1, ms := ⟨some ⟨g2, 0, none⟩, 1, 1⟩, mi := [0] }, Blk g2 [.int .i64 0] T_int, by omega, ⟨rfl, rfl, rfl, rfl, rfl, rfl, rfl, rfl, rfl, rfl, rfl, rfl, rfl, rfl⟩, hone, rfl, rfl, rfl, rfl, fun _ => ⟨rfl, rfl⟩, fun hh => by omega, fun hh => by omega, fun _ => ⟨rfl, rfl⟩, fun L => ⟨?_, Rd.nil rfl, (fun d hd => by cases hd), Rd.nil rfl⟩, h7.sel 4 [0, 2, 1]⟩
      intro w' h'
      exact rdBlk h' (n := 1) (sz := 1) rfl
    refine ifB_beq (fun k14 => ?_) fun k14 => ?_
    · refine stX h3 46 fun w4 h4 => ?_
      have hone : ∀ u ∈ ((reB a).cells nsl).set 46 (.int .i64 sure), u.oneCell' = true := ones_set (Aq.ones _ _) rfl
      refine ⟨_, { mrOf a with offset := sure }, Pure True, by omega, ⟨rfl, rfl, rfl, rfl, rfl, rfl, rfl, rfl, rfl, rfl, rfl, rfl, rfl, rfl⟩, hone, rfl, rfl, rfl, rfl, fun hh => by omega, fun _ => rfl, fun hh => by omega, fun _ => ⟨rfl, rfl⟩, fun L => ⟨Rd.nil rfl, Rd.nil rfl, (fun d hd => by cases hd), Rd.nil rfl⟩, ?_⟩
      have h5 : Sat W w4 (Blk y (((reB a).cells nsl).set 46 (.int .i64 sure)) T_api_Msg :: Blk z (zAq.cells nsl) T_api_Msg :: RrL g r l) := h4.sel 3 [0, 1]
      exact (sat_pure.2 ⟨trivial, h5⟩ : Sat W w4 (Pure True :: Blk y (((reB a).cells nsl).set 46 (.int .i64 sure)) T_api_Msg :: Blk z (zAq.cells nsl) T_api_Msg :: RrL g r l)).sel 3 [1, 2, 0]
    refine ifB_beq (fun k6 => ?_) fun k6 => ?_
    · refine ldX h3m 46 (x := a.offset) ?_
      have h4 : Sat W w3 (RrL g r (Blk y ((reB a).cells nsl) T_api_Msg :: Blk z (zAq.cells nsl) T_api_Msg :: l)) := h3.sel 6 [3, 4, 5, 0, 1]
      refine committed_ok14 (from_ := a.offset) (n := 8) h4 hn (by omega) fun first any s al w4 hus h5 => tup3s ?_
      generalize hto : (if any = true then first else r.high) = to at h5 ⊢
      generalize hbl : cmts to a.offset r.dl 8 = bl at h5
      generalize hal : (if bl = [] then [] else aborts (tabl r.dl (lend r.dl)) (firstB bl) (lend bl)) = ab at h5
      have h6 : Sat W w4 (Blk y ((reB a).cells nsl) T_api_Msg :: Blk z (zAq.cells nsl) T_api_Msg :: SlR T_api_Batch 9 s (elB.flat bl) :: SlR T_api_Abort 3 al (elA.flat ab) :: RrL g r l) := h5.sel 7 [5, 6, 0, 1, 2, 3, 4]
      refine stX h6 56 fun w5 h7 => ?_
      refine stX h7 57 (hi := by rw [List.length_set]; show 57 < 59; decide) fun w6 h8 => ?_
      refine stX h8 58 (hi := by rw [List.length_set, List.length_set]; show 58 < 59; decide) fun w7 h9 => ?_
      have hex : ∀ {w' : World} {L : List Res}, Sat W w' (All [SlR T_api_Batch 9 s (elB.flat bl), SlR T_api_Abort 3 al (elA.flat ab)] :: L) ↔ Sat W w' (SlR T_api_Batch 9 s (elB.flat bl) :: SlR T_api_Abort 3 al (elA.flat ab) :: L) := fun {w' L} => sat_all (l' := [SlR T_api_Batch 9 s (elB.flat bl), SlR T_api_Abort 3 al (elA.flat ab)])
      have hone : ∀ u ∈ ((((reB a).cells nsl).set 56 s.v).set 57 al.v).set 58 (.int .i64 to), u.oneCell' = true := ones_set (ones_set (v := al.v) (ones_set (v := s.v) (Aq.ones _ _) rfl) rfl) rfl
      refine ⟨_, { mrOf a with bs := s, bl := bl, av := al, al := ab, high := to }, All [SlR T_api_Batch 9 s (elB.flat bl), SlR T_api_Abort 3 al (elA.flat ab)], by omega, ⟨rfl, rfl, rfl, rfl, rfl, rfl, rfl, rfl, rfl, rfl, rfl, rfl, rfl, rfl⟩, hone, rfl, rfl, rfl, rfl, fun hh => by omega, fun hh => by omega, fun _ => ⟨first, any, hus, by rw [hto]; exact hbl.symm, hal.symm⟩, fun hh => absurd k6 hh, fun L => ⟨Rd.nil rfl, ?_, ?_, ?_⟩, ?_⟩
      · intro w' h'
        exact (hex.1 h').rdc
      · intro d hd
        have hd : d ∈ r.dl := by rw [← hbl] at hd; exact cmts_in _ _ d hd
        have hv : VRd W (OwnS elBv r.ls r.dl :: IsR r.isr [0] :: L) d := VRd.ownR hd ho
        exact hv.cons.cons
      · intro w' h'
        exact (hex.1 h').tail.rdc
      · have h10 := hex.2 (h9.sel 4 [2, 3, 0, 1])
        exact h10.sel 3 [1, 2, 0]
    refine ifB_beq (fun k12 => ?_) fun k12 => ?_
    · obtain ⟨_, hg1, hoff⟩ : a.kind = 12 ∧ a.gen = 1 ∧ a.offset ≥ sure := by
        rcases hk with hk | hk | hk | hk
        · exact absurd hk k11
        · exact absurd hk k14
        · exact absurd hk k6
        · exact hk
      have h4 := h3.drew
      let S : World → Prop := fun w => ∃ L, Sat W w (Blk y ((reB a).cells nsl) T_api_Msg :: Blk m (a.cells vs) T_api_Msg :: L)
      refine ⟨S, ⟨_, h4.sel 3 [0, 2, 1]⟩, ?_⟩
      refine hldAggB (S := S) (cs := (reB a).cells nsl) (fun w ⟨L, h⟩ => ⟨_, h⟩) (by kernel_rfl) ?_
      refine hldX (S := S) (fun w ⟨L, h⟩ => ⟨_, h.swap⟩) 46 (x := a.offset) ?_
      refine hldX (S := S) (fun w ⟨L, h⟩ => ⟨_, h.swap⟩) 53 (x := a.gen) ?_
      refine ifB_beq (fun _ => ?_) fun hne => absurd hg1 hne
      refine hldX (S := S) (fun w ⟨L, h⟩ => ⟨_, h.swap⟩) 46 (x := a.offset) ?_
      refine stAggB (cs' := (reB a).cells nsl) h4.swap rfl (Aq.ones _ _) (by kernel_rfl) fun w5 h5 => ⟨⟨_, h5.sel 3 [1, 2, 0]⟩, ?_⟩
      refine lkAgg h5 (by kernel_rfl) ?_
      rw [decide_eq_true hoff]
      have h6 : Sat W w5 (RrL g r l) := h5.tail.tail.tail
      refine hK _ (mrOf a) (Pure True) _ w5 hc0 (Aq.ones _ _) rfl rfl rfl rfl (fun hh => absurd hh k11) (fun hh => absurd hh k14) (fun _ => ?_) (fun hh => absurd hh k6) (fun _ => ⟨rfl, rfl⟩) (fun L => ⟨Rd.nil rfl, Rd.nil rfl, (fun d hd => by cases hd), Rd.nil rfl⟩) (sat_pure.2 ⟨trivial, h6⟩)
      split <;> omega
    · exfalso
      rcases hk with hk | hk | hk | hk
      · exact k11 hk
      · exact k14 hk
      · exact k6 hk
      · exact k12 hk.1
end
end Go.Proofs.Ytajhdjjmhfbhgaa

/- Layer 19's law, plain: what is aborted is what its first marker says. -/
namespace Go.Proofs.Ytajhdjjmhfbhgaa
open Go Go.Pk
/-- a batch as it lies in a log -/
structure BtF (b : Bt) : Prop where
  vs : b.vs.len = b.bs.length
  ss : b.ss.length = b.bs.length
  ctl : b.control = true → b.bs = [] ∧ b.txn = true
  dat : b.control = false → 1 ≤ b.bs.length
  txn : b.txn = true → b.pid ≠ 0
  pid : 0 ≤ b.pid
  n16 : b.bs.length ≤ 16
  v64 : ∀ v ∈ b.bs, v.length ≤ 64
def sz (b : Bt) : Int := if b.control then 1 else (b.bs.length : Int)
/-- batches that follow one another from an offset on -/
def Fine : Int → List Bt → Prop
  | _, [] => True
  | e, b :: l => b.base = e ∧ BtF b ∧ Fine (e + sz b) l
theorem sz_pos {b : Bt} (h : BtF b) : 1 ≤ sz b ∧ sz b ≤ 16 := by
  unfold sz
  have := h.n16
  split
  · omega
  · rename_i hc
    have := h.dat (by simpa using hc)
    omega
theorem Fine.app : ∀ {l m : List Bt} {e : Int}, Fine e (l ++ m) → Fine e l ∧ ∃ e', e ≤ e' ∧ Fine e' m ∧ (∀ b ∈ l, b.base < e')
  | [], m, e, h => ⟨trivial, e, Int.le_refl _, h, by simp⟩
  | b :: l, m, e, h => by
    obtain ⟨h1, h2, h3⟩ := h
    obtain ⟨a1, e', a2, a3, a4⟩ := Fine.app h3
    have := sz_pos h2
    refine ⟨⟨h1, h2, a1⟩, e', by omega, a3, fun c hc => ?_⟩
    rcases List.mem_cons.1 hc with rfl | hc
    · omega
    · exact a4 c hc
theorem Fine.ge : ∀ {l : List Bt} {e : Int}, Fine e l → ∀ b ∈ l, e ≤ b.base
  | b :: l, e, h, c, hc => by
    obtain ⟨h1, h2, h3⟩ := h
    have := sz_pos h2
    rcases List.mem_cons.1 hc with rfl | hc
    · omega
    · have := Fine.ge h3 c hc; omega
theorem Fine.btF : ∀ {l : List Bt} {e : Int}, Fine e l → ∀ b ∈ l, BtF b
  | b :: l, e, h, c, hc => by
    obtain ⟨h1, h2, h3⟩ := h
    rcases List.mem_cons.1 hc with rfl | hc
    · exact h2
    · exact Fine.btF h3 c hc
/-- one place in a list -/
theorem split_le {l p q p2 q2 : List Bt} {x y : Bt} {e : Int} (hf : Fine e l) (h1 : l = p ++ x :: q) (h2 : l = p2 ++ y :: q2) (hlt : x.base < y.base) : ∃ mid, p2 = p ++ x :: mid ∧ q = mid ++ y :: q2 := by
  rw [h1] at h2
  rcases List.append_eq_append_iff.1 h2 with ⟨a, ha1, ha2⟩ | ⟨a, ha1, ha2⟩
  · cases a with
    | nil =>
      simp only [List.nil_append, List.cons.injEq] at ha2
      rw [ha2.1] at hlt; omega
    | cons z a =>
      simp only [List.cons_append, List.cons.injEq] at ha2
      obtain ⟨rfl, ha2⟩ := ha2
      exact ⟨a, ha1, ha2⟩
  · cases a with
    | nil =>
      simp only [List.nil_append, List.cons.injEq] at ha2
      rw [ha2.1] at hlt; omega
    | cons z a =>
      simp only [List.cons_append, List.cons.injEq] at ha2
      obtain ⟨rfl, ha2⟩ := ha2
      -- y ahead of x
      rw [h1, ha1] at hf
      rw [List.append_assoc] at hf
      obtain ⟨_, e', _, hf2, _⟩ := Fine.app hf
      have hf3 : Fine e' (y :: (a ++ x :: q)) := hf2
      obtain ⟨k1, k2, k3⟩ := hf3
      have := Fine.ge k3 x (by simp)
      have := sz_pos k2
      omega
/-- what is open of a producer -/
def opF (pid : Int) (o : Int) (b : Bt) : Int := if b.pid ≠ pid ∨ pid = 0 then o else if b.control then -1 else if b.txn = true ∧ o < 0 then b.base else o
theorem kn_op (pid : Int) : ∀ (l : List Bt) (k : Kn), (l.foldl (knStep pid) k).opn = l.foldl (opF pid) k.opn
  | [], _ => rfl
  | b :: l, k => by
    rw [List.foldl_cons, List.foldl_cons, kn_op pid l]
    congr 1
    unfold knStep opF
    split
    · rfl
    · simp only
      split <;> rfl
def opn (pid : Int) (l : List Bt) : Int := l.foldl (opF pid) (-1)
theorem kn_opn2 (pid : Int) (l : List Bt) : (kn pid l).opn = opn pid l := kn_op pid l _
theorem opn_app (pid : Int) (l m : List Bt) : opn pid (l ++ m) = m.foldl (opF pid) (opn pid l) := by unfold opn; rw [List.foldl_append]
theorem fold_filter {pid : Int} (hp : 0 < pid) : ∀ (l : List Bt) (o : Int), (l.filter fun b => decide (b.pid > 0)).foldl (opF pid) o = l.foldl (opF pid) o
  | [], _ => rfl
  | b :: l, o => by
    rw [List.filter_cons]
    split
    · rw [List.foldl_cons, List.foldl_cons]; exact fold_filter hp l _
    · rename_i hb
      rw [List.foldl_cons, fold_filter hp l]
      congr 1
      unfold opF
      rw [if_pos]
      left
      intro hh
      rw [hh] at hb
      simp at hb; omega
/-- what is open is where a batch begins, or nothing -/
theorem fold_open {pid : Int} : ∀ (l : List Bt) (o : Int), (l.foldl (opF pid) o = o) ∨ (l.foldl (opF pid) o = -1) ∨ (∃ b ∈ l, l.foldl (opF pid) o = b.base)
  | [], o => .inl rfl
  | b :: l, o => by
    rw [List.foldl_cons]
    have h1 : opF pid o b = o ∨ opF pid o b = -1 ∨ opF pid o b = b.base := by
      unfold opF
      split
      · exact .inl rfl
      · split
        · exact .inr (.inl rfl)
        · split
          · exact .inr (.inr rfl)
          · exact .inl rfl
    rcases fold_open l (opF pid o b) with h | h | ⟨c, hc, h⟩
    · rw [h]
      rcases h1 with h1 | h1 | h1
      · exact .inl h1
      · exact .inr (.inl h1)
      · exact .inr (.inr ⟨b, by simp, h1⟩)
    · exact .inr (.inl h)
    · exact .inr (.inr ⟨c, by simp [hc], h⟩)
/-- no marker: what is open stays -/
theorem fold_stay {pid : Int} : ∀ (l : List Bt) (o : Int), 0 ≤ o → mark pid l = none → l.foldl (opF pid) o = o
  | [], _, _, _ => rfl
  | b :: l, o, ho, hm => by
    unfold mark at hm
    split at hm
    · cases hm
    · rename_i hc
      rw [List.foldl_cons]
      have : opF pid o b = o := by
        unfold opF
        split
        · rfl
        · rename_i hp
          split
          · rename_i hcc
            exact absurd ⟨hcc, Classical.byContradiction fun hh => hp (.inl hh)⟩ hc
          · rw [if_neg (fun hh => by have := hh.2; omega)]
      rw [this]
      exact fold_stay l o ho hm
theorem mark_app {pid : Int} : ∀ (l m : List Bt), mark pid (l ++ m) = match mark pid l with | some c => some c | none => mark pid m
  | [], m => rfl
  | b :: l, m => by
    simp only [List.cons_append, mark]
    split
    · rfl
    · exact mark_app l m
theorem mark_some {pid : Int} {c : Bool} : ∀ {l : List Bt}, mark pid l = some c → ∃ mid x q, l = mid ++ x :: q ∧ mark pid mid = none ∧ x.control = true ∧ x.pid = pid ∧ x.commit = c
  | b :: l, h => by
    unfold mark at h
    split at h
    · rename_i hb
      exact ⟨[], b, l, rfl, rfl, hb.1, hb.2, Option.some.inj h⟩
    · rename_i hb
      obtain ⟨mid, x, q, h1, h2, h3⟩ := mark_some h
      refine ⟨b :: mid, x, q, by rw [h1]; rfl, ?_, h3⟩
      unfold mark
      rw [if_neg hb]; exact h2
/-- a marker inside: nothing that began ahead of it is open -/
theorem fold_late {pid : Int} (hp : pid ≠ 0) {mid : List Bt} {e o : Int} (hf : Fine e mid) (h0 : 0 ≤ e) (hm : mark pid mid ≠ none) : mid.foldl (opF pid) o = -1 ∨ e ≤ mid.foldl (opF pid) o := by
  cases hc : mark pid mid with
  | none => exact absurd hc hm
  | some c =>
    obtain ⟨m1, x, q, h1, _, h3, h4, _⟩ := mark_some hc
    rw [h1, List.foldl_append, List.foldl_cons]
    have hx : opF pid (m1.foldl (opF pid) o) x = -1 := by
      unfold opF
      rw [if_neg (by rintro (h | h); exact h h4; exact hp h), if_pos h3]
    rw [hx]
    rcases fold_open q (-1) with h | h | ⟨y, hy, h⟩
    · exact .inl h
    · exact .inl h
    · right
      rw [h]
      exact Fine.ge hf y (by rw [h1]; simp [hy])
theorem mem_aborts {tl : List Bt} {lo hi : Int} {a : Ao} : a ∈ aborts tl lo hi ↔ ∃ p x q, tl = p ++ x :: q ∧ x.control = true ∧ x.commit = false ∧ (kn x.pid p).is = true ∧ (kn x.pid p).opn ≥ 0 ∧ x.base ≥ lo ∧ (kn x.pid p).opn < hi ∧ a = ⟨x.pid, (kn x.pid p).opn, x.base⟩ := by
  unfold aborts
  rw [List.mem_flatMap]
  constructor
  · rintro ⟨i, hi', ha⟩
    have hil : i < tl.length := List.mem_range.1 hi'
    unfold abOf at ha
    rw [List.getElem?_eq_getElem hil] at ha
    simp only at ha
    split at ha
    · rename_i hc
      refine ⟨tl.take i, tl[i], tl.drop (i + 1), ?_, hc.1, hc.2.1, hc.2.2.1, hc.2.2.2.1, hc.2.2.2.2.1, hc.2.2.2.2.2, List.mem_singleton.1 ha⟩
      rw [← List.drop_eq_getElem_cons hil, List.take_append_drop]
    · cases ha
  · rintro ⟨p, x, q, h1, h2, h3, h4, h5, h6, h7, rfl⟩
    refine ⟨p.length, List.mem_range.2 (by rw [h1]; simp), ?_⟩
    unfold abOf
    have e1 : tl[p.length]? = some x := by rw [h1]; simp
    have e2 : tl.take p.length = p := by rw [h1]; simp
    rw [e1, e2]
    simp only
    rw [if_pos ⟨h2, h3, h4, h5, h6, h7⟩]
    simp
/-- a list that was thinned out, at a place -/
theorem filter_split {f : Bt → Bool} : ∀ {l p q : List Bt} {x : Bt}, l.filter f = p ++ x :: q → ∃ p' q', l = p' ++ x :: q' ∧ p'.filter f = p ∧ q'.filter f = q
  | [], p, q, x, h => by cases p <;> cases h
  | b :: l, p, q, x, h => by
    rw [List.filter_cons] at h
    split at h
    · rename_i hb
      cases p with
      | nil =>
        simp only [List.nil_append, List.cons.injEq] at h
        obtain ⟨rfl, h⟩ := h
        exact ⟨[], l, rfl, rfl, h⟩
      | cons y p =>
        simp only [List.cons_append, List.cons.injEq] at h
        obtain ⟨rfl, h⟩ := h
        obtain ⟨p', q', h1, h2, h3⟩ := filter_split h
        exact ⟨b :: p', q', by rw [h1]; rfl, by rw [List.filter_cons, if_pos hb, h2], h3⟩
    · rename_i hb
      obtain ⟨p', q', h1, h2, h3⟩ := filter_split h
      exact ⟨b :: p', q', by rw [h1]; rfl, by rw [List.filter_cons, if_neg hb, h2], h3⟩
/-- what is aborted is what its first marker says -/
theorem aborted_iff {dl pre post : List Bt} {b : Bt} {lo hi e : Int} (hf : Fine e dl) (he : 0 ≤ e) (hd : dl = pre ++ b :: post) (hc : b.control = false) (ht : b.txn = true) (hlo : lo ≤ b.base) (hhi : b.base < hi) :
    isAborted b (aborts (dl.filter fun b => decide (b.pid > 0)) lo hi) = true ↔ mark b.pid post = some false := by
  have hbF : BtF b := Fine.btF hf b (by rw [hd]; simp)
  have hp0 := hbF.txn ht
  have hp : 0 < b.pid := by have := hbF.pid; omega
  rw [hd] at hf
  obtain ⟨hfp, eb, heb, hfb, hlt⟩ := Fine.app hf
  obtain ⟨hb0, _, hfpost⟩ := hfb
  have hsz := sz_pos hbF
  -- what is open behind b
  have hop : 0 ≤ opF b.pid (opn b.pid pre) b ∧ opF b.pid (opn b.pid pre) b ≤ b.base := by
    have h1 : opF b.pid (opn b.pid pre) b = if opn b.pid pre < 0 then b.base else opn b.pid pre := by
      unfold opF
      rw [if_neg (by rintro (h | h); exact h rfl; exact hp0 h), if_neg (by rw [hc]; decide)]
      by_cases ho : opn b.pid pre < 0
      · rw [if_pos ⟨ht, ho⟩, if_pos ho]
      · rw [if_neg (fun hh => ho hh.2), if_neg ho]
    rw [h1]
    split
    · omega
    · rename_i hn
      refine ⟨by omega, ?_⟩
      rcases fold_open (pid := b.pid) pre (-1) with h | h | ⟨y, hy, h⟩
      · have : opn b.pid pre = -1 := h; omega
      · have : opn b.pid pre = -1 := h; omega
      · have h : opn b.pid pre = y.base := h
        have := hlt y hy; omega
  unfold isAborted
  rw [List.any_eq_true]
  constructor
  · rintro ⟨a, ha, hcond⟩
    simp only [Bool.and_eq_true, decide_eq_true_eq, beq_iff_eq] at hcond
    obtain ⟨⟨⟨_, hap⟩, haf⟩, hal⟩ := hcond
    obtain ⟨p, x, q, h1, h2, h3, h4, h5, h6, h7, rfl⟩ := mem_aborts.1 ha
    simp only at hap haf hal
    obtain ⟨p', q', g1, g2, g3⟩ := filter_split h1
    rw [kn_opn2] at h5 haf
    have e1 : opn x.pid p = opn x.pid p' := by
      rw [← g2]
      unfold opn
      exact fold_filter (by rw [hap]; exact hp) p' (-1)
    rw [e1] at h5 haf
    have hf' : Fine e (pre ++ b :: post) := hf
    rw [← hd] at hf'
    obtain ⟨mid, m1, m2⟩ := split_le hf' hd g1 hal
    rw [hap] at h5 haf
    rw [m1, opn_app, List.foldl_cons] at h5 haf
    have hfm : Fine (eb + sz b) mid := by
      rw [m2] at hfpost
      exact (Fine.app hfpost).1
    rw [m2, mark_app]
    cases hmm : mark b.pid mid with
    | none =>
      simp only
      unfold mark
      rw [if_pos ⟨h2, hap⟩, h3]
    | some c =>
      exfalso
      rcases fold_late (pid := b.pid) hp0 (o := opF b.pid (opn b.pid pre) b) hfm (by omega) (by rw [hmm]; simp) with h | h
      · omega
      · omega
  · intro hm
    obtain ⟨mid, x, q, h1, h2, h3, h4, h5⟩ := mark_some hm
    have hst := fold_stay mid _ hop.1 h2
    have ho2 : opn b.pid (pre ++ b :: mid) = opF b.pid (opn b.pid pre) b := by
      rw [opn_app, List.foldl_cons]; exact hst
    have hxb : b.base < x.base := by
      have := Fine.ge hfpost x (by rw [h1]; simp)
      omega
    have hxp : x.pid > 0 := by omega
    have hfil : (dl.filter fun b => decide (b.pid > 0)) = ((pre ++ b :: mid).filter fun b => decide (b.pid > 0)) ++ x :: (q.filter fun b => decide (b.pid > 0)) := by
      rw [hd, h1]
      rw [show pre ++ b :: (mid ++ x :: q) = (pre ++ b :: mid) ++ x :: q from by simp]
      rw [List.filter_append, List.filter_cons, if_pos (by simpa using hxp)]
    have e1 : opn x.pid ((pre ++ b :: mid).filter fun b => decide (b.pid > 0)) = opn b.pid (pre ++ b :: mid) := by
      rw [h4]
      unfold opn
      exact fold_filter hp _ (-1)
    have hk : (kn x.pid ((pre ++ b :: mid).filter fun b => decide (b.pid > 0))).opn = opF b.pid (opn b.pid pre) b := by rw [kn_opn2, e1, ho2]
    have his : (kn x.pid ((pre ++ b :: mid).filter fun b => decide (b.pid > 0))).is = true := by
      refine kn_opn _ (by omega) ⟨b, ?_, h4.symm⟩
      rw [List.mem_filter]
      exact ⟨by simp, by simpa using hp⟩
    refine ⟨⟨x.pid, (kn x.pid ((pre ++ b :: mid).filter fun b => decide (b.pid > 0))).opn, x.base⟩, mem_aborts.2 ⟨_, x, _, hfil, h3, h5, his, by rw [hk]; exact hop.1, by omega, by rw [hk]; omega, rfl⟩, ?_⟩
    simp only [Bool.and_eq_true, decide_eq_true_eq, beq_iff_eq, hk]
    exact ⟨⟨⟨ht, h4⟩, hop.2⟩, hxb⟩
end Go.Proofs.Ytajhdjjmhfbhgaa

/- Layer 19's law, plain: what is read of an answer. -/
namespace Go.Proofs.Ytajhdjjmhfbhgaa
open Go Go.Pk
/-- what has been read is told -/
def evR (c : Cl) (k : Int) (r : Rc) : Sn := { zSn with kind := 5, client := c.number, op := c.op, part := k, offset := r.off, value := r.val }
def tellR (k : Int) (c : Cl) (rs : List Rc) : Cl := { c with seen := c.seen ++ rs.map (evR c k) }
theorem tellR_nil (k : Int) (c : Cl) : tellR k c [] = c := by unfold tellR; simp
theorem tellR_cons (k : Int) (c : Cl) (r : Rc) (rs : List Rc) : tellR k (tellR k c [r]) rs = tellR k c (r :: rs) := by
  unfold tellR
  simp only [List.map_cons, List.map_nil, List.append_assoc, List.cons_append, List.nil_append]
  rfl
theorem tellR_app (k : Int) (c : Cl) (rs qs : List Rc) : tellR k (tellR k c rs) qs = tellR k c (rs ++ qs) := by
  unfold tellR
  simp only [List.map_append, List.append_assoc]
  rfl
/-- the values of a batch -/
theorem rdVals_spec {o : Oc} {k base : Int} (ho : o.kind = 4) (hb : 0 ≤ base) : ∀ (vs : List (List UInt8)) (i : Nat) (r : Rs), base + (i : Int) + vs.length ≤ 1000000000 → 0 ≤ r.att → 0 ≤ r.c.count → 0 ≤ r.got → r.c.count + r.got ≤ 1000000000 → o.count ≤ 1000000 →
    ∃ vals, rdVals o k base i vs r = ⟨tellR k r.c (((recF base i vs).drop (r.att - (base + i)).toNat).take (o.count - r.c.count - r.got).toNat),
      if ((recF base i vs).drop (r.att - (base + i)).toNat).take (o.count - r.c.count - r.got).toNat = [] then r.att else (if r.att < base + i then base + i else r.att) + (((recF base i vs).drop (r.att - (base + i)).toNat).take (o.count - r.c.count - r.got).toNat).length,
      r.got + (((recF base i vs).drop (r.att - (base + i)).toNat).take (o.count - r.c.count - r.got).toNat).length, vals⟩
  | [], i, r, _, _, _, _, _, _ => by
    refine ⟨r.vals, ?_⟩
    simp only [recF, List.drop_nil, List.take_nil, tellR_nil, if_true, List.length_nil, Int.natCast_zero, Int.add_zero]
    rfl
  | v :: vs, i, r, h1, h2, h3, h4, h5, h6 => by
    simp only [List.length_cons] at h1
    have hw : IntKind.i64.wrap (base + (i : Int)) = base + i := w_i64 (by omega) (by omega)
    have hwc : IntKind.i64.wrap (r.c.count + r.got) = r.c.count + r.got := w_i64 (by omega) (by omega)
    have hi1 : base + ((i + 1 : Nat) : Int) = base + i + 1 := by omega
    by_cases hs : skipV o base i r
    · rw [rdVals_skip hs]
      obtain ⟨vals, e⟩ := rdVals_spec ho hb vs (i + 1) r (by omega) h2 h3 h4 h5 h6
      refine ⟨vals, ?_⟩
      rw [e]
      unfold skipV at hs
      rw [hw, hwc] at hs
      by_cases hlt : base + (i : Int) < r.att
      · have e1 : (r.att - (base + (i : Int))).toNat = (r.att - (base + ((i + 1 : Nat) : Int))).toNat + 1 := by omega
        have e2 : (recF base i (v :: vs)).drop (r.att - (base + (i : Int))).toNat = (recF base (i + 1) vs).drop (r.att - (base + ((i + 1 : Nat) : Int))).toNat := by
          rw [e1]; rfl
        rw [e2]
        have e3 : (if r.att < base + ((i + 1 : Nat) : Int) then base + ((i + 1 : Nat) : Int) else r.att) = (if r.att < base + (i : Int) then base + (i : Int) else r.att) := by
          rw [if_neg (by omega), if_neg (by omega)]
        rw [e3]
      · have hcap : (o.count - r.c.count - r.got).toNat = 0 := by
          rcases hs with hs | hs | hs
          · exact absurd hs hlt
          · omega
          · omega
        rw [hcap]
        simp only [List.take_zero, if_true]
    · rw [rdVals_take hs]
      unfold skipV at hs
      rw [hw, hwc] at hs
      have hge : ¬ base + (i : Int) < r.att := fun h => hs (.inl h)
      have hcap : ¬ r.c.count + r.got ≥ o.count := fun h => hs (.inr (.inr ⟨ho, h⟩))
      have hn1 : nx (IntKind.i64.wrap (base + (i : Int))) = base + i + 1 := by rw [hw]; exact w_i64 (by omega) (by omega)
      have hn2 : nx r.got = r.got + 1 := w_i64 (by omega) (by omega)
      have et : takeV o k base i v r = ⟨tellR k r.c [⟨base + i, str v⟩], base + i + 1, r.got + 1, r.vals ++ [str v]⟩ := by
        unfold takeV
        rw [if_pos ho, hn1, hn2, hw]
        rfl
      rw [et]
      obtain ⟨vals, e⟩ := rdVals_spec (o := o) (k := k) ho hb vs (i + 1) ⟨tellR k r.c [⟨base + i, str v⟩], base + i + 1, r.got + 1, r.vals ++ [str v]⟩ (by omega) (by simp only; omega) h3 (by simp only; omega) (by show r.c.count + (r.got + 1) ≤ _; omega) h6
      refine ⟨vals, ?_⟩
      rw [e]
      simp only
      have e1 : (base + (i : Int) + 1 - (base + ((i + 1 : Nat) : Int))).toNat = 0 := by omega
      have e2 : (r.att - (base + (i : Int))).toNat = 0 := by omega
      have e3 : (o.count - (tellR k r.c [⟨base + i, str v⟩]).count - (r.got + 1)).toNat = (o.count - r.c.count - r.got).toNat - 1 := by
        show (o.count - r.c.count - (r.got + 1)).toNat = _
        omega
      obtain ⟨j, hj⟩ : ∃ j, (o.count - r.c.count - r.got).toNat = j + 1 := ⟨(o.count - r.c.count - r.got).toNat - 1, by omega⟩
      rw [e1, e2, e3, hj, List.drop_zero, List.drop_zero, Nat.add_sub_cancel, tellR_cons]
      have er : recF base i (v :: vs) = ⟨base + (i : Int), str v⟩ :: recF base (i + 1) vs := by
        show (⟨IntKind.i64.wrap (base + (i : Int)), str v⟩ : Rc) :: _ = _
        rw [hw]
      rw [er, List.take_succ_cons]
      congr 1
      · rw [if_neg (List.cons_ne_nil _ _), List.length_cons]
        split
        · rename_i hnil
          rw [hnil]
          simp only [List.length_nil]
          split <;> omega
        · rw [if_neg (by omega)]
          split <;> omega
      · rw [List.length_cons]; omega
/-- where a consumer stands in a log -/
def Pos (att : Int) (R : List Bt) : Prop := match R with
  | [] => True
  | b :: _ => b.base ≤ att ∧ att < b.base + sz b
/-- what is left to be read -/
def rem (st att : Int) (R : List Bt) : List Rc := match R with
  | [] => []
  | b :: R' => (if okL st b R' then (recB b).drop (att - b.base).toNat else []) ++ allR st R'
theorem Pos.start {e : Int} {R : List Bt} (h : Fine e R) : Pos e R := by
  cases R with
  | nil => trivial
  | cons b R =>
    obtain ⟨h1, h2, _⟩ := h
    have := sz_pos h2
    exact ⟨by omega, by omega⟩
theorem rem_start {st e : Int} {R : List Bt} (h : Fine e R) : rem st e R = allR st R := by
  cases R with
  | nil => rfl
  | cons b R =>
    obtain ⟨h1, _, _⟩ := h
    show (if okL st b R = true then (recB b).drop (e - b.base).toNat else []) ++ allR st R = _
    rw [h1, Int.sub_self]
    rfl
theorem take_min {α : Type} (c : Nat) (D : List α) : D.take (min c D.length) = D.take c := by
  rcases Nat.le_total c D.length with h | h
  · rw [Nat.min_eq_left h]
  · rw [Nat.min_eq_right h, List.take_of_length_le (Nat.le_refl _), List.take_of_length_le h]
theorem recB_len (b : Bt) : (recB b).length = b.bs.length := recF_len _ _
/-- so many batches are read -/
theorem rdAll_spec {o : Oc} {k st : Int} {al : List Ao} (ho : o.kind = 4) (hoc : o.count ≤ 1000000) : ∀ (m : Nat) (R : List Bt) (e : Int) (r : Rs), Fine e R → 0 ≤ e → (∀ b ∈ R, b.base + sz b ≤ 1000000) → Pos r.att R → e ≤ r.att → 0 ≤ r.att → 0 ≤ r.c.count → 0 ≤ r.got → r.c.count + r.got ≤ 1000000 →
    (∀ u b v, R = u ++ b :: v → u.length < m → okL st b v = (!b.control && !isAborted b al)) →
    ∃ (told : List Rc) (R2 u2 : List Bt) (e2 : Int) (r2 : Rs), rdAll o k al (R.take m) r = r2 ∧ r2.c = tellR k r.c told ∧ r2.got = r.got + told.length ∧ R = u2 ++ R2 ∧ Fine e2 R2 ∧ 0 ≤ e2 ∧ Pos r2.att R2 ∧ told ++ rem st r2.att R2 = rem st r.att R ∧ told.length ≤ (o.count - r.c.count - r.got).toNat ∧ r.att ≤ r2.att ∧
      (told.length = (o.count - r.c.count - r.got).toNat ∨ R2 = R.drop m) ∧ (1 ≤ m → R ≠ [] → r.c.count + r.got < o.count → r.att < r2.att) ∧ e ≤ e2 ∧ e2 ≤ r2.att ∧ ∀ b ∈ u2, b.base + sz b ≤ e2
  | 0, R, e, r, hf, he, _, hp, hea, _, _, _, _, _ => ⟨[], R, [], e, r, rfl, (tellR_nil _ _).symm, by simp, rfl, hf, he, hp, rfl, Nat.zero_le _, Int.le_refl _, .inr rfl, (fun h => by omega), Int.le_refl _, hea, by simp⟩
  | m + 1, [], e, r, hf, he, _, hp, hea, _, _, _, _, _ => ⟨[], [], [], e, r, rfl, (tellR_nil _ _).symm, by simp, rfl, hf, he, hp, rfl, Nat.zero_le _, Int.le_refl _, .inr rfl, (fun _ h => absurd rfl h), Int.le_refl _, hea, by simp⟩
  | m + 1, b :: R, e, r, hf, he, hbnd, hp, hea, ha, hc, hg, hcg, hok => by
    obtain ⟨hb0, hbF, hfR⟩ := hf
    obtain ⟨hp1, hp2⟩ := hp
    have hsz := sz_pos hbF
    have hbb := hbnd b (by simp)
    have hokb := hok [] b R rfl (by simp)
    have hokR : ∀ u c v, R = u ++ c :: v → u.length < m → okL st c v = (!c.control && !isAborted c al) := fun u c v h1 h2 => hok (b :: u) c v (by rw [h1]; rfl) (by simpa using h2)
    show ∃ told R2 u2 e2 r2, rdAll o k al (b :: R.take m) r = r2 ∧ _
    by_cases hs : b.control = true ∨ isAborted b al = true
    · -- it is passed over
      have hf0 : okL st b R = false := by
        rw [hokb]
        rcases hs with hs | hs
        · rw [hs]; rfl
        · rw [hs]; simp
      have hpass : passed b r.att = b.base + sz b := by
        unfold passed
        have : (if 1 > (b.bs.length : Int) then 1 else (b.bs.length : Int)) = sz b := by
          unfold sz
          cases hcc : b.control with
          | true => rw [(hbF.ctl hcc).1]; rfl
          | false =>
            have := hbF.dat hcc
            rw [if_neg (by omega)]; rfl
        rw [this]
        simp only
        rw [w_i64 (by omega) (by omega), if_pos (by omega)]
      rw [rdAll_pass hs, hpass]
      obtain ⟨told, R2, u2, e2, r2, h1, h2, h3, h4, h5, h6, h7, h8, h9, h10, h11, h12, h13, h14, h15⟩ := rdAll_spec (al := al) (k := k) (st := st) ho hoc m R (e + sz b) { r with att := b.base + sz b } hfR (by omega) (fun c hc => hbnd c (by simp [hc])) (by rw [hb0]; exact Pos.start hfR) (by show e + sz b ≤ b.base + sz b; omega) (by show 0 ≤ b.base + sz b; omega) hc hg hcg hokR
      refine ⟨told, R2, b :: u2, e2, r2, h1, h2, h3, by rw [h4]; rfl, h5, h6, h7, ?_, h9, ?_, h11, fun _ _ _ => ?_, by omega, h14, fun c hc => ?_⟩
      · rw [h8]
        show rem st (b.base + sz b) R = (if okL st b R then _ else []) ++ allR st R
        rw [hf0, hb0, rem_start hfR]; rfl
      · have : b.base + sz b ≤ r2.att := h10
        omega
      · have : b.base + sz b ≤ r2.att := h10
        omega
      · rcases List.mem_cons.1 hc with rfl | hc
        · omega
        · exact h15 c hc
    · have hcc : b.control = false := by cases h : b.control with | false => rfl | true => exact absurd (.inl h) hs
      have hab : isAborted b al = false := by cases h : isAborted b al with | false => rfl | true => exact absurd (.inr h) hs
      have hf1 : okL st b R = true := by rw [hokb, hcc, hab]; rfl
      have hszl : sz b = b.bs.length := by unfold sz; rw [hcc]; rfl
      obtain ⟨vals, hv⟩ := rdVals_spec (o := o) (k := k) ho (base := b.base) (by omega) b.bs 0 r (by omega) ha hc hg (by omega) hoc
      have hz : b.base + ((0 : Nat) : Int) = b.base := by omega
      rw [hz] at hv
      rw [if_neg (show ¬ r.att < b.base from by omega)] at hv
      have hrec : recF b.base 0 b.bs = recB b := rfl
      rw [hrec] at hv
      have hdl : ((recB b).drop (r.att - b.base).toNat).length = (b.base + sz b - r.att).toNat := by rw [List.length_drop, recB_len]; omega
      generalize hT : ((recB b).drop (r.att - b.base).toNat).take (o.count - r.c.count - r.got).toNat = T at hv
      have hTl : T.length = min (o.count - r.c.count - r.got).toNat (b.base + sz b - r.att).toNat := by rw [← hT, List.length_take, hdl]
      have hatt : (if T = [] then r.att else r.att + (T.length : Int)) = r.att + T.length := by
        split
        · rename_i hn; rw [hn]; simp
        · rfl
      rw [hatt] at hv
      have hTd : (recB b).drop (r.att - b.base).toNat = T ++ (recB b).drop (r.att + (T.length : Int) - b.base).toNat := by
        conv => lhs; rw [← List.take_append_drop T.length ((recB b).drop (r.att - b.base).toNat)]
        rw [List.drop_drop]
        congr 1
        · rw [← hT, List.length_take]
          exact take_min _ _
        · congr 1; omega
      have hremb : rem st r.att (b :: R) = (recB b).drop (r.att - b.base).toNat ++ allR st R := by
        show (if okL st b R = true then (recB b).drop (r.att - b.base).toNat else []) ++ allR st R = _
        rw [if_pos hf1]
      have hwl : IntKind.i64.wrap (b.base + (b.bs.length : Int)) = b.base + sz b := by rw [hszl]; exact w_i64 (by omega) (by omega)
      by_cases hstop : r.att + (T.length : Int) < b.base + sz b
      · -- enough was read
        refine ⟨T, b :: R, [], e, ⟨tellR k r.c T, r.att + T.length, r.got + T.length, vals⟩, rdAll_stop hs hv (by rw [hwl]; exact hstop), rfl, rfl, rfl, ⟨hb0, hbF, hfR⟩, he, ⟨by show b.base ≤ r.att + (T.length : Int); omega, hstop⟩, ?_, by omega, by show r.att ≤ r.att + (T.length : Int); omega, .inl (by omega), (fun _ _ hlt => by show r.att < r.att + (T.length : Int); omega), Int.le_refl _, by show e ≤ r.att + (T.length : Int); omega, by simp⟩
        rw [hremb, hTd, List.append_assoc]
        show T ++ ((if okL st b R then (recB b).drop (r.att + (T.length : Int) - b.base).toNat else []) ++ allR st R) = _
        rw [if_pos hf1]
      · rw [rdAll_go hs hv (by rw [hwl]; exact hstop)]
        have hatt2 : r.att + (T.length : Int) = b.base + sz b := by omega
        obtain ⟨told, R2, u2, e2, r2, h1, h2, h3, h4, h5, h6, h7, h8, h9, h10, h11, h12, h13, h14, h15⟩ := rdAll_spec (al := al) (k := k) (st := st) ho hoc m R (e + sz b) ⟨tellR k r.c T, r.att + T.length, r.got + T.length, vals⟩ hfR (by omega) (fun c hc => hbnd c (by simp [hc])) (by simp only; rw [hatt2, hb0]; exact Pos.start hfR) (by simp only; omega) (by simp only; omega) hc (by simp only; omega) (by show r.c.count + (r.got + T.length) ≤ _; omega) hokR
        have h9 : told.length ≤ (o.count - r.c.count - (r.got + T.length)).toNat := h9
        have h3 : r2.got = r.got + T.length + told.length := h3
        have h10 : r.att + (T.length : Int) ≤ r2.att := h10
        have hdb : (recB b).drop (b.base + sz b - b.base).toNat = [] := List.drop_of_length_le (by rw [recB_len]; omega)
        refine ⟨T ++ told, R2, b :: u2, e2, r2, h1, ?_, by rw [h3, List.length_append]; omega, by rw [h4]; rfl, h5, h6, h7, ?_, by rw [List.length_append]; omega, by omega, ?_, (fun _ _ _ => by omega), by omega, h14, ?_⟩
        · rw [h2]; exact tellR_app k r.c T told
        · rw [List.append_assoc, h8, hremb, hTd]
          simp only
          rw [hatt2, hb0, rem_start hfR, ← hb0, hdb, List.append_nil]
        · rcases h11 with h11 | h11
          · left
            have h11 : told.length = (o.count - r.c.count - (r.got + T.length)).toNat := h11
            rw [List.length_append]; omega
          · right; exact h11
        · intro c hc
          rcases List.mem_cons.1 hc with rfl | hc
          · omega
          · exact h15 c hc
end Go.Proofs.Ytajhdjjmhfbhgaa

/- Layer 19's law, plain: a consumer alone goes through a log. -/
namespace Go.Proofs.Ytajhdjjmhfbhgaa
open Go Go.Pk
/-- what was read, as a trace tells it -/
def reads (l : List Sn) : List Rc := (l.filter fun s => s.kind == 5).map fun s => ⟨s.offset, s.value⟩
theorem reads_app (l m : List Sn) : reads (l ++ m) = reads l ++ reads m := by unfold reads; rw [List.filter_append, List.map_append]
theorem reads_evR (c : Cl) (k : Int) : ∀ rs : List Rc, reads (rs.map (evR c k)) = rs
  | [] => rfl
  | r :: rs => by
    show reads ([evR c k r] ++ rs.map (evR c k)) = _
    rw [reads_app, reads_evR c k rs]; rfl
/-- how much has been asked for behind so many polls -/
def wantF (N : Nat) : List Oc → Nat → Nat
  | [], w => w
  | o :: l, w => wantF N l (min (w + o.count.toNat) N)
theorem wantF_snoc {N : Nat} : ∀ (l : List Oc) (o : Oc) (w : Nat), wantF N (l ++ [o]) w = min (wantF N l w + o.count.toNat) N
  | [], o, w => rfl
  | p :: l, o, w => by simp only [List.cons_append, wantF]; exact wantF_snoc l o _
theorem wantF_le {N : Nat} : ∀ (l : List Oc) (w : Nat), w ≤ N → wantF N l w ≤ N
  | [], w, h => h
  | p :: l, w, h => wantF_le l _ (Nat.min_le_right _ _)
/-- a log, up to where it is stable, and a program of polls -/
structure Log (D : List Bt) (st : Int) (ol : List Oc) : Prop where
  fine : Fine 0 D
  len : D.length ≤ 200
  bnd : ∀ b ∈ D, b.base + sz b ≤ 10000
  cut : ∀ b ∈ D, b.base + sz b > st → st ≤ b.base
  ops : ∀ o ∈ ol, o.kind = 4 ∧ 0 ≤ o.count ∧ o.count ≤ 16
  oln : ol.length ≤ 64
/-- a consumer that knows where it stands -/
structure Core (D : List Bt) (st : Int) (ol : List Oc) (c : Cl) (a s : Int) (R : List Bt) : Prop where
  ops : c.ops = ol
  parts : c.parts = 1
  done : c.done = false
  inc : c.inc = 0
  opn : c.opn = -1
  joined : c.joined = true
  gen : c.gen = 1
  mine : c.mine = [0]
  att : c.att = [a]
  sure : c.sure = [s]
  lo : 0 ≤ s ∧ s ≤ a
  suf : ∃ u e, D = u ++ R ∧ Fine e R ∧ 0 ≤ e ∧ e ≤ a ∧ ∀ b ∈ u, b.base + sz b ≤ e
  pos : Pos a R
  rds : reads c.seen ++ rem st a R = allR st D
  op : 0 ≤ c.op ∧ c.op ≤ ol.length
  cnt : 0 ≤ c.count ∧ c.count ≤ 16
  cn2 : ∀ o, ol[c.op.toNat]? = some o → c.count ≤ o.count
  cn3 : c.op = ol.length → c.count = 0
  want : (reads c.seen).length = wantF (allR st D).length (ol.take c.op.toNat) 0 + c.count.toNat
  step : c.step = 0 ∨ c.step = 1
  dry : c.dry = 0 ∨ c.dry = 1
  dr1 : c.dry = 1 → rem st a R = []
  st1 : c.step = 1 → rem st a R = [] ∨ ∃ o, ol[c.op.toNat]? = some o ∧ c.count = o.count
/-- no more is to be read for this operation -/
def finR (ol : List Oc) (c : Cl) : Bool := match ol[c.op.toNat]? with
  | none => false
  | some o => !(decide (c.step = 0) && decide (c.count < o.count) && decide (c.dry < 1))
def pot (ol : List Oc) (c : Cl) (a s : Int) (R : List Bt) : Nat := 5 * (ol.length - c.op.toNat) + 2 * R.length + (if finR ol c then (if a > s then 2 else 0) else 4)
section
variable {D R : List Bt} {st a s : Int} {ol : List Oc} {c : Cl} {m : Rp}
/-- it is idle; with how much to do -/
def Idle (D : List Bt) (st : Int) (ol : List Oc) (c : Cl) (s : Int) (n : Nat) : Prop := c.waits = false ∧ c.out = none ∧ ∃ a R, Core D st ol c a s R ∧ pot ol c a s R ≤ n
/-- it waits for what it may read -/
def AskR (D : List Bt) (st : Int) (ol : List Oc) (c : Cl) (s : Int) (n : Nat) : Prop := c.waits = true ∧ ∃ a R, Core D st ol c a s R ∧ c.asked.kind = 6 ∧ c.asked.part = 0 ∧ c.asked.offset = a ∧ c.asked.inc = 0 ∧ finR ol c = false ∧ c.op < ol.length ∧ 5 * (ol.length - c.op.toNat) + 2 * R.length + 3 ≤ n
/-- it waits for its place to be noted -/
def AskC (D : List Bt) (st : Int) (ol : List Oc) (c : Cl) (s : Int) (n : Nat) : Prop := c.waits = true ∧ ∃ a R, Core D st ol c a s R ∧ c.asked.kind = 12 ∧ c.asked.part = 0 ∧ c.asked.offset = a ∧ c.asked.gen = 1 ∧ c.asked.inc = 0 ∧ a > s ∧ c.step = 1 ∧ c.op < ol.length ∧ 5 * (ol.length - c.op.toNat) + 2 * R.length + 1 ≤ n
/-- all is done -/
def Over (D : List Bt) (st : Int) (ol : List Oc) (c : Cl) : Prop := c.done = true ∧ c.waits = false ∧ c.out = none ∧ (∃ rest, reads c.seen ++ rest = allR st D) ∧ (reads c.seen).length = wantF (allR st D).length ol 0
def Stg (D : List Bt) (st : Int) (ol : List Oc) (c : Cl) (s : Int) (n : Nat) : Prop := Idle D st ol c s n ∨ AskR D st ol c s n ∨ AskC D st ol c s n ∨ Over D st ol c
theorem op_get (hl : Log D st ol) {o : Oc} {i : Nat} (h : ol[i]? = some o) : o.kind = 4 ∧ 0 ≤ o.count ∧ o.count ≤ 16 := hl.ops o (List.mem_of_getElem? h)
theorem settle_in (q : Core D st ol c a s R) : c.settle c.mine = (c, true) := by
  unfold Cl.settle
  rw [if_neg (by rw [q.joined]; decide), q.mine]
  have h : geti c.att 0 = a := by rw [q.att]; rfl
  have hl := q.lo
  have : ([0] : List Int).find? (fun k => decide (geti c.att k < 0)) = none := by
    rw [List.find?_cons, h, decide_eq_false (by omega)]; rfl
  rw [this]
theorem decide_poll {o : Oc} (q : Core D st ol c a s R) (h : ol[c.op.toNat]? = some o) (hk : o.kind = 4) : c.decide = c.poll o := by
  unfold Cl.decide
  rw [if_neg (by rw [q.done]; decide), if_neg (by rw [q.opn]; rintro ⟨h, _⟩; omega), q.ops, h]
  show c.deed o = _
  unfold Cl.deed
  rw [if_neg (by omega), if_neg (by omega), if_neg (by omega), if_pos hk]
/-- it decides -/
theorem idle_decide (hl : Log D st ol) (n : Nat) (h : Idle D st ol c s (n + 1)) : Stg D st ol c.decide s n := by
  obtain ⟨hw, hout, a, R, q, hpot⟩ := h
  have q0 := q.op
  have qlo := q.lo
  cases ho : ol[c.op.toNat]? with
  | none =>
    have hop : c.op = ol.length := by
      rcases Nat.lt_or_ge c.op.toNat ol.length with hh | hh
      · rw [List.getElem?_eq_getElem hh] at ho; cases ho
      · omega
    have e : c.decide = c.finished := by
      unfold Cl.decide
      rw [if_neg (by rw [q.done]; decide), if_neg (by rw [q.opn]; rintro ⟨h, _⟩; omega), q.ops, ho]
    rw [e]
    refine .inr (.inr (.inr ⟨rfl, hw, hout, ?_, ?_⟩))
    · refine ⟨rem st a R, ?_⟩
      show reads (c.seen ++ [_]) ++ _ = _
      rw [reads_app]
      show (reads c.seen ++ []) ++ _ = _
      rw [List.append_nil]; exact q.rds
    · show (reads (c.seen ++ [_])).length = _
      rw [reads_app]
      show (reads c.seen ++ []).length = _
      rw [List.append_nil, q.want, q.cn3 hop, hop, Int.toNat_natCast, List.take_of_length_le (Nat.le_refl _)]; rfl
  | some o =>
    obtain ⟨hk, hc0, hc16⟩ := op_get hl ho
    have hop : c.op.toNat < ol.length := (List.getElem?_eq_some_iff.1 ho).1
    rw [decide_poll q ho hk]
    have hse := settle_in q
    have hfin : finR ol c = !(decide (c.step = 0) && decide (c.count < o.count) && decide (c.dry < 1)) := by unfold finR; rw [ho]
    have hga : geti c.att 0 = a := by rw [q.att]; rfl
    have hgs : geti c.sure 0 = s := by rw [q.sure]; rfl
    have hml : c.mine.length = 1 := by rw [q.mine]; rfl
    by_cases hr : pollRd c o
    · -- a read
      have hft : finR ol c = false := by
        rw [hfin]
        obtain ⟨r1, r2, r3⟩ := hr
        rw [hml] at r3
        simp [r1, r2]
        omega
      rw [poll_read hse hr]
      have ht : geti c.mine (c.turn.tmod c.mine.length) = 0 := by
        rw [q.mine]
        show geti [0] (c.turn.tmod 1) = 0
        rw [Int.tmod_one]; rfl
      rw [ht, hga]
      unfold pot at hpot
      rw [hft] at hpot
      refine .inr (.inl ⟨rfl, a, R, ⟨q.ops, q.parts, q.done, q.inc, q.opn, q.joined, q.gen, q.mine, q.att, q.sure, q.lo, q.suf, q.pos, q.rds, q.op, q.cnt, q.cn2, q.cn3, q.want, q.step, q.dry, q.dr1, q.st1⟩, rfl, rfl, rfl, q.inc, hft, by show c.op < _; omega, ?_⟩)
      show 5 * (ol.length - c.op.toNat) + 2 * R.length + 3 ≤ n
      simp only [Bool.false_eq_true, if_false] at hpot
      omega
    · have hft : finR ol c = true := by
        rw [hfin]
        unfold pollRd at hr
        rw [hml] at hr
        cases h1 : (decide (c.step = 0) && decide (c.count < o.count) && decide (c.dry < 1)) with
        | false => rfl
        | true =>
          simp only [Bool.and_eq_true, decide_eq_true_eq] at h1
          exact absurd ⟨h1.1.1, h1.1.2, by have := h1.2; omega⟩ hr
      have hfull : rem st a R = [] ∨ c.count = o.count := by
        rcases q.step with h1 | h1
        · rcases q.dry with h2 | h2
          · right
            have := q.cn2 o ho
            have : ¬ c.count < o.count := fun hh => hr ⟨h1, hh, by rw [hml, h2]; decide⟩
            omega
          · exact .inl (q.dr1 h2)
        · rcases q.st1 h1 with h3 | ⟨o', h3, h4⟩
          · exact .inl h3
          · rw [ho] at h3
            cases h3
            exact .inr h4
      unfold pot at hpot
      rw [hft] at hpot
      simp only [if_true] at hpot
      rw [poll_rest hse hr]
      by_cases has : a > s
      · -- its place is told
        have hfd : c.mine.find? (fun k => decide (geti c.att k > geti c.sure k)) = some 0 := by
          rw [q.mine, List.find?_cons, hga, hgs, decide_eq_true has]
        rw [hfd]
        simp only
        rw [if_pos has] at hpot
        refine .inr (.inr (.inl ?_))
        have e1 : (if c.step = 0 then ({ c with step := 1 } : Cl) else c) = { c with step := 1 } := by
          rcases q.step with h1 | h1
          · rw [if_pos h1]
          · rw [if_neg (by omega), ← h1]
        rw [e1, hga]
        refine ⟨rfl, a, R, ⟨q.ops, q.parts, q.done, q.inc, q.opn, q.joined, q.gen, q.mine, q.att, q.sure, q.lo, q.suf, q.pos, q.rds, q.op, q.cnt, q.cn2, q.cn3, q.want, .inr rfl, q.dry, q.dr1, fun _ => ?_⟩, rfl, rfl, rfl, q.gen, q.inc, has, rfl, by show c.op < _; omega, ?_⟩
        · rcases hfull with h1 | h1
          · exact .inl h1
          · exact .inr ⟨o, ho, h1⟩
        · show 5 * (ol.length - c.op.toNat) + 2 * R.length + 1 ≤ n
          omega
      · -- the next operation
        have hfd : c.mine.find? (fun k => decide (geti c.att k > geti c.sure k)) = none := by
          rw [q.mine, List.find?_cons, hga, hgs, decide_eq_false has]; rfl
        rw [hfd]
        simp only
        rw [if_neg has] at hpot
        have hop1 : nx c.op = c.op + 1 := w_i64 (by have := hl.oln; omega) (by have := hl.oln; omega)
        have hln := hl.oln
        have hwant2 : (reads c.seen).length = wantF (allR st D).length (ol.take (c.op + 1).toNat) 0 := by
          have e2 : ol.take (c.op + 1).toNat = ol.take c.op.toNat ++ [o] := by
            rw [show (c.op + 1).toNat = c.op.toNat + 1 from by omega, List.take_add_one, ho]; rfl
          rw [e2, wantF_snoc]
          have hw1 := q.want
          have hle : (reads c.seen).length ≤ (allR st D).length := by rw [← q.rds, List.length_append]; omega
          have hc2 := q.cn2 o ho
          have hc1 := q.cnt
          rcases hfull with h1 | h1
          · have : (reads c.seen).length = (allR st D).length := by rw [← q.rds, h1, List.append_nil]
            omega
          · rw [h1] at hw1
            omega
        refine .inl ⟨hw, hout, a, R, ⟨q.ops, q.parts, q.done, q.inc, q.opn, q.joined, q.gen, q.mine, q.att, q.sure, q.lo, q.suf, q.pos, q.rds, ⟨by show 0 ≤ nx c.op; rw [hop1]; omega, by show nx c.op ≤ _; rw [hop1]; omega⟩, ⟨Int.le_refl _, by show (0 : Int) ≤ 16; decide⟩, ?_, fun _ => rfl, ?_, .inl rfl, .inl rfl, (fun h => by cases h), (fun h => by cases h)⟩, ?_⟩
        · intro o' ho'
          exact (op_get hl ho').2.1
        · rw [hop1]
          exact hwant2
        · unfold pot
          show 5 * (ol.length - (nx c.op).toNat) + 2 * R.length + _ ≤ n
          rw [hop1]
          have key : ∀ f : Bool, (if f = true then (if a > s then 2 else 0) else 4 : Nat) ≤ 4 := by
            intro f
            cases f with
            | true => rw [if_pos rfl]; split <;> omega
            | false => rw [if_neg (by decide)]; exact Nat.le_refl _
          refine Nat.le_trans (Nat.add_le_add_left (key _) _) ?_
          omega
end
end Go.Proofs.Ytajhdjjmhfbhgaa
