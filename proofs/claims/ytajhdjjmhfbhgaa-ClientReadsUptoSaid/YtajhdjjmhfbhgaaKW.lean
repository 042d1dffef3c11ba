/- Layer 19: which batches are passed over. -/
import Derived.Test.YtajhdjjmhfbhgaaKV
import Derived.Test.YtajhdjjmhfbhgaaFKd
namespace Go.Proofs.Ytajhdjjmhfbhgaa
open Go Go.Pk
theorem et_aborts : ET P T_sl_api_Abort T_api_Abort 3 24 := ET.of (by kernel_rfl)
theorem et_batches : ET P T_sl_api_Batch T_api_Batch 9 72 := ET.of (by kernel_rfl)
def Ao.cells (a : Ao) : List Value := [.int .u64 a.pid, .int .i64 a.first, .int .i64 a.last]
def elA : El Ao := ⟨T_api_Abort, 3, Ao.cells, fun _ => Pure True, fun _ => rfl, fun _ u hu => by
  simp only [Ao.cells, List.mem_cons, List.not_mem_nil, or_false] at hu
  rcases hu with rfl | rfl | rfl <;> rfl⟩
def Bt.cells (a : Bt) : List Value := [.int .i64 a.base, .int .i64 a.ep, .int .u64 a.pid, .int .i64 a.pe, .int .i64 a.seq, .bool a.txn, .bool a.control, .bool a.commit, a.vs.v]
def elB : El Bt := ⟨T_api_Batch, 9, Bt.cells, fun _ => Pure True, fun _ => rfl, fun _ u hu => by
  simp only [Bt.cells, List.mem_cons, List.not_mem_nil, or_false] at hu
  rcases hu with rfl | rfl | rfl | rfl | rfl | rfl | rfl | rfl | rfl <;> rfl⟩
def inAb (b : Bt) (a : Ao) : Bool := b.txn && a.pid == b.pid && decide (a.first ≤ b.base) && decide (b.base < a.last)
section
variable {W w : World} {l : List Res} {K : Value → World → Prop} {g : Nat} {d : Bt} {a : Ao}
theorem dynFn2 {f : Nat} {v : Value} {args args' : Array Value} {K : Value → World → Prop} (hr : ∀ w, (Pk.callV v args).run P w = .ok (.enter f args') w) (h : CallP P f args'.toList w K) : DynP P (Pk.callV v args) w K := ⟨f, args', w, hr w, h⟩
theorem inAb_ok (h : Sat W w (Blk g d.cells T_api_Batch :: l)) (hK : ∀ w', Sat W w' (Blk g d.cells T_api_Batch :: l) → K (.bool (inAb d a)) w') : CallP P F_client_aborted_1 [.agg a.cells.toArray, .pointer (some ⟨g, 0, none⟩)] w K := by
  apply c_client_aborted_1
  unfold S_client_aborted_1
  refine boxB h fun g2 w2 h2 => ?_
  have h2 : Sat W w2 (Blk g2 a.cells T_api_Abort :: Blk g d.cells T_api_Batch :: l) := h2
  have h3 := h2.swap
  have fin := hK w2 h2.tail
  unfold inAb at fin
  refine ldB h3 (o := 0) (i := 5) (k := .bool) (x := d.txn) ?_
  cases ht : d.txn with
  | false => rw [ht] at fin; exact fin
  | true =>
    rw [ht] at fin
    simp only [Bool.true_and] at fin
    simp only [ifB_true]
    refine ldB h2 (o := 0) (i := 0) (k := .int .u64) (x := a.pid) ?_
    refine ldB h3 (o := 0) (i := 2) (k := .int .u64) (x := d.pid) ?_
    refine ifB_beq (fun e => ?_) fun e => ?_
    · rw [show (a.pid == d.pid) = true from by simpa using e] at fin
      simp only [Bool.true_and] at fin
      refine ldB h2 (o := 0) (i := 1) (x := a.first) ?_
      refine ldB h3 (o := 0) (i := 0) (x := d.base) ?_
      refine ifB_dec (fun e2 => ?_) fun e2 => ?_
      · rw [decide_eq_true e2] at fin
        refine ldB h3 (o := 0) (i := 0) (x := d.base) ?_
        refine ldB h2 (o := 0) (i := 2) (x := a.last) ?_
        exact fin
      · rw [decide_eq_false e2] at fin
        exact fin
    · rw [show (a.pid == d.pid) = false from by simpa using e] at fin
      exact fin
theorem aborted_ok {x : Sl} {al : List Ao} (h : Sat W w l) (hr : Rd W l x 3 (elA.flat al)) (hn : al.length < 9223372036854775807) (hK : ∀ w', Sat W w' l → K (.bool (isAborted d al)) w') : CallP P F_client_aborted [.agg d.cells.toArray, x.v] w K := by
  apply c_client_aborted
  unfold S_client_aborted
  refine boxB h fun g w2 h2 => ?_
  have h2 : Sat W w2 (Blk g d.cells T_api_Batch :: l) := h2
  apply c_slices_ContainsFunc_api_Abort_api_Abort
  unfold S_slices_ContainsFunc_api_Abort_api_Abort
  apply c_slices_IndexFunc_api_Abort_api_Abort
  unfold S_slices_IndexFunc_api_Abort_api_Abort
  have hl : x.len = al.length := RdC.elen (E := elA) (hr w h) (by decide)
  refine ⟨fun z w' => ∃ i : Nat, z.1 = i ∧ i ≤ al.length ∧ (∀ a ∈ al.take i, inAb d a = false) ∧ Sat W w' (Blk g d.cells T_api_Batch :: l), fun z _ => al.length - z.1.toNat, ⟨0, rfl, Nat.zero_le _, (by intro a ha; simp at ha), h2⟩, ?_⟩
  rintro ⟨i', u⟩ w3 ⟨i, hi, hil, hv, h3⟩
  simp only at hi ⊢
  subst hi
  refine ifB_dec (fun hlt => ?_) fun hge => ?_
  · have hi1 : i < al.length := by omega
    have hx : al[((i : Nat) : Int).toNat]? = some al[i] := by simp [hi1]
    refine ixEl (E := elA) et_aborts rfl (hr w3 h3.tail) (by omega) hx (by omega) fun ad ha => ?_
    refine ldAggC (cs := al[i].cells) ha ?_
    refine dynFn2 (f := F_client_aborted_1) (args' := #[.agg al[i].cells.toArray, .pointer (some ⟨g, 0, none⟩)]) (fun w => by kernel_rfl) ?_
    refine inAb_ok (a := al[i]) h3 fun w4 h4 => tyI ?_
    refine ifB_intro (fun ht => ?_) fun hf => ?_
    · refine tyI (tyI ?_)
      have e : isAborted d al = true := List.any_eq_true.2 ⟨al[i], List.getElem_mem hi1, ht⟩
      rw [show decide ((i : Int) ≥ 0) = isAborted d al from by rw [e]; exact decide_eq_true (by omega)]
      exact hK w4 h4.tail
    · rw [w_i64 (by omega) (by omega)]
      exact ⟨⟨i + 1, rfl, by omega, all_take hi1 hv hf, h4⟩, by omega⟩
  · refine tyI (tyI ?_)
    have e : isAborted d al = false := any_take (f := inAb d) (by omega) hv
    rw [show decide ((-1 : Int) ≥ 0) = isAborted d al from by rw [e]; rfl]
    exact hK w3 h3.tail
end
end Go.Proofs.Ytajhdjjmhfbhgaa
