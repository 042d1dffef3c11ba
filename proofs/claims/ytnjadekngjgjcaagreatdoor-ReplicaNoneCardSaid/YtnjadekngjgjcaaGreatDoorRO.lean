/- Texts of mine, put together: RA, RA2, RT. -/
import Derived.Test.YtnjadekngjgjcaaGreatDoorE2
import Derived.Test.YtnjadekngjgjcaaGreatDoorRows
import Derived.ProofKit
import Derived.OpenShut
import Derived.ShutString
import Derived.ChangeOld
import Derived.Below
import Derived.JoinedCond
/- The rows' common facts. -/
namespace Go.Pk
open Go Go.RowKit Go.ChangeShapes Go.WideShapes Go.ChangeAt
theorem Sat.below {W w : World} {l : List Res} (h : Sat W w (Old W :: l)) : Below W.heap.size W w := ⟨h.os, h.tape, h.output, h.size, fun k hk => Sat.block_old h k hk⟩
theorem calls_true {P : Program} {f : FuncId} {args : List Value} {W : World} (h : CallP P f args W fun v w => v = .bool true ∧ Sat W w [Old W]) :
    Calls P f args.toArray W fun e w => e = .returned (.bool true) ∧ Below W.heap.size W w := by
  refine Calls.mono h fun e w' he => ?_
  obtain ⟨v, rfl, rfl, hs⟩ := he
  exact ⟨rfl, Sat.below hs⟩
theorem wf_i64 {a : Int} (h : (Lit.int .i64 a).wf = true) : -9223372036854775808 ≤ a ∧ a < 9223372036854775808 := by
  simp only [Lit.wf, Bool.and_eq_true, decide_eq_true_eq] at h
  have h1 : IntKind.i64.min = -9223372036854775808 := by decide
  have h2 : IntKind.i64.max = 9223372036854775807 := by decide
  omega
end Go.Pk
namespace Go.Proofs.YtnjadekngjgjcaaGreatDoor
open Go.ChangeShapes Go.WideShapes Go.ChangeAt Go.RowKit
theorem own : ownKnob Tryz.prog.godebug = none := by kernel_rfl
theorem laidOut : laidOutB Tryz.prog = true := by kernel_rfl
end Go.Proofs.YtnjadekngjgjcaaGreatDoor

/- The rows' openers of bytes and of numbers, and the bound. -/
namespace Go.Proofs.YtnjadekngjgjcaaGreatDoor
open Go Go.Pk Go.ChangeShapes Go.WideShapes Go.ChangeAt Go.RowKit
end Go.Proofs.YtnjadekngjgjcaaGreatDoor

/- The rows' opener of any data without pointers, maps, functions. -/
namespace Go.Pk
open Go
mutual
inductive TT where
  | int (k : IntKind) | bool | str | sl (e : TT) | st (fs : TS)
inductive TS where
  | nil | cons (t : TT) (r : TS)
end
mutual
abbrev TT.V : TT → Type
  | .int _ => Int
  | .bool => Bool
  | .str => ByteArray
  | .sl e => Sl × List (TT.V e)
  | .st fs => TS.V fs
abbrev TS.V : TS → Type
  | .nil => Unit
  | .cons t r => TT.V t × TS.V r
end
mutual
def TT.size : TT → Nat
  | .int _ => 1
  | .bool => 1
  | .str => 1
  | .sl _ => 1
  | .st fs => TS.size fs
def TS.size : TS → Nat
  | .nil => 0
  | .cons t r => TT.size t + TS.size r
end
mutual
def TT.cells : (t : TT) → TT.V t → List Value
  | .int k, n => [.int k n]
  | .bool, b => [.bool b]
  | .str, s => [.string s]
  | .sl _, x => [Sl.v x.1]
  | .st fs, x => TS.cells fs x
def TS.cells : (t : TS) → TS.V t → List Value
  | .nil, _ => []
  | .cons t r, x => TT.cells t x.1 ++ TS.cells r x.2
end
mutual
def TT.good (W : World) : (t : TT) → TT.V t → Prop
  | .int k, n => (Lit.int k n).wf = true
  | .bool, _ => True
  | .str, s => s.size ≤ maxLen
  | .sl e, x => RdC W x.1 (TT.size e) (x.2.flatMap (TT.cells e)) ∧ ∀ y ∈ x.2, TT.good W e y
  | .st fs, x => TS.good W fs x
def TS.good (W : World) : (t : TS) → TS.V t → Prop
  | .nil, _ => True
  | .cons t r, x => TT.good W t x.1 ∧ TS.good W r x.2
end
def sumOf : List Nat → Nat
  | [] => 0
  | n :: l => n + sumOf l
mutual
def TT.bulk : (t : TT) → TT.V t → Nat
  | .int _, _ => 1
  | .bool, _ => 1
  | .str, s => s.size + 1
  | .sl e, x => 1 + sumOf (x.2.map (TT.bulk e))
  | .st fs, x => 1 + TS.bulk fs x
def TS.bulk : (t : TS) → TS.V t → Nat
  | .nil, _ => 0
  | .cons t r, x => TT.bulk t x.1 + TS.bulk r x.2
end
mutual
def TT.is (P : Program) : TT → TypeId → Bool
  | .int k, t => match P.underlying t with | some (.int k') => decide (k' = k) | _ => false
  | .bool, t => match P.underlying t with | some .bool => true | _ => false
  | .str, t => match P.underlying t with | some .string => true | _ => false
  | .sl e, t => match P.underlying t with | some (.slice te) => Nat.beq (P.cellsOf te) (TT.size e) && TT.is P e te | _ => false
  | .st fs, t => match P.underlying t with | some (.struct fields) => Nat.beq (P.cellsOf t) (TS.size fs) && TS.is P fs fields.toList 0 | _ => false
def TS.is (P : Program) : TS → List Field → Nat → Bool
  | .nil, [], _ => true
  | .cons t r, f :: fs, o => Nat.beq f.offset o && (Nat.beq (P.cellsOf f.type) (TT.size t) && (TT.is P t f.type && TS.is P r fs (o + TT.size t)))
  | _, _, _ => false
end
mutual
theorem TT.cells_len : (t : TT) → (x : TT.V t) → (TT.cells t x).length = TT.size t
  | .int _, _ => rfl
  | .bool, _ => rfl
  | .str, _ => rfl
  | .sl _, _ => rfl
  | .st fs, x => TS.cells_len fs x
theorem TS.cells_len : (t : TS) → (x : TS.V t) → (TS.cells t x).length = TS.size t
  | .nil, _ => rfl
  | .cons t r, x => by
    simp only [TS.cells, TS.size, List.length_append]
    rw [TT.cells_len t x.1, TS.cells_len r x.2]
end
theorem flat_get {α : Type} {f : α → List Value} {sz : Nat} (hf : ∀ x, (f x).length = sz) : ∀ (l : List α) (j : Nat) (u : Value), (l.flatMap f)[j]? = some u → ∃ i x, ∃ k, l[i]? = some x ∧ k < sz ∧ j = i * sz + k ∧ (f x)[k]? = some u
  | [], j, u, h => by simp at h
  | y :: l, j, u, h => by
    simp only [List.flatMap_cons] at h
    rcases Nat.lt_or_ge j sz with hlt | hge
    · rw [List.getElem?_append_left (by rw [hf]; exact hlt)] at h
      exact ⟨0, y, j, rfl, hlt, by simp, h⟩
    · rw [List.getElem?_append_right (by rw [hf]; exact hge), hf] at h
      obtain ⟨i, x, k, h1, h2, h3, h4⟩ := flat_get hf l _ _ h
      exact ⟨i + 1, x, k, by simpa using h1, h2, by rw [Nat.add_mul]; omega, h4⟩
theorem flat_len {α : Type} {f : α → List Value} {sz : Nat} (hf : ∀ x, (f x).length = sz) : ∀ (l : List α), (l.flatMap f).length = l.length * sz
  | [] => by simp
  | y :: l => by
    simp only [List.flatMap_cons, List.length_append, List.length_cons, hf, flat_len hf l, Nat.add_mul]
    omega
end Go.Pk
namespace Go.Proofs.YtnjadekngjgjcaaGreatDoor
open Go Go.Pk Go.ChangeShapes Go.WideShapes Go.ChangeAt Go.RowKit
section
variable {H : Type} {enc : TypeId × Value → H} {P : Program} {W : World}
theorem cellsGet {a : Addr} {n : Nat} {us : List Value} {base : Nat} (h : W.cells? base a n = some us) : us.length = n ∧ ∀ j u, us[j]? = some u → W.cell? (a.add j) = some u := by
  unfold World.cells? at h
  split at h
  · have key : ∀ (l : List Nat) (r : List Value), l.mapM (fun i => W.cell? (a.add i)) = some r → r.length = l.length ∧ ∀ (j i : Nat) (u : Value), l[j]? = some i → r[j]? = some u → W.cell? (a.add i) = some u := by
      intro l
      induction l with
      | nil => intro r hr; simp at hr; subst hr; simp
      | cons i l ih =>
        intro r hr
        rw [List.mapM_cons] at hr
        simp only [Option.bind_eq_bind, Option.bind_eq_some_iff, Option.pure_def, Option.some.injEq] at hr
        obtain ⟨u, hu, us, hus, rfl⟩ := hr
        obtain ⟨h1, h2⟩ := ih us hus
        refine ⟨by simp [h1], fun j i' u' hi hu' => ?_⟩
        cases j with
        | zero => simp at hi hu'; subst hi; subst hu'; exact hu
        | succ j => exact h2 j i' u' (by simpa using hi) (by simpa using hu')
    obtain ⟨h1, h2⟩ := key _ _ h
    simp at h1
    refine ⟨h1, fun j u hu => h2 j j u ?_ hu⟩
    have hj : j < us.length := by rcases Nat.lt_or_ge j us.length with h1 | h1; exact h1; rw [List.getElem?_eq_none h1] at hu; cases hu
    rw [List.getElem?_range (by omega)]
  · cases h
mutual
theorem open_tt : (tt : TT) → ∀ {t : TypeId} {cs : List Value} {m : Nat} {x : DataW H × List MemPlace}, TT.is P tt t = true → DataW.trod enc P W 0 (fun _ => true) true m t cs = some x →
    ∃ v : TT.V tt, cs = TT.cells tt v ∧ TT.good W tt v ∧ TT.bulk tt v ≤ Rows.uptoBulk x.1
  | .int k, t, cs, m, x, hi, h => by
    unfold TT.is at hi
    split at hi
    · rename_i k' hk
      have hk' : k' = k := by simpa using hi
      subst hk'
      obtain ⟨n, rfl, rfl, hw⟩ := DataW.trod_int hk h
      exact ⟨n, rfl, hw, Nat.le_refl _⟩
    · cases hi
  | .bool, t, cs, m, x, hi, h => by
    unfold TT.is at hi
    split at hi
    · rename_i hk
      obtain ⟨n, rfl, rfl⟩ := DataW.trod_bool hk h
      exact ⟨n, rfl, trivial, Nat.le_refl _⟩
    · cases hi
  | .str, t, cs, m, x, hi, h => by
    unfold TT.is at hi
    split at hi
    · rename_i hk
      obtain ⟨s, rfl, rfl, hw⟩ := DataW.trod_string hk h
      exact ⟨s, rfl, hw, by simp only [TT.bulk, Rows.uptoBulk, Array.length_toList]; exact Nat.le_refl _⟩
    · cases hi
  | .sl e, t, cs, m, x, hi, h => by
    unfold TT.is at hi
    split at hi
    · rename_i te hk
      simp only [Bool.and_eq_true, beq_eq, decide_eq_true_eq] at hi
      obtain ⟨hsz, hie⟩ := hi
      rcases DataW.trod_slice hk h with ⟨rfl, rfl⟩ | ⟨a, len, cap, elems, rest, n, _, rfl, hx, _, hlc, _, hel, hat, _⟩
      · exact ⟨(⟨none, 0, 0⟩, []), rfl, ⟨⟨by simp, Nat.le_refl _, fun _ => rfl, fun a ha => (by cases ha)⟩, by simp⟩, Nat.le_refl _⟩
      · rw [hsz] at hat
        have key : ∀ (k : Nat) (es : List (DataW H × List MemPlace)) (i : Nat), es.length = k → (∀ j, j < k → (W.cells? 0 (a.add ((i + j) * TT.size e)) (TT.size e)).bind (DataW.trod enc P W 0 (fun _ => true) true n te) = es[j]?) →
            ∃ vs : List (TT.V e), vs.length = k ∧ (∀ j y, vs[j]? = some y → TT.good W e y ∧ ∀ q u, (TT.cells e y)[q]? = some u → W.cell? (a.add ((i + j) * TT.size e + q)) = some u) ∧ sumOf (vs.map (TT.bulk e)) ≤ Rows.uptoBulkAll (es.map (·.1)) := by
          intro k
          induction k with
          | zero => intro es i hes _; exact ⟨[], rfl, by simp, by simp [sumOf]⟩
          | succ k ih =>
            intro es i hes hj
            match es, hes with
            | e0 :: es, hes =>
            have h0 := hj 0 (by omega)
            simp only [Nat.add_zero, List.getElem?_cons_zero, Option.bind_eq_some_iff] at h0
            obtain ⟨us, hus, h0⟩ := h0
            obtain ⟨v, rfl, hg, hb⟩ := open_tt e hie h0
            obtain ⟨_, hget⟩ := cellsGet hus
            obtain ⟨vs, hl, hc, hw⟩ := ih es (i + 1) (by simpa using hes) fun j hj' => by
              have := hj (j + 1) (by omega)
              simpa [show i + 1 + j = i + (j + 1) by omega] using this
            refine ⟨v :: vs, by simp [hl], fun j y hy => ?_, ?_⟩
            · cases j with
              | zero =>
                simp only [List.getElem?_cons_zero, Option.some.injEq] at hy
                subst hy
                refine ⟨hg, fun q u hu => ?_⟩
                have := hget q u hu
                rw [Addr_add2] at this
                simpa using this
              | succ j =>
                obtain ⟨h1, h2⟩ := hc j y (by simpa using hy)
                refine ⟨h1, fun q u hu => ?_⟩
                have := h2 q u hu
                rwa [show i + 1 + j = i + (j + 1) by omega] at this
            · simp only [List.map_cons, sumOf, Rows.uptoBulkAll]; omega
        obtain ⟨vs, hl, hc, hw⟩ := key len elems 0 hel fun j hj => by simpa using hat j hj
        refine ⟨(⟨some a, len, cap⟩, vs), rfl, ⟨⟨?_, hlc, (fun h => (by cases h)), fun b hb j u hu => ?_⟩, fun y hy => ?_⟩, ?_⟩
        · rw [flat_len (fun x => TT.cells_len e x), hl]
        · cases hb
          obtain ⟨i, y, k, h1, h2, rfl, h4⟩ := flat_get (fun x => TT.cells_len e x) vs j u hu
          have := (hc i y h1).2 k u h4
          simpa using this
        · obtain ⟨j, hj⟩ := List.getElem?_of_mem hy
          exact (hc j y hj).1
        · rw [hx]
          simp only [TT.bulk, Rows.uptoBulk]
          omega
    · cases hi
  | .st fs, t, cs, m, x, hi, h => by
    unfold TT.is at hi
    split at hi
    · rename_i fields hk
      simp only [Bool.and_eq_true, beq_eq, decide_eq_true_eq] at hi
      obtain ⟨hsz, hif⟩ := hi
      obtain ⟨xs, n, _, rfl, hl, hlen, hf⟩ := DataW.trod_struct hk h
      obtain ⟨v, hv, hg, hb⟩ := open_ts fs (cs := cs) (xs := xs) (o := 0) (fields := fields.toList) hif (by simpa using hlen) fun i f hif => hf i f (by simpa using hif)
      refine ⟨v, ?_, hg, ?_⟩
      · rw [List.drop_zero, List.take_of_length_le (by omega)] at hv
        exact hv
      · simp only [TT.bulk, Rows.uptoBulk]; omega
    · cases hi
theorem open_ts : (fs : TS) → ∀ {fields : List Field} {cs : List Value} {n o : Nat} {xs : List (DataW H × List MemPlace)}, TS.is P fs fields o = true → xs.length = fields.length →
    (∀ (i : Nat) (f : Field), fields[i]? = some f → DataW.trod enc P W 0 (fun _ => true) true n f.type ((cs.drop f.offset).take (P.cellsOf f.type)) = xs[i]?) →
    ∃ v : TS.V fs, (cs.drop o).take (TS.size fs) = TS.cells fs v ∧ TS.good W fs v ∧ TS.bulk fs v ≤ Rows.uptoBulkAll (xs.map (·.1))
  | .nil, fields, cs, n, o, xs, hi, hlen, hf => ⟨(), by simp [TS.size, TS.cells], trivial, by simp [TS.bulk]⟩
  | .cons t r, fields, cs, n, o, xs, hi, hlen, hf => by
    cases fields with
    | nil => simp [TS.is] at hi
    | cons f fields =>
      simp only [TS.is, Bool.and_eq_true, beq_eq, decide_eq_true_eq] at hi
      obtain ⟨ho, hsz, hit, hir⟩ := hi
      match xs, hlen with
      | y :: xs, hlen =>
      have h0 := hf 0 f rfl
      rw [ho, hsz] at h0
      obtain ⟨v, hv, hg, hb⟩ := open_tt t hit h0
      obtain ⟨u, hu, hgu, hbu⟩ := open_ts r (cs := cs) (xs := xs) (o := o + TT.size t) (n := n) hir (by simpa using hlen) fun i g hg => by
        have := hf (i + 1) g (by simpa using hg)
        simpa using this
      refine ⟨(v, u), ?_, ⟨hg, hgu⟩, ?_⟩
      · simp only [TS.size, TS.cells]
        rw [List.take_add, List.drop_drop, hv, hu]
      · simp only [TS.bulk, List.map_cons, Rows.uptoBulkAll]; omega
end
/-- an argument that is a struct -/
theorem open_agg {fs : TS} {t : TypeId} {base : Nat} {v : Value} {d : DataW H} {ps : List MemPlace} (hi : TT.is P (.st fs) t = true) (hv : Value.okWide P W .any base t v) (h : DataW.Trod enc P W 0 (fun _ => true) true t v d ps) :
    ∃ x : TS.V fs, v = .agg (TS.cells fs x).toArray ∧ TS.good W fs x ∧ 1 + TS.bulk fs x ≤ Rows.uptoBulk d := by
  have hu : ∃ fields, P.underlying t = some (.struct fields) := by
    unfold TT.is at hi
    split at hi
    · exact ⟨_, ‹_›⟩
    · cases hi
  obtain ⟨fields, hu⟩ := hu
  simp only [Value.okWide, hu] at hv
  obtain ⟨us, rfl, _⟩ := hv
  obtain ⟨fuel, hf⟩ := h
  obtain ⟨x, hc, hg, hb⟩ := open_tt (.st fs) hi hf
  refine ⟨x, ?_, hg, hb⟩
  have : us.toList = TS.cells fs x := by simpa [Value.cells, TT.cells] using hc
  rw [← this]
end
end Go.Proofs.YtnjadekngjgjcaaGreatDoor
