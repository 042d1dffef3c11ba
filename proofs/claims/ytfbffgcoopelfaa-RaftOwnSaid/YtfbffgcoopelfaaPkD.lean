/- The engine, part 4: regions, control, functions. -/
import Derived.Test.YtfbffgcoopelfaaPkC
namespace Go.Pk
open Go

/-- the slot that an operation of the region writes -/
def slotOf (ops : List Oper) (j : Nat) : Option Tmp := match nth ops j with | some o => o.dst | none => none

/-- an operation under its guard: 'run' where it is wanted, 'skip' where it is not -/
def guarded (ops : List Oper) (e : Env) (o : Oper) (run skip : Env → Prop) : Prop :=
  match o.guard with
  | none => run e
  | some (j, want) => match slotOf ops j with
    | none => False
    | some d => match e.get d with
      | some (.bool t) => match want with
        | true => ifB t (run ((d, .bool true) :: e)) (skip ((d, .bool false) :: e))
        | false => ifB t (skip ((d, .bool true) :: e)) (run ((d, .bool false) :: e))
      | some (.tuple _) => skip e
      | _ => False
def fine (n : Nat) (e : Env) (o : Oper) : Bool := dstOk n o.dst && !isSel o.op && allIn e (opsOf o.op)

/-- the kinds of an entry's parts, as they are taken out behind it -/
def extKd (P : Program) (d : Option Tmp) (i : Nat) : List Oper → Kd
  | [] => .val
  | o :: l => match o.op with
    | .extract (.tmp t) j => match d with
      | some d => bif Nat.beq t d && Nat.beq i j then kdOf P o.type else extKd P (some d) i l
      | none => .val
    | _ => extKd P d i l
def denOps (P : Program) (X : Option PX) (n : Nat) (ops : List Oper) : List Oper → Env → World → (Env → World → Prop) → Prop
  | [], e, w, N => N e w
  | o :: rest, e, w, N =>
    bif dstOk n o.dst && !isSel o.op then
      guarded ops e o
        (fun e => bif allIn e (opsOf o.op) then denOp P X (extKd P o.dst 0 rest, extKd P o.dst 1 rest) e o w fun v w' => denOps P X n ops rest (e.put o.dst v) w' N else False)
        (fun e => denOps P X n ops rest (e.put o.dst undef) w N)
    else False

theorem Env.Of.cons_eq {n : Nat} {e : Env} {a : Act} (h : e.Of n a) {d : Nat} {v v' : Value} (hd : e.get d = some v) (hv : v = v') : Env.Of n ((d, v') :: e) a := by
  refine h.sub fun i u hu => ?_
  rw [Env.get_cons] at hu
  split at hu
  · rename_i hi; simp only at hi; subst hi; subst hv; rw [hd]; exact hu
  · exact hu

theorem guarded_elim {n : Nat} {ops : List Oper} {e : Env} {o : Oper} {a : Act} {run skip : Env → Prop} (hof : e.Of n a) (h : guarded ops e o run skip) :
    (Region.wanted o (yielded ops.toArray a.tmps) = true ∧ ∃ e', e'.Of n a ∧ run e') ∨ (Region.wanted o (yielded ops.toArray a.tmps) = false ∧ ∃ e', e'.Of n a ∧ skip e') := by
  unfold guarded at h
  unfold Region.wanted
  split at h
  · rename_i hg; rw [hg]; exact .inl ⟨rfl, e, hof, h⟩
  · rename_i j want hg
    rw [hg]
    simp only
    split at h
    · exact h.elim
    · rename_i d hd
      have hy : ∀ v, e.get d = some v → yielded ops.toArray a.tmps j = (match v with | .bool b => some b | _ => none) := by
        intro v hv
        unfold slotOf at hd
        split at hd
        · rename_i oj hoj
          rw [nth_eq] at hoj
          have := hof.vals d v hv
          simp [yielded, hoj, hd, this]
          cases v <;> rfl
        · cases hd
      split at h
      · rename_i t ht
        have := hy _ ht
        simp only at this
        rw [this]
        cases want <;> cases t <;> simp only [ifB] at h
        · exact .inl ⟨rfl, _, hof.cons_eq ht rfl, h⟩
        · exact .inr ⟨rfl, _, hof.cons_eq ht rfl, h⟩
        · exact .inr ⟨rfl, _, hof.cons_eq ht rfl, h⟩
        · exact .inl ⟨rfl, _, hof.cons_eq ht rfl, h⟩
      · rename_i vs ht
        have := hy _ ht
        simp only at this
        rw [this]
        exact .inr ⟨by cases want <;> rfl, _, hof, h⟩
      · exact h.elim

/-- outside of the slots 'M' nothing has turned -/
def Keep (M : List Nat) (a a' : Act) : Prop := ∀ i : Nat, i ∉ M → a'.tmps[i]? = a.tmps[i]?
theorem Keep.refl (M : List Nat) (a : Act) : Keep M a a := fun _ _ => rfl
theorem Keep.trans {M : List Nat} {a b c : Act} (h : Keep M a b) (k : Keep M b c) : Keep M a c := fun i hi => (k i hi).trans (h i hi)
theorem Keep.mono {M M' : List Nat} {a b : Act} (h : Keep M a b) (hs : ∀ i, i ∈ M → i ∈ M') : Keep M' a b := fun i hi => h i fun hm => hi (hs i hm)
theorem Keep.put {M : List Nat} (a : Act) (d : Option Tmp) (v : Value) (h : ∀ i, d = some i → i ∈ M) : Keep M a (a.put d v) := by
  intro i hi
  cases d with
  | none => rfl
  | some d =>
    have hne : d ≠ i := fun he => hi (he ▸ h d rfl)
    simp [Act.put, Array.getElem?_setIfInBounds_ne hne]
def dsts : List Oper → List Nat
  | [] => []
  | o :: l => match o.dst with | some d => d :: dsts l | none => dsts l
theorem mem_dsts {o : Oper} {l : List Oper} (h : o ∈ l) (i : Nat) (hi : o.dst = some i) : i ∈ dsts l := by
  induction l with
  | nil => cases h
  | cons p l ih =>
    cases h with
    | head => simp [dsts, hi]
    | tail _ h => simp only [dsts]; split <;> simp [ih h]

theorem denOps_sound {P : Program} {X : Option PX} {n : Nat} {ops : List Oper} {Q : Exit → Act → World → Prop} {N : Env → World → Prop} {M : List Nat} {a0 : Act}
    (hQ : ∀ e a w, e.Of n a → Keep M a0 a → N e w → Q .normal a w) (hX : ∀ c a w, a.tmps.size = n → a.defers = [] → Keep M a0 a → px X c w → Q (.panic c) a w) (l : List Oper) :
    ∀ (e : Env) (a : Act) (w : World), (∀ o ∈ l, ∀ i, o.dst = some i → i ∈ M) → e.Of n a → Keep M a0 a → denOps P X n ops l e w N → wpList P ops.toArray Q l a w := by
  induction l with
  | nil => intro e a w _ hof hk h; exact hQ e a w hof hk h
  | cons o l ih =>
    intro e a w hM hof hk h
    simp only [denOps] at h
    cases hc : (dstOk n o.dst && !isSel o.op) <;> simp only [hc, cond_true, cond_false] at h
    simp only [Bool.and_eq_true, Bool.not_eq_true'] at hc
    have hput : ∀ v, Keep M a0 (a.put o.dst v) := fun v => hk.trans (Keep.put a o.dst v (hM o (by simp)))
    unfold wpList
    rcases guarded_elim hof h with ⟨hw, e', hof', h⟩ | ⟨hw, e', hof', h⟩
    · rw [if_pos hw]
      cases hi : allIn e' (opsOf o.op) <;> simp only [hi, cond_true, cond_false] at h
      refine .inl ?_
      unfold Oper.wp
      rw [exec_of hof' o hc.2 hi]
      exact (denOp_sound h).upon (fun v w' hv => ih _ _ _ (fun o' ho' => hM o' (by simp [ho'])) (hof'.put v hc.1) (hput v) hv) fun c w' hx => hX c a w' hof.size hof.defers hk hx
    · rw [if_neg (by simp [hw])]
      exact ih _ _ _ (fun o' ho' => hM o' (by simp [ho'])) (hof'.put undef hc.1) (hput undef) h

/-! ### regions that draw their order -/
def noSel : List Oper → Bool
  | [] => true
  | o :: l => !isSel o.op && noSel l
def defOf (t : Nat) : List Oper → Option Op
  | [] => none
  | o :: l => match o.dst with
    | some d => bif Nat.beq d t then some o.op else defOf t l
    | none => defOf t l
/-- where an address leads, as far as the region tells -/
def pathOf (ops : List Oper) : Nat → Operand → List Nat
  | 0, _ => [4000000]
  | k + 1, x => match x with
    | .tmp t => match defOf t ops with
      | some (.fieldAddr _ y f) => f :: pathOf ops k y
      | some (.nilCheck y) => pathOf ops k y
      | some (.move y) => pathOf ops k y
      | _ => [1000000 + t]
    | .global g => [2000000 + g]
    | _ => [3000000]
def eqList : List Nat → List Nat → Bool
  | [], [] => true
  | a :: l, b :: m => Nat.beq a b && eqList l m
  | _, _ => false
def storesAt (all : List Oper) (p : List Nat) : List Oper → Bool
  | [] => false
  | o :: l => (match o.op with | .store _ a _ => eqList (pathOf all 12 a) p | _ => false) || storesAt all p l
/-- a load of what the region stores to -/
def memAl (ops : List Oper) : Op → Bool
  | .load _ x => storesAt ops (pathOf ops 12 x) ops
  | _ => false
/-- what may be taken next: a quiet operation that is ready and free -/
def firstQuiet (P : Program) (st : Bool) (ops : List Oper) (listed : Array Bool) : List Nat → Option Nat
  | [] => none
  | i :: l => match nth ops i with
    | some o => bif quietOp P o && Region.free .any ops.toArray listed i && (Region.ready .any ops.toArray listed).contains i && !(st && memAl ops o.op) then some i else firstQuiet P st ops listed l
    | none => firstQuiet P st ops listed l
def denAll (ops : List Oper) (step : Nat → Oper → Prop) : List Nat → Prop
  | [] => True
  | i :: l => (match nth ops i with | some o => step i o | none => False) ∧ denAll ops step l
def denAll1 (ops : List Oper) (step : Nat → Oper → Prop) : List Nat → Prop
  | [] => False
  | [i] => match nth ops i with | some o => step i o | none => False
  | l => denAll ops step l
/-- look at memory under the condition S -/
def HRun (S : World → Prop) (k : Kd) (P : Program) (s : Sem Value) (K : k.Ty → Prop) : Prop := ∃ x, (∀ w, S w → s.run P w = .ok (k.v x) w) ∧ K x
def denH (P : Program) (X : Option PX) (n : Nat) (ops : List Oper) (st : Bool) (S : World → Prop) : Nat → Array Bool → Env → World → (Env → World → Prop) → Prop
  | 0, listed, e, w, N => bif (Region.ready .any ops.toArray listed).isEmpty then N e w else False
  | fuel + 1, listed, e, w, N =>
    match firstQuiet P st ops listed (Region.ready .any ops.toArray listed) with
    | some i => match nth ops i with
      | some o => bif dstOk n o.dst && !isSel o.op then
          guarded ops e o
            (fun e => bif allIn e (opsOf o.op) then denQ P e o (fun k s K => HRun S k P s K) fun v => denH P X n ops st S fuel (listed.setIfInBounds i true) (e.put o.dst v) w N else False)
            (fun e => denH P X n ops st S fuel (listed.setIfInBounds i true) (e.put o.dst undef) w N)
        else False
      | none => False
    | none => bif (Region.ready .any ops.toArray listed).isEmpty then N e w else
        denAll1 ops (fun i o => bif dstOk n o.dst && !isSel o.op then
          guarded ops e o
            (fun e => bif allIn e (opsOf o.op) then denOp P X (.val, .val) e o w fun v w' => S w' ∧ denH P X n ops st S fuel (listed.setIfInBounds i true) (e.put o.dst v) w' N else False)
            (fun e => denH P X n ops st S fuel (listed.setIfInBounds i true) (e.put o.dst undef) w N)
        else False) (Region.ready .any ops.toArray listed)

theorem denAll_mem {ops : List Oper} {step : Nat → Oper → Prop} {l : List Nat} (h : denAll ops step l) : ∀ i ∈ l, ∃ o, ops[i]? = some o ∧ step i o := by
  induction l with
  | nil => intro i hi; cases hi
  | cons j l ih =>
    intro i hi
    obtain ⟨h1, h2⟩ := h
    cases hi with
    | head =>
      split at h1
      · rename_i o ho; exact ⟨o, by rw [← nth_eq]; exact ho, h1⟩
      · exact h1.elim
    | tail _ hi => exact ih h2 i hi
theorem denAll1_mem {ops : List Oper} {step : Nat → Oper → Prop} {l : List Nat} (h : denAll1 ops step l) : l ≠ [] ∧ ∀ i ∈ l, ∃ o, ops[i]? = some o ∧ step i o := by
  unfold denAll1 at h
  split at h
  · exact h.elim
  · refine ⟨by simp, fun i hi => ?_⟩
    simp only [List.mem_singleton] at hi
    subst hi
    split at h
    · rename_i o ho; exact ⟨o, by rw [← nth_eq]; exact ho, h⟩
    · exact h.elim
  · rename_i h1 _
    exact ⟨h1, denAll_mem h⟩
theorem firstQuiet_spec {P : Program} {st : Bool} {ops : List Oper} {listed : Array Bool} {l : List Nat} {i : Nat} (h : firstQuiet P st ops listed l = some i) :
    ∃ o, ops[i]? = some o ∧ quietOp P o = true ∧ Region.free .any ops.toArray listed i = true ∧ (Region.ready .any ops.toArray listed).contains i = true := by
  induction l with
  | nil => cases h
  | cons j l ih =>
    simp only [firstQuiet] at h
    split at h
    · rename_i o ho
      cases hc : (quietOp P o && Region.free .any ops.toArray listed j && (Region.ready .any ops.toArray listed).contains j && !(st && memAl ops o.op)) <;> simp only [hc, cond_true, cond_false] at h
      · exact ih h
      · simp only [Option.some.injEq] at h
        subst h
        simp only [Bool.and_eq_true] at hc
        exact ⟨o, by rw [← nth_eq]; exact ho, hc.1.1.1, hc.1.1.2, hc.1.2⟩
    · exact ih h
theorem noSel_spec {ops : List Oper} (h : noSel ops = true) : Region.noSelect ops.toArray = true := by
  unfold Region.noSelect
  simp only [List.all_toArray, List.all_eq_true]
  intro o ho
  induction ops with
  | nil => cases ho
  | cons p l ih =>
    simp only [noSel, Bool.and_eq_true, Bool.not_eq_true'] at h
    cases ho with
    | head => cases hp : o.op <;> simp_all [isSel]
    | tail _ ho => exact ih h.2 ho

theorem denH_sound {P : Program} {X : Option PX} {n : Nat} {ops : List Oper} {st : Bool} {S : World → Prop} {Q : Exit → Act → World → Prop} {N : Env → World → Prop} {M : List Nat} {a0 : Act}
    (hns : noSel ops = true) (hM : ∀ o ∈ ops, ∀ i, o.dst = some i → i ∈ M)
    (hp : ∀ c a w d v, (∀ i, d = some i → i ∈ M) → Q (.panic c) (a.put d v) w → Q (.panic c) a w)
    (hQ : ∀ e a w, e.Of n a → Keep M a0 a → N e w → Q .normal a w) (hX : ∀ c a w, a.tmps.size = n → a.defers = [] → Keep M a0 a → px X c w → Q (.panic c) a w) :
    ∀ (fuel : Nat) (listed : Array Bool) (e : Env) (a : Act) (w : World), e.Of n a → Keep M a0 a → S w → denH P X n ops st S fuel listed e w N → wpAnyH P .any ops.toArray Q S fuel listed a w := by
  intro fuel
  induction fuel with
  | zero =>
    intro listed e a w hof hk hS h
    simp only [denH] at h
    cases hr : (Region.ready .any ops.toArray listed).isEmpty <;> simp only [hr, cond_true, cond_false] at h
    exact ⟨by simpa using hr, hQ e a w hof hk h⟩
  | succ fuel ih =>
    intro listed e a w hof hk hS h
    simp only [denH] at h
    split at h
    · rename_i i hi
      obtain ⟨o, ho, hq, hf, hr⟩ := firstQuiet_spec hi
      rw [nth_eq, ho] at h
      simp only at h
      cases hc : (dstOk n o.dst && !isSel o.op) <;> simp only [hc, cond_true, cond_false] at h
      simp only [Bool.and_eq_true, Bool.not_eq_true'] at hc
      have hput : ∀ v, Keep M a0 (a.put o.dst v) := fun v => hk.trans (Keep.put a o.dst v (hM o (List.mem_of_getElem? ho)))
      rcases guarded_elim hof h with ⟨hw, e', hof', h⟩ | ⟨hw, e', hof', h⟩
      · cases hall : allIn e' (opsOf o.op) <;> simp only [hall, cond_true, cond_false] at h
        obtain ⟨v, hv, hrun⟩ := denQ_sound (S := S) (fun k s K' h => h) h
        refine wpAnyH_take (i := i) (oi := o) (v := v) (by simpa using ho) (noSel_spec hns) hf hr (fun c a w hx => hp _ _ _ _ _ (hM o (List.mem_of_getElem? ho)) hx) (.inl ⟨hw, fun w' hw' => ?_⟩) hS (ih _ _ _ _ (hof'.put v hc.1) (hput v) hS hv)
        rw [exec_of hof' o hc.2 hall]; exact hrun w' hw'
      · exact wpAnyH_take (i := i) (oi := o) (v := undef) (by simpa using ho) (noSel_spec hns) hf hr (fun c a w hx => hp _ _ _ _ _ (hM o (List.mem_of_getElem? ho)) hx) (.inr ⟨hw, rfl⟩) hS (ih _ _ _ _ (hof'.put undef hc.1) (hput undef) hS h)
    · cases hr : (Region.ready .any ops.toArray listed).isEmpty <;> simp only [hr, cond_true, cond_false] at h
      · obtain ⟨hne, hall⟩ := denAll1_mem h
        refine wpAnyH_all rfl hne fun i hi => ?_
        obtain ⟨o, ho, h⟩ := hall i hi
        cases hc : (dstOk n o.dst && !isSel o.op) <;> simp only [hc, cond_true, cond_false] at h
        simp only [Bool.and_eq_true, Bool.not_eq_true'] at hc
        have hput : ∀ v, Keep M a0 (a.put o.dst v) := fun v => hk.trans (Keep.put a o.dst v (hM o (List.mem_of_getElem? ho)))
        unfold wpOp
        simp only [List.getElem?_toArray, ho]
        rcases guarded_elim hof h with ⟨hw, e', hof', h⟩ | ⟨hw, e', hof', h⟩
        · rw [if_pos hw]
          cases hin : allIn e' (opsOf o.op) <;> simp only [hin, cond_true, cond_false] at h
          refine .inl ?_
          unfold Oper.wp
          rw [exec_of hof' o hc.2 hin]
          exact (denOp_sound h).upon (fun v w' hv => ⟨hv.1, ih _ _ _ _ (hof'.put v hc.1) (hput v) hv.1 hv.2⟩) fun c w' hx => hX c a w' hof.size hof.defers hk hx
        · rw [if_neg (by simp [hw])]
          exact ⟨hS, ih _ _ _ _ (hof'.put undef hc.1) (hput undef) hS h⟩
      · exact wpAnyH_done (by simpa using hr) (hQ e a w hof hk h) _

/-- a region all of whose operations only look: in the order of the text -/
def textOrder (P : Program) (ops : List Oper) : Nat → Nat → Array Bool → Bool
  | 0, _, listed => (Region.ready .any ops.toArray listed).isEmpty
  | fuel + 1, i, listed => match nth ops i with
    | some o => quietOp P o && Region.free .any ops.toArray listed i && (Region.ready .any ops.toArray listed).contains i && textOrder P ops fuel (i + 1) (listed.setIfInBounds i true)
    | none => false

theorem textOrder_sound {P : Program} {X : Option PX} {n : Nat} {ops : List Oper} {w : World} {Q : Exit → Act → World → Prop} {N : Env → World → Prop} {M : List Nat} {a0 : Act}
    (hns : noSel ops = true) (hM : ∀ o ∈ ops, ∀ i, o.dst = some i → i ∈ M)
    (hp : ∀ c a w d v, (∀ i, d = some i → i ∈ M) → Q (.panic c) (a.put d v) w → Q (.panic c) a w)
    (hQ : ∀ e a w, e.Of n a → Keep M a0 a → N e w → Q .normal a w) :
    ∀ (fuel i : Nat) (listed : Array Bool) (e : Env) (a : Act), textOrder P ops fuel i listed = true → fuel = ops.length - i → e.Of n a → Keep M a0 a → denOps P X n ops (ops.drop i) e w N →
      wpAnyH P .any ops.toArray Q (· = w) fuel listed a w := by
  intro fuel
  induction fuel with
  | zero =>
    intro i listed e a ht hf hof hk h
    simp only [textOrder] at ht
    rw [List.drop_of_length_le (by omega)] at h
    exact ⟨by simpa using ht, hQ e a w hof hk h⟩
  | succ fuel ih =>
    intro i listed e a ht hfu hof hk h
    simp only [textOrder] at ht
    split at ht
    · rename_i o ho
      rw [nth_eq] at ho
      simp only [Bool.and_eq_true] at ht
      obtain ⟨⟨⟨hq, hf⟩, hr⟩, ht⟩ := ht
      have hlt : i < ops.length := (List.getElem?_eq_some_iff.1 ho).1
      rw [List.drop_eq_getElem_cons hlt] at h
      have ho' : ops[i] = o := (List.getElem?_eq_some_iff.1 ho).2
      rw [ho'] at h
      simp only [denOps] at h
      cases hc : (dstOk n o.dst && !isSel o.op) <;> simp only [hc, cond_true, cond_false] at h
      simp only [Bool.and_eq_true, Bool.not_eq_true'] at hc
      have hput : ∀ v, Keep M a0 (a.put o.dst v) := fun v => hk.trans (Keep.put a o.dst v (hM o (List.mem_of_getElem? ho)))
      rcases guarded_elim hof h with ⟨hw, e', hof', h⟩ | ⟨hw, e', hof', h⟩
      · cases hall : allIn e' (opsOf o.op) <;> simp only [hall, cond_true, cond_false] at h
        unfold denOp at h
        rw [hq] at h
        simp only [cond_true] at h
        obtain ⟨v, hv, hrun⟩ := denQ_sound (S := (· = w)) (fun k s K' ⟨x, h1, h2⟩ => ⟨x, fun w' hw => by subst hw; exact h1, h2⟩) h
        refine wpAnyH_take (i := i) (oi := o) (v := v) (by simpa using ho) (noSel_spec hns) hf hr (fun c a w hx => hp _ _ _ _ _ (hM o (List.mem_of_getElem? ho)) hx) (.inl ⟨hw, fun w' hw' => ?_⟩) rfl (ih (i + 1) _ _ _ ht (by omega) (hof'.put v hc.1) (hput v) hv)
        rw [exec_of hof' o hc.2 hall]; exact hrun w' hw'
      · exact wpAnyH_take (i := i) (oi := o) (v := undef) (by simpa using ho) (noSel_spec hns) hf hr (fun c a w hx => hp _ _ _ _ _ (hM o (List.mem_of_getElem? ho)) hx) (.inr ⟨hw, rfl⟩) rfl (ih (i + 1) _ _ _ ht (by omega) (hof'.put undef hc.1) (hput undef) h)
    · cases ht
end Go.Pk
