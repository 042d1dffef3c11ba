/- The engine, part 1: a function's code as a predicate over worlds ('den'), and that it is sound. -/
import Derived.OrdersHeld
import Derived.Tactics
import Derived.Laws.World
namespace Go.Pk
open Go

/-! ### values by their kinds -/
inductive Kd where
  | int (k : IntKind) | bool | str | ptr | addr | sl | map | val
structure Sl where
  a : Option Addr
  len : Nat
  cap : Nat
abbrev Kd.Ty : Kd → Type
  | .int _ => Int
  | .bool => Bool
  | .str => ByteArray
  | .ptr => Option Addr
  | .addr => Addr
  | .sl => Sl
  | .map => Option Nat
  | .val => Value
abbrev Sl.v (s : Sl) : Value := .slice s.a s.len s.cap
abbrev Kd.v : (k : Kd) → k.Ty → Value
  | .int k, n => .int k n
  | .bool, b => .bool b
  | .str, s => .string s
  | .ptr, p => .pointer p
  | .addr, a => .pointer (some a)
  | .sl, s => .slice s.a s.len s.cap
  | .map, r => .map r
  | .val, v => v
def kdOf (P : Program) (t : TypeId) : Kd :=
  match P.underlying t with
  | some (.int k) => .int k
  | some .bool => .bool
  | some .string => .str
  | some (.pointer _) => .ptr
  | some (.slice _) => .sl
  | some (.map ..) => .map
  | _ => .val
abbrev Tup : List Kd → Type
  | [] => Unit
  | k :: ks => k.Ty × Tup ks
def Tup.vs : (ks : List Kd) → Tup ks → List Value
  | [], _ => []
  | k :: ks, t => k.v t.1 :: Tup.vs ks t.2
def Kd.get : (k : Kd) → Value → Option k.Ty
  | .int k, .int k' n => if k' = k then some n else none
  | .bool, .bool b => some b
  | .str, .string s => some s
  | .ptr, .pointer p => some p
  | .addr, .pointer (some a) => some a
  | .sl, .slice a l c => some ⟨a, l, c⟩
  | .map, .map r => some r
  | .val, v => some v
  | _, _ => none
theorem Kd.get_v {k : Kd} {v : Value} {x : k.Ty} (h : k.get v = some x) : v = k.v x := by
  cases k
  case addr =>
    cases v with
    | pointer p => cases p <;> simp [Kd.get] at h; subst h; rfl
    | _ => simp [Kd.get] at h
  all_goals cases v <;> simp [Kd.get] at h <;> first | (obtain ⟨rfl, rfl⟩ := h; rfl) | (subst h; rfl)

/-! ### environments -/
abbrev Env := List (Nat × Value)
def Env.get : Env → Nat → Option Value
  | [], _ => none
  | p :: e, i => bif Nat.beq p.1 i then some p.2 else Env.get e i
def evO (e : Env) : Operand → Option Value
  | .tmp t => e.get t
  | .const v => some v
  | .global g => some (.pointer (some ⟨g, 0, none⟩))
  | .func f => some (.func (.func f) #[] #[])
def evD (e : Env) (x : Operand) : Value := match evO e x with | some v => v | none => undef
structure Env.Of (n : Nat) (e : Env) (a : Act) : Prop where
  size : a.tmps.size = n
  defers : a.defers = []
  vals : ∀ i v, e.get i = some v → a.tmps[i]? = some v
def Env.put (e : Env) (d : Option Tmp) (v : Value) : Env := match d with | some d => (d, v) :: e | none => e
def dstOk (n : Nat) : Option Tmp → Bool | some d => Nat.blt d n | none => true
def memb (i : Nat) : List Nat → Bool | [] => false | j :: l => bif Nat.beq j i then true else memb i l
def Env.forget (e : Env) (l : List Nat) : Env := match e with
  | [] => []
  | p :: e => bif memb p.1 l then Env.forget e l else p :: Env.forget e l
def Env.putT : (ks : List (Nat × Kd)) → Tup (ks.map (·.2)) → Env → Env
  | [], _, e => e
  | p :: ks, t, e => (p.1, p.2.v t.1) :: Env.putT ks t.2 e
def Env.getT (e : Env) : (ks : List (Nat × Kd)) → Option (Tup (ks.map (·.2)))
  | [] => some ()
  | p :: ks => match e.get p.1 with
    | some v => match p.2.get v with
      | some x => match e.getT ks with
        | some t => some (x, t)
        | none => none
      | none => none
    | none => none

section
variable {n : Nat} {e : Env} {a : Act}
theorem beq_eq (i j : Nat) : Nat.beq i j = decide (i = j) := by
  have h : (Nat.beq i j = true) = (i = j) := Nat.beq_eq
  cases hb : Nat.beq i j <;> simp [hb] at h ⊢ <;> exact h
theorem Env.Of.ev (h : e.Of n a) {x : Operand} {v : Value} (hx : evO e x = some v) : a.eval x = v := by
  cases x with
  | tmp t => have := h.vals t v hx; simp [Act.eval, this]
  | const c => simpa [evO, Act.eval] using hx
  | global g => simpa [evO, Act.eval] using hx
  | func f => simpa [evO, Act.eval] using hx
theorem Env.get_cons (p : Nat × Value) (e : Env) (i : Nat) : Env.get (p :: e) i = if p.1 = i then some p.2 else Env.get e i := by
  simp only [Env.get, beq_eq]
  by_cases h : p.1 = i <;> simp [h]
theorem Env.Of.put (h : e.Of n a) {d : Option Tmp} (v : Value) (hd : dstOk n d = true) : (e.put d v).Of n (a.put d v) := by
  cases d with
  | none => exact h
  | some d =>
    have hd' : d < n := by simpa [dstOk, Nat.blt_eq] using hd
    refine ⟨by simp [Act.put, h.size], by simp [Act.put, h.defers], fun i u hu => ?_⟩
    simp only [Env.put] at hu
    rw [Env.get_cons] at hu
    simp only [Act.put]
    by_cases hi : d = i
    · subst hi
      simp only [if_true] at hu
      rw [Array.getElem?_setIfInBounds_self]
      simp [h.size, hd']; simpa using hu
    · simp only [if_neg hi] at hu
      rw [Array.getElem?_setIfInBounds_ne hi]
      exact h.vals i u hu
theorem Env.Of.sub {e' : Env} (h : e.Of n a) (hs : ∀ i v, e'.get i = some v → e.get i = some v) : e'.Of n a :=
  ⟨h.size, h.defers, fun i v hv => h.vals i v (hs i v hv)⟩
theorem memb_iff (i : Nat) (l : List Nat) : memb i l = true ↔ i ∈ l := by
  induction l with
  | nil => simp [memb]
  | cons j l ih =>
    simp only [memb, beq_eq]
    by_cases h : j = i
    · simp [h]
    · simp [h, ih, Ne.symm h]
theorem Env.get_forget (e : Env) (l : List Nat) (i : Nat) : Env.get (e.forget l) i = if i ∈ l then none else e.get i := by
  induction e with
  | nil => simp [Env.forget, Env.get]
  | cons p e ih =>
    simp only [Env.forget]
    by_cases hm : p.1 ∈ l
    · simp only [(memb_iff _ _).2 hm, cond_true, ih, Env.get_cons]
      by_cases hi : p.1 = i
      · subst hi; simp [hm]
      · simp [hi]
    · have : memb p.1 l = false := by
        cases h : memb p.1 l with
        | false => rfl
        | true => exact absurd ((memb_iff _ _).1 h) hm
      simp only [this, cond_false, Env.get_cons, ih]
      by_cases hi : p.1 = i
      · subst hi; simp [hm]
      · simp [hi]
theorem Env.get_putT (ks : List (Nat × Kd)) : ∀ (t : Tup (ks.map (·.2))) (e0 e1 : Env), e1.getT ks = some t →
    (∀ i v, e0.get i = some v → e1.get i = some v) → ∀ i v, (Env.putT ks t e0).get i = some v → e1.get i = some v := by
  induction ks with
  | nil => intro t e0 e1 _ h i v hv; exact h i v hv
  | cons p ks ih =>
    intro t e0 e1 hg h i v hv
    simp only [Env.getT] at hg
    split at hg
    · rename_i u hu
      split at hg
      · rename_i x hx
        split at hg
        · rename_i t' ht'
          simp only [Option.some.injEq] at hg
          subst hg
          simp only [Env.putT, Env.get_cons] at hv
          by_cases hi : p.1 = i
          · subst hi
            simp only [if_true, Option.some.injEq] at hv
            rw [hu, Kd.get_v hx, hv]
          · simp only [if_neg hi] at hv
            exact ih t' e0 e1 ht' h i v hv
        · cases hg
      · cases hg
    · cases hg
end

/-! ### operations that look at no memory -/
def pureS {α : Type} (P : Program) : Sem α → Option α
  | .pure a => some a
  | .program k => pureS P (k P)
  | _ => none
theorem pureS_run {α : Type} {P : Program} (s : Sem α) (a : α) (h : pureS P s = some a) : ∀ w, s.run P w = .ok a w := by
  induction s with
  | pure b => intro w; simp [pureS] at h; simp [Sem.run, h]
  | program k ih => intro w; simp only [pureS] at h; simp only [Sem.run]; exact ih P h w
  | _ => simp [pureS] at h

/-! ### the operations that are spoken of by name -/
def RunV (P : Program) (s : Sem Value) (w : World) (K : Value → World → Prop) : Prop := ∃ v w', s.run P w = .ok v w' ∧ K v w'
def RunK (k : Kd) (P : Program) (s : Sem Value) (w : World) (K : k.Ty → World → Prop) : Prop := ∃ x w', s.run P w = .ok (k.v x) w' ∧ K x w'
def RunU (P : Program) (s : Sem Unit) (w : World) (K : World → Prop) : Prop := ∃ w', s.run P w = .ok () w' ∧ K w'
def LoadK (k : Kd) (P : Program) (t : TypeId) (p : Value) (w : World) (K : k.Ty → Prop) : Prop := ∃ x, (Instr.loadAt t p).run P w = .ok (k.v x) w ∧ K x
def StoreP (P : Program) (t : TypeId) (p v : Value) (w : World) (K : World → Prop) : Prop := ∃ w', (Instr.storeAt t p v).run P w = .ok () w' ∧ K w'
def CallP (P : Program) (f : FuncId) (args : List Value) (w : World) (K : Value → World → Prop) : Prop :=
  Calls P f args.toArray w fun e w' => ∃ v, e = .returned v ∧ K v w'
def TyP (k : Kd) (v : Value) (K : k.Ty → Prop) : Prop := ∃ x, v = k.v x ∧ K x
def TupP (ks : List Kd) (v : Value) (K : Tup ks → Prop) : Prop := ∃ t, v = .tuple (Tup.vs ks t).toArray ∧ K t
def ifB (t : Bool) (A B : Prop) : Prop := match t with | true => A | false => B
def nilCk (p : Option Addr) (K : Addr → Prop) : Prop := match p with | some a => K a | none => False
def callable (P : Program) (f : FuncId) : Bool := match P.funcs[f]? with
  | some fn => (fn.name != "runtime.NumGoroutine") && fn.body.isSome
  | none => false
def DynP (P : Program) (s : Sem Next) (w : World) (K : Value → World → Prop) : Prop :=
  ∃ f args w1, s.run P w = .ok (.enter f args) w1 ∧ Calls P f args w1 fun e w' => ∃ v, e = .returned v ∧ K v w'

/-- what a call's result is, by the result types -/
def resK (P : Program) (rts : List TypeId) (v : Value) (K : Value → Prop) : Prop :=
  match rts with
  | [] => TupP [] v fun _ => K (.tuple #[])
  | [t] => TyP (kdOf P t) v fun x => K ((kdOf P t).v x)
  | ts => TupP (ts.map (kdOf P)) v fun t => K (.tuple (Tup.vs (ts.map (kdOf P)) t).toArray)
theorem resK_elim {P : Program} {rts : List TypeId} {v : Value} {K : Value → Prop} (h : resK P rts v K) : K v := by
  unfold resK at h
  split at h
  · obtain ⟨_, rfl, h⟩ := h; exact h
  · obtain ⟨x, rfl, h⟩ := h; exact h
  · obtain ⟨x, rfl, h⟩ := h; exact h
def resTypes (P : Program) (f : FuncId) : List TypeId := match P.funcs[f]? with | some fn => fn.resultTypes.toList | none => []

def opsOf : Op → List Operand
  | .alloc _ | .ready _ | .waits _ => []
  | .move x | .assign x | .box _ x | .load _ x | .nilCheck x | .unOp _ _ x | .convert _ _ x | .sliceToArrayPointer _ x | .makeInterface _ x
  | .makeChan _ x | .fieldAddr _ x _ | .field _ x _ | .range _ x | .next x _ | .entry x | .typeAssert x _ _ _ | .extract x _ | .panic x | .recv _ x _ => [x]
  | .pick c a b => [c, a, b]
  | .build _ ps | .buildSlice _ _ ps => ps.toList.map (·.2)
  | .store _ a v | .binOp _ _ a v _ | .makeSlice _ a v | .indexAddr _ a v | .index _ a v | .lookup _ a v _ | .mapEntry _ a v | .send a v => [a, v]
  | .makeFunc _ first captured => first.toList ++ captured.toList
  | .makeMap _ r => r.toList
  | .slice _ x l h m => x :: (l.toList ++ h.toList ++ m.toList)
  | .mapUpdate _ m k v | .entryStore _ m k v | .insert _ m k v => [m, k, v]
  | .call c | .go c | .defer c => (match c.callee with | .value f => [f] | .invoke r _ => [r] | .builtin _ => []) ++ c.args.toList
  | .select _ _ => []
def isSel : Op → Bool | .select _ _ => true | _ => false
theorem callee_mem (c : Callee) (x : Operand) (h : x ∈ (match c with | .value f => #[f] | .invoke r _ => #[r] | .builtin _ => (#[] : Array Operand))) :
    x ∈ (match c with | .value f => [f] | .invoke r _ => [r] | .builtin _ => ([] : List Operand)) := by
  cases c
  · simpa using h
  · simpa using h
  · simp at h
theorem call_mem (c : Call) (x : Operand) (h : x ∈ c.operands) : x ∈ (match c.callee with | .value f => [f] | .invoke r _ => [r] | .builtin _ => []) ++ c.args.toList := by
  unfold Call.operands at h
  rw [Array.mem_append] at h
  rw [List.mem_append]
  exact h.imp (callee_mem _ _) (by simp)
theorem opsOf_mem (o : Op) (h : isSel o = false) : ∀ x ∈ o.operands, x ∈ opsOf o := by
  intro x hx
  cases o
  case call c => exact call_mem c x hx
  case go c => exact call_mem c x hx
  case defer c => exact call_mem c x hx
  all_goals simp_all [Op.operands, opsOf, isSel]
  all_goals grind
def allIn (e : Env) : List Operand → Bool
  | [] => true
  | x :: l => match evO e x with | some _ => allIn e l | none => false
theorem allIn_mem {e : Env} {l : List Operand} (h : allIn e l = true) : ∀ x ∈ l, ∃ v, evO e x = some v := by
  induction l with
  | nil => intro x hx; cases hx
  | cons y l ih =>
    simp only [allIn] at h
    split at h
    · rename_i v hv
      intro x hx
      cases hx with
      | head => exact ⟨v, hv⟩
      | tail _ hx => exact ih h x hx
    · cases h
theorem exec_of {n : Nat} {e : Env} {a : Act} (h : e.Of n a) (o : Oper) (hs : isSel o.op = false) (hi : allIn e (opsOf o.op) = true) :
    execOp a.eval o = execOp (evD e) o := by
  refine execOp_congr o (fun cs b hc => by rw [hc] at hs; cases hs) fun x hx => ?_
  obtain ⟨v, hv⟩ := allIn_mem hi x (opsOf_mem _ hs x hx)
  rw [h.ev hv]; simp [evD, hv]
end Go.Pk
