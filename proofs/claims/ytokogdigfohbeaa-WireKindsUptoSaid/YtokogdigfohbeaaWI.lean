/- Layer 17: the reader, its parts; panics. -/
import Derived.Test.YtokogdigfohbeaaW1
import Derived.Test.YtokogdigfohbeaaFV
namespace Go.Pk
open Go
theorem callX {P : Program} {f : FuncId} {args : List Value} {w : World} {K : Value → World → Prop} {X : PX} (h : CallP P f args w K) : CallX P f args w K X :=
  Calls.mono h fun _ _ ⟨v, he, hv⟩ => .inl ⟨v, he, hv⟩
theorem dynX {P : Program} {f : FuncId} {first captured : Array Value} {w : World} {K : Value → World → Prop} {X : PX} (hc : callable P f = true) (h : CallX P f (first ++ #[] ++ captured).toList w K X) :
    DynX P (callV (.func (.func f) first captured) #[]) w K X := by
  refine ⟨f, first ++ #[] ++ captured, w, ?_, h⟩
  have := callable_run hc (first ++ #[] ++ captured) w
  simpa [callV, Deferred.ofValue, invoke] using this
theorem rep_snoc {α : Type} {f : Tk α} {t : List UInt8} : ∀ (n p : Nat) (e : Int), f.rep (n + 1) t p e = ((f.rep n t p e).1 ++ [(f t (f.rep n t p e).2.1 (f.rep n t p e).2.2).1], (f t (f.rep n t p e).2.1 (f.rep n t p e).2.2).2)
  | 0, p, e => rfl
  | n + 1, p, e => by
    rw [rep_succ, rep_snoc n, rep_succ]
    rfl
theorem rep_err {α : Type} {f : Tk α} (hf : Er f) {t : List UInt8} {p : Nat} {e : Int} {i : Nat} (h : (f.rep i t p e).2.2 ≠ 0) : ∀ k, (f.rep (i + k) t p e).2.2 ≠ 0
  | 0 => h
  | k + 1 => by
    have ih := rep_err hf h k
    rw [← Nat.add_assoc, rep_snoc]
    show (f t _ _).2.2 ≠ 0
    rw [hf _ _ _ ih]; exact ih
theorem rep_len {α : Type} {f : Tk α} {t : List UInt8} : ∀ (n p : Nat) (e : Int), (f.rep n t p e).1.length = n
  | 0, _, _ => rfl
  | n + 1, p, e => by rw [rep_succ, List.length_cons, rep_len n]
/-- a taker stays within the bytes -/
def Bd {α : Type} (f : Tk α) : Prop := ∀ (t : List UInt8) (p : Nat) (e : Int), p ≤ t.length → (f t p e).2.1 ≤ t.length
theorem bdU : Bd takeU := fun _ _ _ h => (takeU_bound h).2.2.1
theorem bdI : Bd takeI := fun _ _ _ h => (takeU_bound h).2.2.1
theorem Bd.rep {α : Type} {f : Tk α} (h : Bd f) : ∀ n, Bd (f.rep n)
  | 0, _, _, _, hp => hp
  | n + 1, t, p, e, hp => by rw [rep_succ]; exact Bd.rep h n _ _ _ (h _ _ _ hp)
theorem Bd.dep {α β : Type} {f : Tk α} {g : α → Tk β} (h : Bd f) (hg : ∀ a, Bd (g a)) : Bd (f.dep g) := fun _ _ _ hp => hg _ _ _ _ (h _ _ _ hp)
theorem Bd.map {α β : Type} {f : Tk α} {g : α → β} (h : Bd f) : Bd (f.map g) := fun _ _ _ hp => h _ _ _ hp
theorem Bd.chk {α : Type} {f : Tk α} {er : α → Int} (h : Bd f) : Bd (f.chk er) := fun _ _ _ hp => h _ _ _ hp
theorem bdCnt : Bd tkCnt := bdU.chk
theorem bdMany {α : Type} {f : Tk α} (h : Bd f) : Bd (tkMany f) := (bdCnt.dep fun _ => h.rep _).map
end Go.Pk
namespace Go.Proofs.Ytokogdigfohbeaa
open Go Go.Pk
theorem bdF : Bd takeF := fun _ _ _ h => takeF_bound h
theorem bdB : Bd takeB := fun _ _ _ h => takeB_bound h
theorem bdL : Bd takeL := fun _ _ _ h => takeL_bound h
theorem bdBt : Bd tkBt := bdB.chk.map
theorem bdEn : Bd tkEn := bdI.dep fun _ => bdB
theorem bdAb : Bd tkAb := bdU.dep fun _ => bdI.dep fun _ => bdI
/-- the panic of an error -/
abbrev pe (x : Int) : List PanicEntry := [{ v := .iface T_api_Errno (.int .i64 x), recovered := false }]
abbrev RwB (b br : Nat) : Res := Blk b [.pointer (some ⟨br, 0, none⟩)] T_wire_reader
/-- what is owed where it is given up -/
def Gx (W : World) (l : List Res) (X : PX) : Prop := ∀ (y : Int) w', y ≠ 0 → Sat W w' l → X (pe y) w'
section
variable {W w : World} {l : List Res} {K : Value → World → Prop} {X : PX} {b br p : Nat} {e : Int} {t : List UInt8}
theorem Gx.cons {R : Res} (h : Gx W l X) : Gx W (R :: l) X := fun y w' hy hs => h y w' hy hs.tail
theorem xfail_ok {x : Int} (h : Sat W w (RdrR br t p e :: RwB b br :: l)) (hp : p ≤ t.length) (hx : e = 0 → x ≠ 0) (hX : Gx W l X) : CallX P F_wire_reader_fail [.pointer (some ⟨b, 0, none⟩), .int .i64 x] w K X := by
  apply c_wire_reader_fail
  unfold S_wire_reader_fail
  simp only [nilCk]
  have h1 := h.up 1
  refine ldB h1 (i := 0) (x := some ⟨br, 0, none⟩) ?_
  refine callX (dState_ok h hp fun w2 h2 => ⟨(_, _, _, ()), rfl, ?_⟩)
  refine ifB_bne (fun hne => ⟨_, _, rfl, hX _ _ hne h2.tail.tail⟩) fun he => ⟨_, _, rfl, hX _ _ (hx he) h2.tail.tail⟩
theorem tkCnt_le {t : List UInt8} {p : Nat} {e : Int} (h : (takeU t p e).1 ≤ 512) : tkCnt t p e = takeU t p e := by
  unfold tkCnt Tk.chk
  dsimp only
  rw [if_neg (by omega), or0_r]
theorem tkCnt_gt {t : List UInt8} {p : Nat} {e : Int} (h : (takeU t p e).1 > 512) : (tkCnt t p e).2.2 ≠ 0 := by
  unfold tkCnt Tk.chk
  dsimp only
  rw [if_pos h]
  unfold or0
  split
  · decide
  · assumption
theorem xcount_ok (h : Sat W w (RdrR br t p e :: RwB b br :: l)) (hp : p ≤ t.length) (ht : t.length ≤ 140737488355328) (hX : (tkCnt t p e).2.2 ≠ 0 → Gx W l X)
    (hK : ∀ w', (tkCnt t p e).1 ≤ 512 → Sat W w' (RdrR br t (tkCnt t p e).2.1 (tkCnt t p e).2.2 :: RwB b br :: l) → K (.int .i64 (tkCnt t p e).1) w') : CallX P F_wire_reader_count [.pointer (some ⟨b, 0, none⟩)] w K X := by
  apply c_wire_reader_count
  unfold S_wire_reader_count
  simp only [nilCk]
  have h1 := h.up 1
  refine ldB h1 (i := 0) (x := some ⟨br, 0, none⟩) ?_
  refine callX (dUint_ok h hp ht fun w2 h2 => tyI ?_)
  have hb := takeU_bound (e := e) hp
  refine ifB_dec (fun hgt => ?_) fun hle => ?_
  · exact xfail_ok h2 hb.2.2.1 (fun _ => by decide) (hX (tkCnt_gt (by omega)))
  · have hl : (takeU t p e).1 ≤ 512 := by omega
    rw [w_i64 (by omega) (by omega)]
    have := hK w2
    rw [tkCnt_le hl] at this
    exact this hl h2
theorem many_gen {α β : Type} (E : El α) (f : Tk β) (dat : α → β) {Ts by_ : Nat} (et : ET P Ts E.T E.sz by_) (h0 : 0 < E.sz) (hby : 600 * by_ ≤ 140737488355328) (hEr : Er f) (hBd : Bd f) {fv : Value}
    (hbs : ∀ (x : α) w, (Instr.buildSlice Ts 1 #[(0, .agg (E.cells x).toArray)]).run P w = .ok (.slice (some ⟨w.heap.size, 0, none⟩) 1 1) (w.alloc (.cells (E.cells x).toArray E.T)))
    (hone : ∀ {R : Res} {w : World} {p : Nat} {e : Int} {K : Value → World → Prop}, Sat W w (RdrR br t p e :: RwB b br :: R :: l) → p ≤ t.length → ((f t p e).2.2 ≠ 0 → Gx W (R :: l) X) →
      (∀ x w', dat x = (f t p e).1 → Sat W w' (E.own x :: RdrR br t (f t p e).2.1 (f t p e).2.2 :: RwB b br :: R :: l) → K (.agg (E.cells x).toArray) w') → DynX P (callV fv #[]) w K X)
    (h : Sat W w (RdrR br t p e :: RwB b br :: l)) (hp : p ≤ t.length) (ht : t.length ≤ 140737488355328) (hX : (tkMany f t p e).2.2 ≠ 0 → Gx W l X)
    (hK : ∀ s xs w', xs.map dat = (tkMany f t p e).1 → Sat W w' (OwnS E s xs :: RdrR br t (tkMany f t p e).2.1 (tkMany f t p e).2.2 :: RwB b br :: l) → K s.v w') :
    CallX P F_wire_reader_count [.pointer (some ⟨b, 0, none⟩)] w (fun (v0 : Value) w1 => TyP (.int .i64) v0 fun (n2 : Int) =>
      LoopP (T := Sl × Int × Unit) (some (⟨none, 0, 0⟩, (0, ()))) w1 fun next3 t4 w5 =>
       ifB (decide (t4.snd.fst < n2))
        (DynX P (Pk.callV fv #[]) w5 (fun (v6 : Value) w7 =>
         TyP .val v6 fun (v8 : Value) =>
          RunK .sl P (Instr.buildSlice Ts 1 #[(0, v8)]) w7 fun (s9 : Sl) w10 =>
           RunK .sl P (Builtin.append_ #[Ts, Ts] Ts #[t4.fst.v, s9.v]) w10 fun (s11 : Sl) w12 =>
            next3 (some (s11, ((IntKind.i64.wrap (t4.snd.fst + 1)), ()))) w12) X)
        (K t4.fst.v w5)) X := by
  have eM : tkMany f t p e = f.rep (tkCnt t p e).1 t (tkCnt t p e).2.1 (tkCnt t p e).2.2 := rfl
  refine xcount_ok h hp ht (fun hne => hX ?_) fun w1 hle h1 => tyI ?_
  · rw [eM, hEr.rep _ _ _ _ hne]; exact hne
  have hcb := bdCnt t p e hp
  rw [eM] at hX hK
  generalize tkCnt t p e = c at h1 hX hK hle hcb
  obtain ⟨n, p1, e1⟩ := c
  simp only at h1 hX hK hle hcb ⊢
  clear eM h
  refine ⟨fun z w' => ∃ (i : Nat) (xs : List α), z.2.1 = i ∧ i ≤ n ∧ xs.map dat = (f.rep i t p1 e1).1 ∧ Sat W w' (OwnS E z.1 xs :: RdrR br t (f.rep i t p1 e1).2.1 (f.rep i t p1 e1).2.2 :: RwB b br :: l), fun z _ => n - z.2.1.toNat, ⟨0, [], rfl, Nat.zero_le _, rfl, own_nil h1⟩, ?_⟩
  rintro ⟨s, i', u⟩ w2 ⟨i, xs, hi, hil, hxs, h2⟩
  simp only at hi h2 ⊢
  subst hi
  have hib := hBd.rep i t p1 e1 hcb
  refine ifB_dec (fun hlt => ?_) fun hge => ?_
  · have hlt' : i < n := by omega
    have h2' : Sat W w2 (RdrR br t (f.rep i t p1 e1).2.1 (f.rep i t p1 e1).2.2 :: RwB b br :: OwnS E s xs :: l) := (h2.up 2).up 2
    refine hone h2' hib (fun hne => (hX ?_).cons) fun x w3 hx h3 => tyI (k := .val) ?_
    · have h4 : (f.rep (i + 1) t p1 e1).2.2 ≠ 0 := by rw [rep_snoc]; exact hne
      have h5 := rep_err hEr h4 (n - (i + 1))
      rwa [show i + 1 + (n - (i + 1)) = n by omega] at h5
    · refine bsB h3 (cs := E.cells x) (e := E.T) (fun w => hbs x w) fun g w4 h4 => ?_
      have h5 : Sat W w4 (Blk g (E.cells x) E.T :: E.own x :: OwnS E s xs :: RdrR br t (f t (f.rep i t p1 e1).2.1 (f.rep i t p1 e1).2.2).2.1 (f t (f.rep i t p1 e1).2.1 (f.rep i t p1 e1).2.2).2.2 :: RwB b br :: l) := ((h4.up 4).up 2).up 2
      have hxl : xs.length = i := by
        have := congrArg List.length hxs
        rwa [List.length_map, rep_len] at this
      have hm : (xs.length + 1) * by_ ≤ 600 * by_ := Nat.mul_le_mul_right _ (by omega)
      refine own_push et rfl rfl h0 h5 (by omega) (by omega) fun s' w5 h6 => ?_
      rw [w_i64 (by omega) (by omega)]
      refine ⟨⟨i + 1, xs ++ [x], rfl, by omega, ?_, ?_⟩, by omega⟩
      · rw [rep_snoc, List.map_append, hxs, List.map_singleton, hx]
      · rw [rep_snoc]; exact h6
  · have : i = n := by omega
    subst this
    exact hK s xs w2 hxs h2
end
end Go.Proofs.Ytokogdigfohbeaa
