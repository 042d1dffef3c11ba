/- Texts of mine, put together: LA, LB, LC, LD, LE, LF. -/
import Derived.Test.YtbpcichakchpkaaGreatDoorE3
import Derived.Test.YtbpcichakchpkaaGreatDoorE2
/- Layer 3: the law of one number after another. -/
namespace Go.Proofs.YtbpcichakchpkaaGreatDoor
open Go Go.Pk
section
variable {W w : World} {l : List Res} {K : Value → World → Prop}
theorem tup2 {s : Sl} {e : Int} {K : Sl × Int × Unit → Prop} (h : K (s, e, ())) : TupP [.sl, .int .i64] (.tuple #[s.v, .int .i64 e]) K := ⟨_, rfl, h⟩
theorem wOut0_ok {b : Nat} {o : List UInt8} (h : Sat W w (WrR b o 0 :: l)) (hlen : o.length ≤ 140737488355328)
    (h1 : ∀ s w', Sat W w' (BsR s o :: WrR b o 0 :: l) → K (.tuple #[s.v, .int .i64 0]) w') : CallP P F_codec_Writer_Out [.pointer (some ⟨b, 0, none⟩)] w K :=
  wOut_ok h hlen (fun h => absurd rfl h) fun _ => h1
theorem uintB_300 : uintB 300 = [172, 2] := by rw [uintB_big (by decide), uintB_small (by decide)]; rfl
end
end Go.Proofs.YtbpcichakchpkaaGreatDoor

/- Layer 3: the laws of one's own bytes and of taking. -/
namespace Go.Proofs.YtbpcichakchpkaaGreatDoor
open Go Go.Pk
section
variable {W w : World} {l : List Res} {K : Value → World → Prop}
theorem copyBytes {x : Sl} {n : List UInt8} {ty : TypeId} {K : Sl → World → Prop} (h : Sat W w l) (hx : Rd W l x 1 (n.map vB)) (hb : n.length ≤ 140737488355328) (hK : ∀ s w', Sat W w' (BsR s n :: l) → K s w') :
    RunK .sl P (Instr.buildSlice T_sl_uint8 0 #[]) w fun s1 w1 => RunK .sl P (Builtin.append_ #[T_sl_uint8, T_sl_uint8] ty #[s1.v, x.v]) w1 K := by
  refine bsB h (cs := []) (e := T_uint8) (fun w => by kernel_rfl) fun g w1 h1 => ?_
  have h2 : Sat W w1 (BsR ⟨some ⟨g, 0, none⟩, 0, 0⟩ [] :: l) := h1.mkSlr rfl (by simp) (by simp) (by simp) rfl (by simp)
  refine appBytes h2 (hx w1 h1.tail) (by simpa using hb) fun s w3 h3 => hK s w3 (by simpa using h3)
theorem appInts {s x : Sl} {o n : List Int} {ty : TypeId} {K : Sl → World → Prop} (h : Sat W w (IsR s o :: l)) (hx : RdC w x 1 (n.map vI)) (hb : (o.length + n.length) * 8 ≤ 140737488355328)
    (hK : ∀ s' w', Sat W w' (IsR s' (o ++ n) :: l) → K s' w') : RunK .sl P (Builtin.append_ #[T_sl_int, T_sl_int] ty #[s.v, x.v]) w K := by
  have h1 := Sat.isLen h
  have h2 := hx.1
  simp at h2
  refine appB et_ints (by decide) h hx (vI_all n) (by omega) (by omega) fun s' w' h' _ => hK s' w' (by rw [IsR, List.map_append]; exact h')
theorem copyInts {x : Sl} {n : List Int} {ty : TypeId} {K : Sl → World → Prop} (h : Sat W w l) (hx : Rd W l x 1 (n.map vI)) (hb : n.length * 8 ≤ 140737488355328) (hK : ∀ s w', Sat W w' (IsR s n :: l) → K s w') :
    RunK .sl P (Instr.buildSlice T_sl_int 0 #[]) w fun s1 w1 => RunK .sl P (Builtin.append_ #[T_sl_int, T_sl_int] ty #[s1.v, x.v]) w1 K := by
  refine bsB h (cs := []) (e := T_int) (fun w => by kernel_rfl) fun g w1 h1 => ?_
  have h2 : Sat W w1 (IsR ⟨some ⟨g, 0, none⟩, 0, 0⟩ [] :: l) := h1.mkSlr rfl (by simp) (by simp) (by simp) rfl (by simp)
  refine appInts h2 (hx w1 h1.tail) (by simpa using hb) fun s w3 h3 => hK s w3 (by simpa using h3)
/-- all bytes of a slice of one's own are overwritten with one -/
theorem fillLoop {s : Sl} {o : List UInt8} (c : UInt8) {K : World → Prop} (h : Sat W w (BsR s o :: l)) (hK : ∀ w', Sat W w' l → K w') :
    LoopP (T := Int × Unit) (some (0, ())) w fun next t w1 =>
      ifB (decide (t.fst < (↑s.len : Int)))
       (RunQ .addr P (Instr.indexAt T_sl_uint8 s.v (.int .i64 t.fst)) w1 fun (a : Addr) =>
        StoreP P T_uint8 (.pointer (some a)) (.int .u8 (c.toNat : Int)) w1 fun w2 => next (some ((IntKind.i64.wrap (t.fst + 1)), ())) w2)
       (K w1) := by
  refine ⟨fun z w' => ∃ (i : Nat) (o' : List UInt8), z.1 = i ∧ i ≤ s.len ∧ Sat W w' (BsR s o' :: l), fun z _ => s.len - z.1.toNat, ⟨0, o, rfl, by omega, h⟩, ?_⟩
  rintro ⟨i', u⟩ w1 ⟨i, o', hi, hil, h1⟩
  simp only at hi ⊢
  subst hi
  have hsl := Sat.bsLen h1
  refine ifB_dec (fun hlt => ?_) fun hge => hK w1 h1.tail
  refine ixst et_bytes h1 (by omega) (by omega) fun w2 h2 => ?_
  rw [w_i64 (by omega) (by omega)]
  refine ⟨⟨i + 1, o'.set i c, rfl, by omega, ?_⟩, by omega⟩
  have e : (o'.map vB).set i (vB c) = (o'.set i c).map vB := by rw [List.map_set]
  rw [BsR, ← e]; exact h2
end
end Go.Proofs.YtbpcichakchpkaaGreatDoor

/- Layer 3: the law of taking what any bytes hold. -/
namespace Go.Pk
open Go
theorem takeF_bound {t : List UInt8} {p : Nat} {e : Int} (hp : p ≤ t.length) : (takeF t p e).2.1 ≤ t.length := by
  have := takeU_bound (e := e) hp
  simp only [takeF]; split <;> simp <;> omega
theorem takeX_bound {t : List UInt8} {p : Nat} {e : Int} (hp : p ≤ t.length) : (takeX t p e).2.1 ≤ t.length := by
  simp only [takeX]; split
  · exact hp
  · split
    · exact hp
    · simp; omega
theorem takeB_bound {t : List UInt8} {p : Nat} {e : Int} (hp : p ≤ t.length) : (takeB t p e).2.1 ≤ t.length := by
  have := takeU_bound (e := e) hp
  simp only [takeB]; split
  · simp; omega
  · split
    · simp; omega
    · split <;> simp <;> omega
theorem takeN_bound {t : List UInt8} : ∀ (n p : Nat) (acc : List Int), p ≤ t.length → (takeN t n p acc).2.1 ≤ t.length := by
  intro n
  induction n with
  | zero => intro p acc hp; simpa [takeN] using hp
  | succ n ih =>
    intro p acc hp
    have hb := takeU_bound (e := 0) hp
    have e1 : (takeI t p 0).2 = (takeU t p 0).2 := rfl
    simp only [takeN]
    split
    · rw [e1]; exact hb.2.2.1
    · exact ih _ _ (by rw [e1]; exact hb.2.2.1)
theorem takeL_bound {t : List UInt8} {p : Nat} {e : Int} (hp : p ≤ t.length) : (takeL t p e).2.1 ≤ t.length := by
  have := takeU_bound (e := e) hp
  simp only [takeL]; split
  · simp; omega
  · split
    · simp; omega
    · exact takeN_bound _ _ _ (by omega)
/-- where a reader stands behind one taking -/
def takeS (o : Int) (t : List UInt8) (p : Nat) (e : Int) : Nat × Int :=
  if o = 0 then (takeU t p e).2 else if o = 1 then (takeI t p e).2 else if o = 2 then (takeF t p e).2 else if o = 3 then (takeX t p e).2 else if o = 4 then (takeB t p e).2 else (takeL t p e).2
theorem takeS_bound {o : Int} {t : List UInt8} {p : Nat} {e : Int} (hp : p ≤ t.length) : (takeS o t p e).1 ≤ t.length := by
  have h1 := takeU_bound (e := e) hp
  unfold takeS
  split
  · exact h1.2.2.1
  · split
    · exact h1.2.2.1
    · split
      · exact takeF_bound hp
      · split
        · exact takeX_bound hp
        · split
          · exact takeB_bound hp
          · exact takeL_bound hp
end Go.Pk
namespace Go.Proofs.YtbpcichakchpkaaGreatDoor
open Go Go.Pk
section
variable {W w : World} {l : List Res} {K : Value → World → Prop} {b c p : Nat} {t : List UInt8} {e : Int} {s : Sl}
end
end Go.Proofs.YtbpcichakchpkaaGreatDoor

/- Layer 3: the law's own way of laying an item; the writer that is none. -/
namespace Go.Proofs.YtbpcichakchpkaaGreatDoor
open Go Go.Pk
/-- a writer, or none -/
def WrN (p : Option Nat) (o : List UInt8) (e : Int) : Res := match p with | some b => WrR b o e | none => Pure True
def wp (p : Option Nat) : Option Addr := p.map fun b => ⟨b, 0, none⟩
structure It where
  k : Int
  u : Int
  i : Int
  f : Bool
  b : Sl
  n : Sl
  bs : List UInt8
  ns : List Int
def It.cells (x : It) : List Value := [.int .i64 x.k, .int .u64 x.u, .int .i64 x.i, .bool x.f, x.b.v, x.n.v]
def It.ok (x : It) (W : World) : Prop := 0 ≤ x.u ∧ x.u < 18446744073709551616 ∧ -9223372036854775808 ≤ x.i ∧ x.i < 9223372036854775808 ∧ (∀ i ∈ x.ns, -9223372036854775808 ≤ i ∧ i < 9223372036854775808) ∧ RdC W x.b 1 (x.bs.map vB) ∧ RdC W x.n 1 (x.ns.map vI)
def It.form (x : It) : List UInt8 := if x.k = 0 then uintB x.u.toNat else if x.k = 1 then intB x.i else if x.k = 2 then flagB x.f else if x.k = 3 then fixedB (x.u.toNat % 4294967296) else if x.k = 4 then bytesB x.bs else intsB x.ns
def It.err (x : It) (e : Int) : Int := if x.k = 4 then wErr e x.bs.length else e
/-- how much an item weighs -/
def It.wt (x : It) : Nat := x.bs.length + x.ns.length
theorem flat_len : ∀ (m : List Int), (∀ i ∈ m, -9223372036854775808 ≤ i ∧ i < 9223372036854775808) → (m.flatMap intB).length ≤ 10 * m.length := by
  intro m
  induction m with
  | nil => simp
  | cons x m ih =>
    intro hm
    have := ih fun i hi => hm i (by simp [hi])
    have h3 := uintB_len10 (zig x) (zig_lt (hm x (by simp)).1 (hm x (by simp)).2)
    simp only [List.flatMap_cons, List.length_append, List.length_cons, intB] at this ⊢; omega
theorem form_len {x : It} {W : World} (h : x.ok W) (hw : x.wt < 2 ^ 40) : x.form.length ≤ 10 + 10 * x.wt := by
  obtain ⟨h0, h1, h2, h3, h4, h5, h6⟩ := h
  simp only [It.wt] at hw ⊢
  unfold It.form
  split
  · have := uintB_len10 x.u.toNat (by omega); omega
  split
  · have := uintB_len10 (zig x.i) (zig_lt h2 h3); simp only [intB]; omega
  split
  · simp [flagB]; omega
  split
  · simp [fixedB]; omega
  split
  · have := uintB_len10 x.bs.length (by omega); simp only [bytesB, List.length_append]; omega
  · have := uintB_len10 x.ns.length (by omega)
    have := flat_len x.ns h4
    simp only [intsB, List.length_append]; omega
section
variable {W w : World} {l : List Res} {K : Value → World → Prop} {p : Option Nat} {o : List UInt8} {e : Int}
theorem nUint_ok {n : Int} (h : Sat W w (WrN p o e :: l)) (h0 : 0 ≤ n) (h1 : n < 18446744073709551616) (hlen : o.length + 10 ≤ 140737488355328)
    (hK : ∀ w', Sat W w' (WrN p (o ++ uintB n.toNat) e :: l) → K (.tuple #[]) w') : CallP P F_codec_Writer_Uint [.pointer (wp p), .int .u64 n] w K := by
  cases p with
  | some b => exact wUint_ok h h0 h1 hlen hK
  | none => apply c_codec_Writer_Uint; exact hK w h
theorem nInt_ok {n : Int} (h : Sat W w (WrN p o e :: l)) (h0 : -9223372036854775808 ≤ n) (h1 : n < 9223372036854775808) (hlen : o.length + 10 ≤ 140737488355328)
    (hK : ∀ w', Sat W w' (WrN p (o ++ intB n) e :: l) → K (.tuple #[]) w') : CallP P F_codec_Writer_Int [.pointer (wp p), .int .i64 n] w K := by
  cases p with
  | some b => exact wInt_ok h h0 h1 hlen hK
  | none =>
    apply c_codec_Writer_Int
    unfold S_codec_Writer_Int
    rw [zig_code h0 h1]
    have := zig_lt h0 h1
    exact nUint_ok (p := none) h (by omega) (by omega) hlen fun w1 h1 => tupU rfl (hK w1 h1)
theorem nFlag_ok {f : Bool} (h : Sat W w (WrN p o e :: l)) (hlen : o.length + 10 ≤ 140737488355328)
    (hK : ∀ w', Sat W w' (WrN p (o ++ flagB f) e :: l) → K (.tuple #[]) w') : CallP P F_codec_Writer_Flag [.pointer (wp p), .bool f] w K := by
  cases p with
  | some b => exact wFlag_ok h hlen hK
  | none =>
    apply c_codec_Writer_Flag
    unfold S_codec_Writer_Flag
    cases f
    · exact nUint_ok (p := none) h (by omega) (by omega) hlen fun w1 h1 => tupU rfl (hK w1 h1)
    · exact nUint_ok (p := none) h (by omega) (by omega) hlen fun w1 h1 => tupU rfl (hK w1 h1)
theorem nFixed_ok {n : Int} (h : Sat W w (WrN p o e :: l)) (h0 : 0 ≤ n) (h1 : n < 4294967296) (hlen : o.length + 10 ≤ 140737488355328)
    (hK : ∀ w', Sat W w' (WrN p (o ++ fixedB n.toNat) e :: l) → K (.tuple #[]) w') : CallP P F_codec_Writer_Fixed [.pointer (wp p), .int .u32 n] w K := by
  cases p with
  | some b => exact wFixed_ok h h0 h1 hlen hK
  | none => apply c_codec_Writer_Fixed; exact hK w h
theorem nBytes_ok {n : List UInt8} {x : Sl} (h : Sat W w (WrN p o e :: l)) (hx : Rd W l x 1 (n.map vB)) (hlen : o.length + 10 + n.length ≤ 140737488355328)
    (hK : ∀ w', Sat W w' (WrN p (o ++ bytesB n) (wErr e n.length) :: l) → K (.tuple #[]) w') : CallP P F_codec_Writer_Bytes [.pointer (wp p), x.v] w K := by
  cases p with
  | some b => exact wBytes_ok h hx hlen hK
  | none => apply c_codec_Writer_Bytes; exact hK w h
end
end Go.Proofs.YtbpcichakchpkaaGreatDoor

/- Layer 3: the law of laying, and of the writer and reader that are none. -/
namespace Go.Proofs.YtbpcichakchpkaaGreatDoor
open Go Go.Pk
theorem ops_get : ∀ (its : List It) (i j : Nat) (hi : i < its.length) (u : Value), its[i].cells[j]? = some u → (its.flatMap It.cells)[i * 6 + j]? = some u
  | x :: its, 0, j, _, u, h => by
    simp only [List.getElem_cons_zero] at h
    simp only [List.flatMap_cons, Nat.zero_mul, Nat.zero_add]
    have : j < x.cells.length := by rcases Nat.lt_or_ge j x.cells.length with hlt | hge; exact hlt; rw [List.getElem?_eq_none hge] at h; cases h
    rw [List.getElem?_append_left this]; exact h
  | x :: its, i + 1, j, hi, u, h => by
    have := ops_get its i j (by simpa using hi) u (by simpa using h)
    have hl : x.cells.length = 6 := rfl
    simp only [List.flatMap_cons]
    rw [List.getElem?_append_right (by omega), hl, show (i + 1) * 6 + j - 6 = i * 6 + j by omega]; exact this
theorem ops_len : ∀ (its : List It), (its.flatMap It.cells).length = its.length * 6
  | [] => rfl
  | x :: its => by
    have := ops_len its
    have hl : x.cells.length = 6 := rfl
    simp only [List.flatMap_cons, List.length_append, List.length_cons]; omega
def itW : List It → Nat
  | [] => 0
  | x :: l => 1 + x.wt + itW l
theorem itW_mem : ∀ {l : List It} {x : It}, x ∈ l → x.wt ≤ itW l
  | y :: l, x, h => by
    rcases List.mem_cons.1 h with rfl | h
    · simp only [itW]; omega
    · have := itW_mem h; simp only [itW]; omega
theorem itW_len : ∀ (l : List It), l.length ≤ itW l
  | [] => Nat.le_refl _
  | y :: l => by have := itW_len l; simp only [itW, List.length_cons]; omega
theorem itW_take : ∀ (l : List It) (i : Nat), itW (l.take i) ≤ itW l
  | [], i => by simp
  | y :: l, 0 => by simp [itW]
  | y :: l, i + 1 => by have := itW_take l i; simp only [List.take_succ_cons, itW]; omega
def forms (l : List It) : List UInt8 := l.flatMap It.form
theorem forms_len {W : World} : ∀ {l : List It}, (∀ x ∈ l, x.ok W) → itW l < 2 ^ 40 → (forms l).length ≤ 10 * itW l
  | [], _, _ => by simp [forms]
  | y :: l, h, hw => by
    simp only [itW] at hw
    have h1 := forms_len (l := l) (fun x hx => h x (by simp [hx])) (by omega)
    have h2 := form_len (h y (by simp)) (by omega)
    simp only [forms, List.flatMap_cons, List.length_append, itW] at h1 ⊢; omega
theorem forms_succ {l : List It} {i : Nat} (hi : i < l.length) : forms (l.take (i + 1)) = forms (l.take i) ++ l[i].form := by
  simp only [forms]
  rw [List.take_add_one, List.getElem?_eq_getElem hi, List.flatMap_append]
  simp
section
variable {W w : World} {l : List Res} {K : Value → World → Prop}
end
end Go.Proofs.YtbpcichakchpkaaGreatDoor

/- Layer 3: the laws of taking back what was laid, and of what was cut off. -/
namespace Go.Pk
open Go
theorem remR {P : Program} {w : World} {k : IntKind} {x y : Int} {t : TypeId} {o1 o2 : Operand} {K : Int → World → Prop} (hy : y ≠ 0) (hK : K (x.tmod y) w) :
    RunK (.int k) P (do (eqGuard .rem t o1 o2 (.int k x) (.int k y)); (binOp .rem t (.int k x) (.int k y))) w K := by
  refine ⟨_, w, ?_, hK⟩
  simp [eqGuard, binOp, hy, Op.intDiv, Sem.run]
end Go.Pk
namespace Go.Proofs.YtbpcichakchpkaaGreatDoor
open Go Go.Pk
def It.small (x : It) : Prop := x.bs.length ≤ 4096 ∧ x.ns.length ≤ 4096
theorem takeS_at {x : It} {W : World} (hok : x.ok W) (hs : x.small) {t r : List UInt8} {p : Nat} (h : t.drop p = x.form ++ r) : takeS x.k t p 0 = (p + x.form.length, 0) := by
  obtain ⟨h0, h1, h2, h3, h4, _, _⟩ := hok
  unfold It.form at h ⊢
  unfold takeS
  split
  · rename_i hk; rw [if_pos hk] at h; rw [takeU_at h (by omega)]
  rename_i hk; rw [if_neg hk] at h
  split
  · rename_i hk; rw [if_pos hk] at h; rw [takeI_at h h2 h3]
  rename_i hk; rw [if_neg hk] at h
  split
  · rename_i hk; rw [if_pos hk] at h; rw [takeF_at h]; simp [flagB]
  rename_i hk; rw [if_neg hk] at h
  split
  · rename_i hk; rw [if_pos hk] at h; rw [takeX_at h (by omega)]; simp [fixedB]
  rename_i hk; rw [if_neg hk] at h
  split
  · rename_i hk; rw [if_pos hk] at h; rw [takeB_at h hs.1]
  rename_i hk; rw [if_neg hk] at h
  rw [takeL_at h hs.2 h4]
theorem takeS_cut {x : It} {W : World} (hok : x.ok W) (hs : x.small) {t : List UInt8} {p m : Nat} (h : t.drop p = x.form.take m) (hm : m < x.form.length) : (takeS x.k t p 0).2 ≠ 0 := by
  obtain ⟨h0, h1, h2, h3, h4, _, _⟩ := hok
  unfold It.form at h hm
  unfold takeS
  split
  · rename_i hk; rw [if_pos hk] at h hm; exact (takeU_cut h (by omega) hm).2
  rename_i hk; rw [if_neg hk] at h hm
  split
  · rename_i hk; rw [if_pos hk] at h hm; exact (takeU_cut h (zig_lt h2 h3) hm).2
  rename_i hk; rw [if_neg hk] at h hm
  split
  · rename_i hk; rw [if_pos hk] at h hm; exact takeF_cut h hm
  rename_i hk; rw [if_neg hk] at h hm
  split
  · rename_i hk; rw [if_pos hk] at h hm; exact takeX_cut h hm
  rename_i hk; rw [if_neg hk] at h hm
  split
  · rename_i hk; rw [if_pos hk] at h hm; exact takeB_cut h hs.1 hm
  rename_i hk; rw [if_neg hk] at h hm
  exact takeL_cut h hs.2 h4 hm
theorem takeS_err {o : Int} {t : List UInt8} {p : Nat} {e : Int} (h : e ≠ 0) : takeS o t p e = (p, e) := by
  unfold takeS
  split
  · rw [takeU_err h]
  split
  · rw [takeI_err h]
  split
  · rw [takeF_err h]
  split
  · rw [takeX_err h]
  split
  · rw [takeB_err h]
  · rw [takeL_err h]
theorem forms_drop {its : List It} {i : Nat} (hi : i < its.length) : (forms its).drop (forms (its.take i)).length = its[i].form ++ forms (its.drop (i + 1)) := by
  have e : forms its = forms (its.take i) ++ (its[i].form ++ forms (its.drop (i + 1))) := by
    have := congrArg (List.flatMap It.form) (List.take_append_drop i its).symm
    rw [List.flatMap_append, List.drop_eq_getElem_cons hi, List.flatMap_cons] at this
    exact this
  rw [e, List.drop_left]
section
variable {W w : World} {l : List Res} {K : Value → World → Prop}
/-- one round of laying, where all that is long has been refused -/
theorem small_err {x : It} (h : x.small) : x.err 0 = 0 := by
  unfold It.err wErr
  split
  · rw [if_neg (by have := h.1; omega)]
  · rfl
end
end Go.Proofs.YtbpcichakchpkaaGreatDoor
