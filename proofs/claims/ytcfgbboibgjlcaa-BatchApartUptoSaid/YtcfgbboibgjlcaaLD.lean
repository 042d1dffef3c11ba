/- Layer 3: the law's own way of laying an item; the writer that is none. -/
import Derived.Test.YtcfgbboibgjlcaaLC
import Derived.Test.YtcfgbboibgjlcaaPkS5
namespace Go.Proofs.Ytcfgbboibgjlcaa
open Go Go.Pk
/-- a writer, or none -/
def WrN (p : Option Nat) (o : List UInt8) (e : Int) : Res := match p with | some b => WrR b o e | none => Pure True
def wp (p : Option Nat) : Option Addr := p.map fun b => ⟨b, 0, none⟩
structure It where
  k : Int
  u : Int
  i : Int
  f : Bool
  b : Sl
  n : Sl
  bs : List UInt8
  ns : List Int
def It.cells (x : It) : List Value := [.int .i64 x.k, .int .u64 x.u, .int .i64 x.i, .bool x.f, x.b.v, x.n.v]
def It.ok (x : It) (W : World) : Prop := 0 ≤ x.u ∧ x.u < 18446744073709551616 ∧ -9223372036854775808 ≤ x.i ∧ x.i < 9223372036854775808 ∧ (∀ i ∈ x.ns, -9223372036854775808 ≤ i ∧ i < 9223372036854775808) ∧ RdC W x.b 1 (x.bs.map vB) ∧ RdC W x.n 1 (x.ns.map vI)
def It.form (x : It) : List UInt8 := if x.k = 0 then uintB x.u.toNat else if x.k = 1 then intB x.i else if x.k = 2 then flagB x.f else if x.k = 3 then fixedB (x.u.toNat % 4294967296) else if x.k = 4 then bytesB x.bs else intsB x.ns
def It.err (x : It) (e : Int) : Int := if x.k = 4 then wErr e x.bs.length else e
/-- how much an item weighs -/
def It.wt (x : It) : Nat := x.bs.length + x.ns.length
theorem flat_len : ∀ (m : List Int), (∀ i ∈ m, -9223372036854775808 ≤ i ∧ i < 9223372036854775808) → (m.flatMap intB).length ≤ 10 * m.length := by
  intro m
  induction m with
  | nil => simp
  | cons x m ih =>
    intro hm
    have := ih fun i hi => hm i (by simp [hi])
    have h3 := uintB_len10 (zig x) (zig_lt (hm x (by simp)).1 (hm x (by simp)).2)
    simp only [List.flatMap_cons, List.length_append, List.length_cons, intB] at this ⊢; omega
theorem form_len {x : It} {W : World} (h : x.ok W) (hw : x.wt < 2 ^ 40) : x.form.length ≤ 10 + 10 * x.wt := by
  obtain ⟨h0, h1, h2, h3, h4, h5, h6⟩ := h
  simp only [It.wt] at hw ⊢
  unfold It.form
  split
  · have := uintB_len10 x.u.toNat (by omega); omega
  split
  · have := uintB_len10 (zig x.i) (zig_lt h2 h3); simp only [intB]; omega
  split
  · simp [flagB]; omega
  split
  · simp [fixedB]; omega
  split
  · have := uintB_len10 x.bs.length (by omega); simp only [bytesB, List.length_append]; omega
  · have := uintB_len10 x.ns.length (by omega)
    have := flat_len x.ns h4
    simp only [intsB, List.length_append]; omega
section
variable {W w : World} {l : List Res} {K : Value → World → Prop} {p : Option Nat} {o : List UInt8} {e : Int}
theorem nUint_ok {n : Int} (h : Sat W w (WrN p o e :: l)) (h0 : 0 ≤ n) (h1 : n < 18446744073709551616) (hlen : o.length + 10 ≤ 140737488355328)
    (hK : ∀ w', Sat W w' (WrN p (o ++ uintB n.toNat) e :: l) → K (.tuple #[]) w') : CallP P F_codec_Writer_Uint [.pointer (wp p), .int .u64 n] w K := by
  cases p with
  | some b => exact wUint_ok h h0 h1 hlen hK
  | none => apply c_codec_Writer_Uint; exact hK w h
theorem nInt_ok {n : Int} (h : Sat W w (WrN p o e :: l)) (h0 : -9223372036854775808 ≤ n) (h1 : n < 9223372036854775808) (hlen : o.length + 10 ≤ 140737488355328)
    (hK : ∀ w', Sat W w' (WrN p (o ++ intB n) e :: l) → K (.tuple #[]) w') : CallP P F_codec_Writer_Int [.pointer (wp p), .int .i64 n] w K := by
  cases p with
  | some b => exact wInt_ok h h0 h1 hlen hK
  | none =>
    apply c_codec_Writer_Int
    unfold S_codec_Writer_Int
    rw [zig_code h0 h1]
    have := zig_lt h0 h1
    exact nUint_ok (p := none) h (by omega) (by omega) hlen fun w1 h1 => tupU rfl (hK w1 h1)
theorem nFlag_ok {f : Bool} (h : Sat W w (WrN p o e :: l)) (hlen : o.length + 10 ≤ 140737488355328)
    (hK : ∀ w', Sat W w' (WrN p (o ++ flagB f) e :: l) → K (.tuple #[]) w') : CallP P F_codec_Writer_Flag [.pointer (wp p), .bool f] w K := by
  cases p with
  | some b => exact wFlag_ok h hlen hK
  | none =>
    apply c_codec_Writer_Flag
    unfold S_codec_Writer_Flag
    cases f
    · exact nUint_ok (p := none) h (by omega) (by omega) hlen fun w1 h1 => tupU rfl (hK w1 h1)
    · exact nUint_ok (p := none) h (by omega) (by omega) hlen fun w1 h1 => tupU rfl (hK w1 h1)
theorem nFixed_ok {n : Int} (h : Sat W w (WrN p o e :: l)) (h0 : 0 ≤ n) (h1 : n < 4294967296) (hlen : o.length + 10 ≤ 140737488355328)
    (hK : ∀ w', Sat W w' (WrN p (o ++ fixedB n.toNat) e :: l) → K (.tuple #[]) w') : CallP P F_codec_Writer_Fixed [.pointer (wp p), .int .u32 n] w K := by
  cases p with
  | some b => exact wFixed_ok h h0 h1 hlen hK
  | none => apply c_codec_Writer_Fixed; exact hK w h
theorem nBytes_ok {n : List UInt8} {x : Sl} (h : Sat W w (WrN p o e :: l)) (hx : Rd W l x 1 (n.map vB)) (hlen : o.length + 10 + n.length ≤ 140737488355328)
    (hK : ∀ w', Sat W w' (WrN p (o ++ bytesB n) (wErr e n.length) :: l) → K (.tuple #[]) w') : CallP P F_codec_Writer_Bytes [.pointer (wp p), x.v] w K := by
  cases p with
  | some b => exact wBytes_ok h hx hlen hK
  | none => apply c_codec_Writer_Bytes; exact hK w h
theorem nInts_ok {n : List Int} {x : Sl} (h : Sat W w (WrN p o e :: l)) (hx : Rd W l x 1 (n.map vI)) (hn : ∀ i ∈ n, -9223372036854775808 ≤ i ∧ i < 9223372036854775808) (hlen : o.length + 10 + 10 * n.length ≤ 140737488355328)
    (hK : ∀ w', Sat W w' (WrN p (o ++ intsB n) e :: l) → K (.tuple #[]) w') : CallP P F_codec_Writer_Ints [.pointer (wp p), x.v] w K := by
  cases p with
  | some b => exact wInts_ok h hx hn hlen hK
  | none =>
    apply c_codec_Writer_Ints
    unfold S_codec_Writer_Ints
    have hxl := (hx w h.tail).1
    simp at hxl
    rw [w_u64 (by omega) (by omega)]
    refine nUint_ok (p := none) h (by omega) (by omega) (by omega) fun w1 h1 => tupU rfl ?_
    refine ⟨fun z w' => ∃ i : Nat, z.1 = i ∧ i ≤ x.len ∧ Sat W w' (WrN none o e :: l), fun z _ => x.len - z.1.toNat, ⟨0, rfl, by omega, h1⟩, ?_⟩
    rintro ⟨i', u⟩ w2 ⟨i, hi, hil, h2⟩
    simp only at hi ⊢
    subst hi
    refine ifB_dec (fun hlt => ?_) fun hge => hK w2 h2
    have hi1 : i < n.length := by omega
    refine ixld et_ints (hx _ h2.tail) (by omega) (k := .int .i64) (x := n[i]) (by exact getElem?_vI hi1) ?_
    have hb := hn n[i] (List.getElem_mem hi1)
    refine nInt_ok (p := none) h2 hb.1 hb.2 (by omega) fun w3 h3 => tupU rfl ?_
    rw [w_i64 (by omega) (by omega)]
    exact ⟨⟨i + 1, rfl, by omega, h3⟩, by omega⟩
theorem lay_ok {x : It} {s : Sl} {q : List UInt8} (h : Sat W w (WrN p o e :: BsR s q :: l)) (hx : x.ok W) (hold : ∀ {s' : Sl} {xs : List Value}, RdC W s' 1 xs → Rd W l s' 1 xs) (hw : x.wt < 2 ^ 40) (ho : o.length < 2 ^ 46) (hq : q.length < 2 ^ 46)
    (hK : ∀ s' w', Sat W w' (BsR s' (q ++ x.form) :: WrN p (o ++ x.form) (x.err e) :: l) → K s'.v w') :
    CallP P F_law03_lay [.pointer (wp p), s.v, .agg x.cells.toArray] w K := by
  have hfl := form_len hx hw
  obtain ⟨h0, h1, h2, h3, h4, h5, h6⟩ := hx
  have hb : Rd W (BsR s q :: l) x.b 1 (x.bs.map vB) := Rd.cons (hold h5)
  have hn : Rd W (BsR s q :: l) x.n 1 (x.ns.map vI) := Rd.cons (hold h6)
  simp only [It.wt] at hw hfl
  apply c_law03_lay
  unfold S_law03_lay
  refine boxB h fun a w1 h1' => ?_
  have hA : Sat W w1 (Blk a x.cells 42 :: WrN p o e :: BsR s q :: l) := h1'
  clear h1' h
  refine ldB hA (i := 0) (x := x.k) ?_
  have fin : ∀ (s1 : Sl) (w3 : World), Sat W w3 (BsR s1 x.form :: BsR s q :: WrN p (o ++ x.form) (x.err e) :: l) → RunK .sl P (Builtin.append_ #[27, 27] 27 #[s.v, s1.v]) w3 fun s11 w12 => K s11.v w12 := by
    intro s1 w3 h3
    refine appBytes h3.swap h3.rdc (by omega) fun s' w4 h4 => hK s' w4 h4.drop2
  refine ifB_beq (fun hk => ?_) fun hk => ?_
  · have ef : x.form = uintB x.u.toNat := by simp [It.form, hk]
    have ee : x.err e = e := by simp [It.err, hk]
    refine ldB hA (i := 1) (x := x.u) ?_
    refine nUint_ok hA.swap h0 h1 (by omega) fun w2 h2 => tupU rfl ?_
    refine ldB h2.swap (i := 1) (x := x.u) ?_
    refine rUint_ok h2.swap h0 h1 fun s1 w3 h3 => tyI ?_
    exact fin s1 w3 (by rw [ee, ef]; exact h3.drop2.perm (List.Perm.cons _ (List.Perm.swap _ _ _)))
  refine ifB_beq (fun hk1 => ?_) fun hk1 => ?_
  · have ef : x.form = intB x.i := by simp [It.form, hk1]
    have ee : x.err e = e := by simp [It.err, hk1]
    refine ldB hA (i := 2) (x := x.i) ?_
    refine nInt_ok hA.swap h2 h3 (by omega) fun w2 h2' => tupU rfl ?_
    refine ldB h2'.swap (i := 2) (x := x.i) ?_
    refine rInt_ok h2'.swap h2 h3 fun s1 w3 h3 => tyI ?_
    exact fin s1 w3 (by rw [ee, ef]; exact h3.drop2.perm (List.Perm.cons _ (List.Perm.swap _ _ _)))
  refine ifB_beq (fun hk2 => ?_) fun hk2 => ?_
  · have ef : x.form = flagB x.f := by simp [It.form, hk2]
    have ee : x.err e = e := by simp [It.err, hk2]
    refine ldB hA (i := 3) (x := x.f) ?_
    refine nFlag_ok hA.swap (by omega) fun w2 h2' => tupU rfl ?_
    refine ldB h2'.swap (i := 3) (x := x.f) ?_
    refine rFlag_ok h2'.swap fun s1 w3 h3 => tyI ?_
    exact fin s1 w3 (by rw [ee, ef]; exact h3.drop2.perm (List.Perm.cons _ (List.Perm.swap _ _ _)))
  refine ifB_beq (fun hk3 => ?_) fun hk3 => ?_
  · have ef : x.form = fixedB (x.u.toNat % 4294967296) := by simp [It.form, hk3]
    have ee : x.err e = e := by simp [It.err, hk3]
    have ew : IntKind.u32.wrap x.u = ((x.u.toNat % 4294967296 : Nat) : Int) := by rw [w_u32']; omega
    refine ldB hA (i := 1) (x := x.u) ?_
    rw [ew]
    refine nFixed_ok hA.swap (by omega) (by omega) (by omega) fun w2 h2' => tupU rfl ?_
    refine ldB h2'.swap (i := 1) (x := x.u) ?_
    rw [ew]
    refine rFixed_ok h2'.swap (by omega) (by omega) fun s1 w3 h3 => tyI ?_
    exact fin s1 w3 (by rw [ee, ef]; exact h3.drop2.perm (List.Perm.cons _ (List.Perm.swap _ _ _)))
  refine ifB_beq (fun hk4 => ?_) fun hk4 => ?_
  · have ef : x.form = bytesB x.bs := by simp [It.form, hk4]
    have ee : x.err e = wErr e x.bs.length := by simp [It.err, hk4]
    refine ldB hA (i := 4) (x := x.b) ?_
    refine nBytes_ok hA.swap (Rd.cons hb) (by omega) fun w2 h2' => tupU rfl ?_
    refine ldB h2'.swap (i := 4) (x := x.b) ?_
    refine rBytes_ok h2'.swap (Rd.cons (Rd.cons hb)) (by omega) fun s1 w3 h3 => tyI ?_
    exact fin s1 w3 (by rw [ee, ef]; exact h3.drop2.perm (List.Perm.cons _ (List.Perm.swap _ _ _)))
  · have ef : x.form = intsB x.ns := by simp [It.form, hk, hk1, hk2, hk3, hk4]
    have ee : x.err e = e := by simp [It.err, hk4]
    refine ldB hA (i := 5) (x := x.n) ?_
    refine nInts_ok hA.swap (Rd.cons hn) h4 (by omega) fun w2 h2' => tupU rfl ?_
    refine ldB h2'.swap (i := 5) (x := x.n) ?_
    refine rInts_ok h2'.swap (Rd.cons (Rd.cons hn)) h4 (by omega) fun s1 w3 h3 => tyI ?_
    exact fin s1 w3 (by rw [ee, ef]; exact h3.drop2.perm (List.Perm.cons _ (List.Perm.swap _ _ _)))
end
end Go.Proofs.Ytcfgbboibgjlcaa
