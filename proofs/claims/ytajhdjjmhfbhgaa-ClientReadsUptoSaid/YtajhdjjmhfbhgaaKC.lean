/- Layer 19: rules; a new client. -/
import Derived.Test.YtajhdjjmhfbhgaaKB
namespace Go.Proofs.Ytajhdjjmhfbhgaa
open Go Go.Pk
/-- what stands in a cell -/
def At (W : World) (b i : Nat) (v : Value) (w : World) : Prop := ∃ cs T l, Sat W w (Blk b cs T :: l) ∧ cs[i]? = some v
section
variable {W w : World} {l : List Res} {K : Value → World → Prop} {b : Nat} {c : Cl}
theorem hldY {S : World → Prop} {k : Kd} {t : TypeId} {A : Addr} (b i : Nat) {x : k.Ty} {K : k.Ty → Prop} (hS : ∀ w, S w → At W b i (k.v x) w) (hK : K x) (hA : A = ⟨b, i, none⟩ := by rfl) (ht : oneT P t = true := by kernel_rfl) :
    HRun S k P (Instr.loadAt t (.pointer (some A))) K := by
  subst hA
  exact ⟨x, fun w hw => by
    obtain ⟨cs, T, l, h, hx⟩ := hS w hw
    exact run_load1 ht (by rw [h.cell, hx]), hK⟩
theorem hldAggB {S : World → Prop} {W : World} {b : Nat} {cs : List Value} {T : TypeId} {t : TypeId} (hS : ∀ w, S w → ∃ l, Sat W w (Blk b cs T :: l)) (ht : aggT P t cs.length = true) {K : Value → Prop} (hK : K (.agg cs.toArray)) :
    HRun S .val P (Instr.loadAt t (.pointer (some ⟨b, 0, none⟩))) K :=
  ⟨.agg cs.toArray, fun w hw => by
    obtain ⟨l, h⟩ := hS w hw
    obtain ⟨x, hx, hk⟩ := ldAggB (K := fun v => v = .agg cs.toArray) h ht rfl
    rw [hx]; exact congrArg (fun v => Result.ok v w) hk, hK⟩
theorem remR {P : Program} {w : World} {k : IntKind} {x y : Int} {t : TypeId} {o1 o2 : Operand} {K : Int → World → Prop} (hy : y ≠ 0) (hK : K (x.tmod y) w) :
    RunK (.int k) P (do eqGuard .rem t o1 o2 (.int k x) (.int k y); binOp .rem t (.int k x) (.int k y)) w K := by
  refine ⟨_, w, ?_, hK⟩
  simp [eqGuard, binOp, hy, Op.intDiv, Sem.run, Kd.v]
theorem hixP {S : World → Prop} {t e sz by_ : Nat} (et : ET P t e sz by_) {s : Sl} {a : Addr} {ik : IntKind} {i : Int} (ha : s.a = some a) (h0 : 0 ≤ i) (h1 : i.toNat < s.len) {K : Addr → Prop} (hK : K (a.add (i.toNat * sz))) :
    HRun S .addr P (Instr.indexAt t s.v (.int ik i)) K := ⟨_, fun w _ => run_ix et ha h0 h1 w, hK⟩
/-- a store into a slice of one's own -/
theorem stSl {T t' : TypeId} {s : Sl} {xs : List Value} (h : Sat W w (SlR T 1 s xs :: l)) {a : Addr} {i : Nat} {v : Value} (ha : s.a = some a) (h1 : i < s.len) {K : World → Prop}
    (hK : ∀ w', Sat W w' (SlR T 1 s (xs.set i v) :: l) → K w') (hv : v.oneCell' = true := by rfl) (ht : oneT P t' = true := by kernel_rfl) : StoreP P t' (.pointer (some (a.add (i * 1)))) v w K := by
  rcases h.slr with ⟨_, h2, _⟩ | ⟨g, o, cur, ha', hb, h2, h3, h4, h5, h6⟩
  · omega
  · rw [ha'] at ha
    obtain rfl := Option.some.inj ha
    rw [add_add]
    have hlt : o + i * 1 < cur.length := by omega
    refine Go.Pk.stV hb (fun w' h' => hK w' (h'.mkSlr ha' h2 h3 (by simpa using h4) ?_ ?_)) hv hlt ht
    · subst h5
      rw [List.drop_set, if_neg (by omega), List.take_set, show o + i * 1 - o = i by omega]
    · intro u hu
      rcases List.mem_or_eq_of_mem_set hu with hu | rfl
      · exact h6 u hu
      · exact hv
theorem slSome {T : TypeId} {sz : Nat} {s : Sl} {xs : List Value} (h : Sat W w (SlR T sz s xs :: l)) (h0 : 0 < s.len) : ∃ a, s.a = some a := some_of_lt h.rdc h0
theorem vI_all (l : List Int) : ∀ u ∈ l.map vI, u.oneCell' = true := by
  intro u hu
  obtain ⟨x, _, rfl⟩ := List.mem_map.1 hu
  rfl
theorem mkInts {n : Int} (h : Sat W w l) (h0 : 0 ≤ n) (h1 : n < 1099511627776) {K : Sl → World → Prop} (hK : ∀ s w', Sat W w' (IsR s (List.replicate n.toNat 0) :: l) → K s w') :
    RunK .sl P (Instr.makeSlice T_sl_int (.int .i64 n) (.int .i64 n)) w K := by
  obtain ⟨ht, i, z, hi, hz, hsz, hzs, hby, _⟩ := et_ints
  have hz' : z = .int .i64 0 := by
    have e : (P.info? T_int).map (·.zero) = some (some (.int .i64 0)) := by kernel_rfl
    rw [hi] at e
    simp only [Option.map_some, Option.some.injEq] at e
    rw [hz] at e
    exact Option.some.inj e
  subst hz'
  have hrun := run_make (P := P) w T_sl_int T_int i (.int .i64 0) ht hi hz .i64 .i64 n n h0 (Int.le_refl _) (by rw [hby]; omega) (by omega)
  refine ⟨⟨some ⟨w.heap.size, 0, none⟩, n.toNat, n.toNat⟩, _, hrun, hK _ _ ?_⟩
  have hc : (madeCells (Value.int .i64 0).cells (n.toNat * i.size)) = ((List.replicate n.toNat (0 : Int)).map vI).toArray := by
    rw [hsz, Nat.mul_one]
    apply Array.toList_inj.1
    unfold madeCells
    apply List.ext_getElem
    · simp
    · intro k h1 h2
      simp [vI, Value.cells, Nat.mod_one]
  rw [hc]
  refine (h.newBlk ((List.replicate n.toNat (0 : Int)).map vI) T_int).mkSlr rfl (Nat.le_refl _) (by show n.toNat < 2 ^ 63; omega) (by simp) ?_ (vI_all _)
  simp
theorem cloneOp_ok {x : Sl} {ol : List Oc} (h : Sat W w l) (hr : Rd W l x 5 (elO.flat ol)) (hb : ol.length ≤ 1000000) (hK : ∀ s w', Sat W w' (SlR T_api_Op 5 s (elO.flat ol) :: l) → K s.v w') : CallP P F_slices_Clone_api_Op_api_Op [x.v] w K := by
  apply c_slices_Clone_api_Op_api_Op
  unfold S_slices_Clone_api_Op_api_Op
  have hl : x.len = ol.length := RdC.elen (E := elO) (hr w h) (by decide)
  cases hx : x.a with
  | none =>
    have h0 : x.len = 0 := by have := (hr w h).2.1; have := (hr w h).2.2.1 hx; omega
    have he : ol = [] := List.length_eq_zero_iff.1 (by omega)
    subst he
    exact hK ⟨none, 0, 0⟩ w (Sat.nilSlr h T_api_Op 5)
  | some a =>
    simp only [Option.isNone_some, ifB_false]
    refine bsB h (cs := []) (e := T_api_Op) (fun w => by kernel_rfl) fun g w1 h1 => ?_
    have h2 : Sat W w1 (SlR T_api_Op 5 ⟨some ⟨g, 0, none⟩, 0, 0⟩ [] :: l) := h1.mkSlr rfl (by simp) (by simp) (by simp) rfl (by simp)
    refine appB et_ops (by decide) h2 (hr w1 h1.tail) (flat_ones (E := elO) ol) (by simp only; omega) (by simp only; omega) fun s' w' h' _ => hK s' w' (by simpa using h')
theorem cloneSn_ok {x : Sl} {sl : List Sn} (h : Sat W w l) (hr : Rd W l x 7 (elS.flat sl)) (hb : sl.length ≤ 1099511627776) (hK : ∀ s w', Sat W w' (SlR T_api_Seen 7 s (elS.flat sl) :: l) → K s.v w') : CallP P F_slices_Clone_api_Seen_api_Seen [x.v] w K := by
  apply c_slices_Clone_api_Seen_api_Seen
  unfold S_slices_Clone_api_Seen_api_Seen
  have hl : x.len = sl.length := RdC.elen (E := elS) (hr w h) (by decide)
  cases hx : x.a with
  | none =>
    have h0 : x.len = 0 := by have := (hr w h).2.1; have := (hr w h).2.2.1 hx; omega
    have he : sl = [] := List.length_eq_zero_iff.1 (by omega)
    subst he
    exact hK ⟨none, 0, 0⟩ w (Sat.nilSlr h T_api_Seen 7)
  | some a =>
    simp only [Option.isNone_some, ifB_false]
    refine bsB h (cs := []) (e := T_api_Seen) (fun w => by kernel_rfl) fun g w1 h1 => ?_
    have h2 : Sat W w1 (SlR T_api_Seen 7 ⟨some ⟨g, 0, none⟩, 0, 0⟩ [] :: l) := h1.mkSlr rfl (by simp) (by simp) (by simp) rfl (by simp)
    refine appB et_seen (by decide) h2 (hr w1 h1.tail) (flat_ones (E := elS) sl) (by simp only; omega) (by simp only; omega) fun s' w' h' _ => hK s' w' (by simpa using h')
theorem one_ok {x : Sl} (h : Sat W w l) (hK : ∀ cs w', Sat W w' (SlR T_api_Program 2 cs [.int .i64 0, x.v] :: l) → K (.agg #[.int .i64 1, .int .i64 1, .int .i64 1, cs.v]) w') : CallP P F_law19_one [x.v] w K := by
  apply c_law19_one
  unfold S_law19_one
  refine allocB h (z := .agg #[.int .i64 0, .int .i64 0, .int .i64 0, .slice none 0 0]) (by kernel_rfl) fun g1 w1 h1 => ?_
  have h1 : Sat W w1 (Blk g1 [.int .i64 0, .int .i64 0, .int .i64 0, .slice none 0 0] T_api_Config :: l) := h1
  refine bsB h1 (cs := [.int .i64 0, x.v]) (e := T_api_Program) (fun w => by kernel_rfl) fun g2 w2 h2 => ?_
  have h3 : Sat W w2 (SlR T_api_Program 2 ⟨some ⟨g2, 0, none⟩, 1, 1⟩ [.int .i64 0, x.v] :: Blk g1 [.int .i64 0, .int .i64 0, .int .i64 0, .slice none 0 0] T_api_Config :: l) := h2.mkSlr rfl (by simp) (by simp) (by simp) (by simp) (by intro u hu; simp at hu; rcases hu with rfl | rfl <;> rfl)
  have h4 := h3.swap
  refine stAggB (cs' := [.int .i64 1, .int .i64 1, .int .i64 1, Sl.v ⟨some ⟨g2, 0, none⟩, 1, 1⟩]) h4 rfl (by intro u hu; simp at hu; rcases hu with rfl | rfl <;> rfl) (by kernel_rfl) fun w3 h5 => ?_
  exact ldAggB h5 (by kernel_rfl) (hK _ w3 h5.tail)
end
end Go.Proofs.Ytajhdjjmhfbhgaa
