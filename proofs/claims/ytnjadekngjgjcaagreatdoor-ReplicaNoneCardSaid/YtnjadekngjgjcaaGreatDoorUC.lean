/- Layer 10: epochs in memory. -/
import Derived.Test.YtnjadekngjgjcaaGreatDoorUA
import Derived.Test.YtnjadekngjgjcaaGreatDoorPkO
import Derived.Test.YtnjadekngjgjcaaGreatDoorFRp
namespace Go.Proofs.YtnjadekngjgjcaaGreatDoor
open Go Go.Pk
def elEp : El (Int × Int) := ⟨T_epochs_start, 2, fun p => [.int .i64 p.1, .int .i64 p.2], fun _ => Pure True, fun _ => rfl, fun p u hu => by
  simp only [List.mem_cons, List.not_mem_nil, or_false] at hu
  rcases hu with rfl | rfl <;> rfl⟩
theorem et_eps : ET P T_sl_epochs_start T_epochs_start 2 16 := ET.of (by kernel_rfl)
/-- a cache of epochs -/
def EcR (a : Nat) (c : Ec) : Res := Ex fun s : Sl => All [Blk a [s.v] T_epochs_Cache, SlR T_epochs_start 2 s (elEp.flat c)]
abbrev EcL (a : Nat) (c : Ec) (s : Sl) (l : List Res) : List Res := Blk a [s.v] T_epochs_Cache :: SlR T_epochs_start 2 s (elEp.flat c) :: l
section
variable {W w : World} {l : List Res} {K : Value → World → Prop} {a : Nat} {c : Ec}
theorem sat_ec : Sat W w (EcR a c :: l) ↔ ∃ s, Sat W w (EcL a c s l) := by
  unfold EcR
  rw [sat_ex]
  exact ⟨fun ⟨s, h⟩ => ⟨s, sat_all.1 h⟩, fun ⟨s, h⟩ => ⟨s, sat_all.2 h⟩⟩
theorem ec_len {s : Sl} (h : Sat W w (SlR T_epochs_start 2 s (elEp.flat c) :: l)) : s.len = c.length ∧ s.len ≤ s.cap ∧ s.cap < 2 ^ 63 := by
  have h1 := h.slLen
  have h2 : (elEp.flat c).length = c.length * 2 := flat_length (E := elEp) c
  omega
theorem ecNew_ok (h : Sat W w l) (hK : ∀ a w', Sat W w' (EcR a [] :: l) → K (.pointer (some ⟨a, 0, none⟩)) w') : CallP P F_epochs_New [] w K := by
  apply c_epochs_New
  unfold S_epochs_New
  refine boxB h fun a w1 h1 => hK a w1 (sat_ec.2 ⟨⟨none, 0, 0⟩, ?_⟩)
  have h1 : Sat W w1 (Blk a [.slice none 0 0] T_epochs_Cache :: l) := h1
  have h2 := Sat.nilSlr h1 T_epochs_start 2
  exact h2.swap
/-- one of the epochs is read -/
theorem ec_at {s : Sl} {i : Nat} {x : Int × Int} {ik : IntKind} {j : Int} (hj : j = (i : Int)) (hi : c[i]? = some x) (h : Sat W w (EcL a c s l)) {K : Addr → Prop} (hK : ∀ A, (∀ j u, (elEp.cells x)[j]? = some u → w.cell? (A.add j) = some u) → K A) :
    RunQ .addr P (Instr.indexAt T_sl_epochs_start s.v (.int ik j)) w K := by
  subst hj
  have hl := ec_len (h.up 1)
  have hlt := (List.getElem?_eq_some_iff.1 hi).1
  exact ixEl et_eps (E := elEp) rfl (h.up 1).rdc (by omega) (x := x) (by rw [show ((i : Int)).toNat = i by omega]; exact hi) (by omega) hK
theorem ecLast_ok (h : Sat W w (EcR a c :: l)) (hK : ∀ w', Sat W w' (EcR a c :: l) → K (match c.getLast? with | some x => .tuple #[.int .i64 x.1, .int .i64 x.2, .bool true] | none => .tuple #[.int .i64 0, .int .i64 0, .bool false]) w') :
    CallP P F_epochs_Cache_Last [.pointer (some ⟨a, 0, none⟩)] w K := by
  apply c_epochs_Cache_Last
  unfold S_epochs_Cache_Last
  obtain ⟨s, h1⟩ := sat_ec.1 h
  have hl := ec_len (h1.up 1)
  refine ⟨fun _ w' => w' = w ∧ 0 < c.length, ?_, ?_⟩
  · rintro _ w2 ⟨hw, hc⟩
    subst hw
    have h2 := h1.drew
    have hx : c[c.length - 1]? = some c[c.length - 1] := List.getElem?_eq_getElem (by omega)
    have hlast : c.getLast? = some c[c.length - 1] := by rw [List.getLast?_eq_getElem?]; exact hx
    rw [hlast] at hK
    generalize c[c.length - 1] = x at hx hlast hK
    let S : World → Prop := fun w => ∃ L, Sat W w (EcL a c s L)
    have hS : ∀ w, S w → ∃ L, Sat W w (Blk a [s.v] T_epochs_Cache :: L) := fun w hw => by obtain ⟨L, hw⟩ := hw; exact ⟨_, hw⟩
    have hS2 : ∀ w, S w → RdC w s 2 (elEp.flat c) := fun w hw => by obtain ⟨L, hw⟩ := hw; exact (hw.up 1).rdc
    refine ⟨S, ⟨_, h2⟩, ?_⟩
    refine hldX hS 0 (x := s) ?_
    refine hldX hS 0 (x := s) ?_
    rw [w_i64 (n := (s.len : Int) - 1) (by omega) (by omega)]
    refine hixEl et_eps (E := elEp) rfl hS2 ⟨_, h2⟩ (by omega) (x := x) (by rw [show ((s.len : Int) - 1).toNat = c.length - 1 by omega]; exact hx) (by omega) fun a1 ha1 => ?_
    refine hldAggC (cs := elEp.cells x) ha1 ?_
    refine allocB h2 (z := .agg #[.int .i64 0, .int .i64 0]) (by kernel_rfl) fun a12 w13 h3 => ⟨⟨_, h3.tail⟩, ?_⟩
    refine stAggB (cs' := elEp.cells x) h3 rfl (elEp.one x) (by kernel_rfl) fun w14 h4 => ⟨⟨_, h4.tail⟩, ?_⟩
    have h5 := h4.drew
    refine ldX h5 0 (x := x.1) ?_
    refine ldX h5 1 (x := x.2) ?_
    exact hK _ (sat_ec.2 ⟨s, h5.tail⟩)
  · refine ifB_intro (fun c => absurd c (by simp)) fun _ => ?_
    refine ldX h1 0 (x := s) ?_
    refine ifB_beq (fun c0 => ?_) fun c0 => ⟨rfl, by omega⟩
    have hn : c = [] := List.length_eq_zero_iff.1 (by omega)
    have : c.getLast? = none := by rw [hn]; rfl
    rw [this] at hK
    exact hK w h
theorem ecCut_ok {at_ : Int} (h : Sat W w (EcR a c :: l)) (hK : ∀ w', Sat W w' (EcR a (Ec.cut c at_) :: l) → K (.tuple #[]) w') : CallP P F_epochs_Cache_Cut [.pointer (some ⟨a, 0, none⟩), .int .i64 at_] w K := by
  apply c_epochs_Cache_Cut
  unfold S_epochs_Cache_Cut
  obtain ⟨s, h1⟩ := sat_ec.1 h
  have hl := ec_len (h1.up 1)
  refine ifB_intro (fun c => absurd c (by simp)) fun _ => ?_
  refine ldX h1 0 (x := s) ?_
  have fin : ∀ k : Nat, k ≤ c.length → Ec.cutL at_ c c.length = k → ∀ {w'}, Sat W w' (EcL a c s l) → RunQ .sl P (Instr.loadAt T_sl_epochs_start (.pointer (some ((⟨a, 0, none⟩ : Addr).add 0)))) w' fun (s15 : Sl) =>
      RunQ .sl P (Instr.sliceAt T_sl_epochs_start s15.v none (some (.int .i64 (k : Int))) none) w' fun (s16 : Sl) =>
      StoreP P T_sl_epochs_start (.pointer (some ((⟨a, 0, none⟩ : Addr).add 0))) s16.v w' fun w18 => K (.tuple #[]) w18 := fun k hk he {w'} h2 => by
    refine ldX h2 0 (x := s) ?_
    refine ⟨⟨s.a, k, s.cap⟩, ?_, ?_⟩
    · have := run_sliceHi et_eps (s := s) (hi := (k : Int)) (by omega) (by omega) w' (j := .i64)
      rw [this]; simp
    · refine stX h2 0 (v := Sl.v ⟨s.a, k, s.cap⟩) fun w3 h3 => hK w3 (sat_ec.2 ⟨⟨s.a, k, s.cap⟩, ?_⟩)
      have h4 := slr_take (h3.up 1) (k := k) (by omega)
      have e : (elEp.flat c).take (k * 2) = elEp.flat (Ec.cut c at_) := by
        unfold Ec.cut; rw [he]; exact flat_take (E := elEp) c k
      rw [e] at h4
      exact h4.swap
  refine ⟨fun t w' => ∃ k : Nat, t.1 = k ∧ k ≤ c.length ∧ Ec.cutL at_ c c.length = Ec.cutL at_ c k ∧ Sat W w' (EcL a c s l), fun t _ => t.1.toNat, ⟨c.length, by show ((s.len : Nat) : Int) = _; omega, Nat.le_refl _, rfl, h1⟩, ?_⟩
  rintro ⟨tk, u⟩ w4 ⟨k, hk, hkl, hkk, h2⟩
  simp only at hk ⊢
  subst hk
  refine ifB_dec (fun c1 => ?_) fun c1 => ?_
  · obtain ⟨k, rfl⟩ : ∃ q, k = q + 1 := ⟨k - 1, by omega⟩
    have hx : c[k]? = some c[k] := List.getElem?_eq_getElem (by omega)
    generalize c[k] = x at hx
    have hst : Ec.cutL at_ c (k + 1) = if x.2 ≥ at_ then Ec.cutL at_ c k else k + 1 := by rw [Ec.cutL, hx]
    have ek : IntKind.i64.wrap (((k + 1 : Nat) : Int) - 1) = (k : Int) := by rw [w_i64 (by omega) (by omega)]; omega
    refine ldX h2 0 (x := s) ?_
    refine ec_at ek hx h2 fun A hA => ?_
    refine ldC (k := .int .i64) (x := x.2) (hA 1 _ rfl) ?_
    refine ifB_dec (fun c2 => ?_) fun c2 => ?_
    · rw [if_pos c2] at hst
      exact ⟨⟨k, ek, by omega, by rw [hkk, hst], h2⟩, by rw [ek]; show ((k : Int)).toNat < (((k + 1 : Nat) : Int)).toNat; omega⟩
    · rw [if_neg c2] at hst
      exact fin (k + 1) hkl (by rw [hkk, hst]) h2
  · have hk0 : k = 0 := by omega
    subst hk0
    exact fin 0 (Nat.zero_le _) (by rw [hkk]; rfl) h2
theorem ecAssign_ok {e at_ : Int} (h : Sat W w (EcR a c :: l)) (hm : c.length ≤ 1073741824) (hK : ∀ w', Sat W w' (EcR a (Ec.assign c e at_).1 :: l) → K (.int .i64 (Ec.assign c e at_).2) w') :
    CallP P F_epochs_Cache_Assign [.pointer (some ⟨a, 0, none⟩), .int .i64 e, .int .i64 at_] w K := by
  apply c_epochs_Cache_Assign
  unfold S_epochs_Cache_Assign
  unfold Ec.assign at hK
  refine ⟨fun _ w' => w' = w ∧ ¬ (e < 0 ∨ at_ < 0), ?_, ?_⟩
  · rintro _ w2 ⟨hw, hc⟩
    subst hw
    rw [if_neg hc] at hK
    refine ⟨fun _ w' => (∀ w', Sat W w' (EcR a (Ec.cut c at_ ++ [(e, at_)]) :: l) → K (.int .i64 0) w') ∧ Sat W w' (EcR a c :: l), ?_, ?_⟩
    · rintro _ w5 ⟨hK, h1⟩
      refine ecCut_ok h1 fun w10 h2 => tupU rfl ?_
      obtain ⟨s, h3⟩ := sat_ec.1 h2
      have hl := ec_len (h3.up 1)
      have hcl : (Ec.cut c at_).length ≤ c.length := by unfold Ec.cut; rw [List.length_take]; omega
      refine ldX h3 0 (x := s) ?_
      refine bsB h3 (cs := elEp.cells (e, at_)) (e := T_epochs_start) (fun w => by kernel_rfl) fun gb w15 h4 => ?_
      refine appB et_eps (by decide) (s := s) (x := ⟨some ⟨gb, 0, none⟩, 1, 1⟩) (news := elEp.cells (e, at_)) (h4.up 2) (rdBlk ((h4.up 2).up 1) rfl) (elEp.one _) (by show (s.len + 1) * _ ≤ _; omega) (by show s.len + 1 < _; omega) fun s16 w17 h5 _ => ?_
      have e7 : elEp.flat (Ec.cut c at_) ++ elEp.cells (e, at_) = elEp.flat (Ec.cut c at_ ++ [(e, at_)]) := by rw [flat_app, flat_one]
      rw [e7] at h5
      have h6 : Sat W w17 (Blk a [s.v] T_epochs_Cache :: SlR T_epochs_start 2 s16 (elEp.flat (Ec.cut c at_ ++ [(e, at_)])) :: l) := h5.sel 3 [2, 0]
      refine stX h6 0 (v := s16.v) fun w19 h7 => hK w19 (sat_ec.2 ⟨s16, h7⟩)
    · refine ecLast_ok h fun w7 h1 => ?_
      cases hl : c.getLast? with
      | none =>
        rw [hl] at hK
        exact ⟨(0, 0, false, ()), rfl, hK, h1⟩
      | some x =>
        rw [hl] at hK
        simp only at hK
        refine ⟨(x.1, x.2, true, ()), rfl, ?_⟩
        show ifB (decide (e ≤ x.1)) _ _
        refine ifB_dec (fun c1 => ?_) fun c1 => ?_
        · rw [if_pos c1] at hK
          refine ifB_beq (fun c2 => ?_) fun c2 => ?_
          · rw [if_pos c2] at hK; exact hK w7 h1
          · rw [if_neg c2] at hK; exact hK w7 h1
        · rw [if_neg c1] at hK
          exact ⟨hK, h1⟩
  · refine ifB_intro (fun c => absurd c (by simp)) fun _ => ?_
    refine ifB_dec (fun c1 => ?_) fun c1 => ?_
    · rw [if_pos (.inl c1)] at hK; exact hK w h
    · refine ifB_dec (fun c2 => ?_) fun c2 => ?_
      · rw [if_pos (.inr c2)] at hK; exact hK w h
      · exact ⟨rfl, fun h => h.elim c1 c2⟩
end
end Go.Proofs.YtnjadekngjgjcaaGreatDoor
