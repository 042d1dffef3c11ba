/- Layer 8: bounds of a log; a log opened on a new disk; elements are overwritten. -/
import Derived.Test.YtbpcichakchpkaaGreatDoorTE
namespace Go.Proofs.YtbpcichakchpkaaGreatDoor
open Go Go.Pk
theorem gch_len : ∀ {gs : Gr}, GCh gs → gs.length ≤ (allB gs).length + 1
  | [], _ => by simp
  | [p], _ => by simp
  | p :: q :: gs, h => by
    obtain ⟨h1, h0, h2, h3⟩ := h
    have ih := gch_len h3
    have e : allB (p :: q :: gs) = p.2 ++ allB (q :: gs) := by simp [allB]
    have : 0 < p.2.length := List.length_pos_iff.2 h0
    rw [e, List.length_append, List.length_cons]; omega
theorem allB_mem {gs : Gr} {p : Int × List Bd} (h : p ∈ gs) : p.2.length ≤ (allB gs).length ∧ ∀ x ∈ p.2, x ∈ allB gs := by
  induction gs with
  | nil => cases h
  | cons q gs ih =>
    have e : allB (q :: gs) = q.2 ++ allB gs := by simp [allB]
    rw [e, List.length_append]
    rcases List.mem_cons.1 h with rfl | h
    · exact ⟨by omega, fun x hx => List.mem_append_left _ hx⟩
    · have := ih h
      exact ⟨by omega, fun x hx => List.mem_append_right _ (this.2 x hx)⟩
theorem gch_fin_le {gs : Gr} (h : GCh gs) : grStart gs ≤ grFin gs ∧ grFin gs ≤ grStart gs + 16 * (allB gs).length := by
  have hc := gch_chain gs h
  have := chain_mem _ _ hc.1
  rw [hc.2] at this
  exact ⟨this.1, this.2.1⟩
/-- what the calls of a log ask -/
structure LFit (g : Lg) : Prop where
  b : LgB g
  f : LgF g
  c : LgC g
  e : LgE g
  r : ∀ s ∈ g.segs, s.bt.length ≤ 1073741824
  n : g.segs.length ≤ 1073741824
  fin : 0 ≤ g.fin ∧ g.fin < 100000000
  q : ∀ frm, (segB frm g.segs).length ≤ 1073741824
/-- a log in memory, by groups -/
structure Mem (n : List UInt8) (g : Lg) (gs : Gr) : Prop where
  name : g.name = n
  segs : g.segs = grSegs n gs
  chain : GCh gs
  start : 0 ≤ grStart gs
theorem Lay.mem {n : List UInt8} {g : Lg} {d : Dk} {gs : Gr} (h : Lay n g d gs) : Mem n g gs := ⟨h.name, h.segs, h.chain, h.start⟩
theorem mem_fin {n : List UInt8} {g : Lg} {gs : Gr} (h : Mem n g gs) : g.fin = grFin gs := by
  unfold Lg.fin grFin
  rw [h.segs, grSegs_last]
  cases gs.getLast? with
  | none => rfl
  | some p => simp only [Option.map_some]; exact mkSg_fin
theorem mem_fit {n : List UInt8} {g : Lg} {gs : Gr} (h : Mem n g gs) (hs : Small gs) (hl : (allB gs).length ≤ 2097152) : LFit g := by
  have hsg : ∀ s ∈ g.segs, ∃ p ∈ gs, s = mkSg p.1 (segF n p.1) p.2 := fun s hs => by
    rw [h.segs] at hs
    obtain ⟨p, hp, rfl⟩ := List.mem_map.1 hs
    exact ⟨p, hp, rfl⟩
  have hbt : ∀ p ∈ gs, ∀ x ∈ p.2, x.ok ∧ 0 ≤ x.ba ∧ x.fin ≤ grFin gs := fun p hp x hx => by
    have h1 := gch_mem h.chain hp
    have h2 := (chain_mem _ _ h1.1).2.2 x hx
    have h3 := hs.1
    exact ⟨chain_ok _ _ h1.1 x hx, by omega, by omega⟩
  have hfin := mem_fin h
  have hle := gch_fin_le h.chain
  have hf := hs.1
  have hf2 := hs.2
  refine ⟨fun s hs x hx => ?_, fun s hs => ?_, fun s hs x hx => ?_, fun s hs => ?_, fun s hs => ?_, ?_, by omega, fun frm => ?_⟩
  · obtain ⟨p, hp, rfl⟩ := hsg s hs
    have := hbt p hp x hx
    omega
  · obtain ⟨p, hp, rfl⟩ := hsg s hs
    have h1 := (allB_mem hp).1
    have h2 := fsOf_le p.2 fun x hx => (hbt p hp x hx).1
    refine ⟨⟨by show (0 : Int) ≤ ((fsOf p.2).length : Nat); omega, ?_⟩, ?_, ?_⟩
    · show (((fsOf p.2).length : Nat) : Int) ≤ _; omega
    · show p.2.length ≤ _; omega
    · show (endsF 0 p.2).length ≤ _; rw [endsF_len]; omega
  · obtain ⟨p, hp, rfl⟩ := hsg s hs
    exact (hbt p hp x hx).1.1
  · obtain ⟨p, hp, rfl⟩ := hsg s hs
    exact endsF_len _ _
  · obtain ⟨p, hp, rfl⟩ := hsg s hs
    have h1 := (allB_mem hp).1
    show p.2.length ≤ _; omega
  · have := gch_len h.chain
    rw [h.segs]; unfold grSegs; rw [List.length_map]; omega
  · rw [h.segs, segB_gs fun p hp => (gch_mem h.chain hp).1]
    have := List.length_filter_le (fun x : Bd => decide (frm < x.fin)) (allB gs)
    unfold behind; omega
theorem lay_fit {n : List UInt8} {g : Lg} {d : Dk} {gs : Gr} (h : Lay n g d gs) (hs : Small gs) (hl : (allB gs).length ≤ 2097152) : LFit g := mem_fit h.mem hs hl
theorem open_new (n : List UInt8) : opLg n Dk.new = ⟨n, [], 0⟩ ∧ opDk n Dk.new = Dk.new := by
  have e : opAll n Dk.new = ⟨⟨n, [], 0⟩, Dk.new, true⟩ := by
    unfold opAll
    have : srt Dk.new.names = [] := by simp [srt, Dk.new, Dk.names]
    rw [this]; rfl
  unfold opLg opDk
  rw [e]
  exact ⟨rfl, rfl⟩
theorem lay_new (n : List UInt8) : Lay n ⟨n, [], 0⟩ Dk.new [] := ⟨rfl, rfl, trivial, Int.le_refl _, (fun p hp => by cases hp), fun f hf => by simp [Dk.new, Dk.names] at hf⟩
theorem mt_new : Mt [] ⟨[], [], 0⟩ := ⟨rfl, rfl⟩
theorem put_start (gs : Gr) (b : Bd) : grStart (addG (rollG gs) b) = grStart gs := by
  unfold rollG
  cases hl : gs.getLast? with
  | none =>
    have e := List.getLast?_eq_none_iff.1 hl
    subst e; rfl
  | some p =>
    have e := getLast_split hl
    simp only
    split
    · rw [addG_last hl]
      conv => rhs; rw [e]
      cases gs.dropLast with
      | nil => rfl
      | cons q qs => rfl
    · have hl2 : (gs ++ [(grFin gs, ([] : List Bd))]).getLast? = some (grFin gs, []) := by simp
      rw [addG_last hl2, List.dropLast_concat]
      cases gs with
      | nil => simp at hl
      | cons q qs => rfl
theorem put_len {gs : Gr} {b : Bd} : (allB (addG (rollG gs) b)).length = (allB gs).length + 1 := by
  rw [addG_allB (rollG_ne gs), rollG_allB]; simp
section
variable {W w : World} {l : List Res} {K : Value → World → Prop}
/-- all bytes of a slice of one's own are overwritten -/
theorem fillW_ok {s : Sl} {v : List UInt8} {Kn : World → Prop} (h : Sat W w (BsR s v :: l)) (hK : ∀ v' w', v'.length = v.length → Sat W w' (BsR s v' :: l) → Kn w') :
    LoopP (T := Int × Unit) (some (0, ())) w fun next63 t64 w65 =>
      ifB (decide (t64.fst < (↑s.len : Int)))
        (RunQ .addr P (Instr.indexAt T_sl_uint8 s.v (.int .i64 t64.fst)) w65 fun (a66 : Addr) =>
          StoreP P T_uint8 (.pointer (some a66)) (.int .u8 1) w65 fun w67 =>
            next63 (some ((IntKind.i64.wrap (t64.fst + 1)), ())) w67)
        (Kn w65) := by
  have hl := Sat.bsLen h
  refine ⟨fun t w' => ∃ (j : Nat) (v' : List UInt8), t.1 = j ∧ j ≤ v.length ∧ v'.length = v.length ∧ Sat W w' (BsR s v' :: l), fun t _ => v.length - t.1.toNat, ⟨0, v, rfl, Nat.zero_le _, rfl, h⟩, ?_⟩
  rintro ⟨tj, u⟩ w2 ⟨j, v', hj, hjl, hv', h1⟩
  simp only at hj ⊢
  subst hj
  refine ifB_dec (fun c => ?_) fun c => hK v' w2 hv' h1
  refine ixst et_bytes h1 (by omega) (by omega) fun w3 h2 => ?_
  rw [w_i64 (n := (j : Int) + 1) (by omega) (by omega)]
  have e : (v'.map vB).set j (Value.int .u8 1) = (v'.set j 1).map vB := by
    rw [List.map_set]; rfl
  have h3 : Sat W w3 (BsR s (v'.set j 1) :: l) := by
    have : Sat W w3 (SlR T_uint8 1 s ((v'.map vB).set ((j : Int)).toNat (Value.int .u8 1)) :: l) := h2
    rw [show ((j : Int)).toNat = j by omega, e] at this
    exact this
  exact ⟨⟨j + 1, v'.set j 1, by show (j : Int) + 1 = _; omega, by omega, by simp [hv'], h3⟩, by show v.length - ((j : Int) + 1).toNat < v.length - (j : Int).toNat; omega⟩
end
end Go.Proofs.YtbpcichakchpkaaGreatDoor
