/- Layer 12: a node alone that leads; elements' own bytes are written. -/
import Derived.Test.YtfbffgcoopelfaaRfP
namespace Go.Pk
open Go
theorem own_join {W w : World} {l m : List Res} {i : Nat} {R : Res} (hi : i < m.length) (h : Sat W w (R :: All (m.eraseIdx i) :: l)) : Sat W w (All (m.set i R) :: l) := by
  have h2 : (m.set i R).Perm (R :: m.eraseIdx i) := by
    clear h
    induction m generalizing i with
    | nil => simp at hi
    | cons A m ih =>
      cases i with
      | zero => exact .refl _
      | succ i => exact ((ih (by simpa using hi)).cons A).trans (.swap _ _ _)
  have h3 : Sat W w (All (m.eraseIdx i) :: R :: l) := h.swap
  have h4 : Sat W w (m.eraseIdx i ++ R :: l) := sat_all.1 h3
  refine sat_all.2 (h4.perm ?_)
  refine List.perm_middle.trans ?_
  have := h2.symm.append_right l
  simpa using this
end Go.Pk
namespace Go.Proofs.Ytfbffgcoopelfaa
open Go Go.Pk
def ow (t : Int) (s : Bool) (xs : List (List UInt8)) : Rs := ⟨0, 1, ⟨1, 0, 0, 0, [], (1, []) :: xs.map (fun d => (1, d))⟩, 3, 0, (xs.length : Int) + 1, t, 0, 4, none, [1], [(xs.length : Int) + 1], s, [], false, [], []⟩
theorem ow_last (t s xs) : (ow t s xs).last = (xs.length : Int) + 1 := by
  simp [Rs.last, ow]
theorem ow_propose (t : Int) (s : Bool) (xs : List (List UInt8)) (d : List UInt8) (hd : d.length ≤ 4096) : (ow t s xs).propose d = (ow t true (xs ++ [d]), (xs.length : Int) + 2, 0) := by
  have e1 : (ow t s xs).append d = ow t true (xs ++ [d]) := by
    unfold Rs.append Rs.advance
    have hl : (laidM (ow t s xs) d).last = (xs.length : Int) + 2 := by simp [Rs.last, ow]; omega
    have hlast : (laid (ow t s xs) d).last = (xs.length : Int) + 2 := by simp [Rs.last, ow]; omega
    show (laidM (ow t s xs) d).advFrom ((laidM (ow t s xs) d).last - (laidM (ow t s xs) d).commit).toNat (laidM (ow t s xs) d).last = _
    rw [hl]
    have hc : (laidM (ow t s xs) d).commit = (xs.length : Int) + 1 := rfl
    rw [hc, show ((xs.length : Int) + 2 - ((xs.length : Int) + 1)).toNat = 1 by omega]
    have ht : (laidM (ow t s xs) d).termAt ((xs.length : Int) + 2) = (1, true) := by
      unfold Rs.termAt
      rw [hl]
      have hb : (laidM (ow t s xs) d).hd.base = 0 := rfl
      rw [hb, if_neg (by omega), if_neg (by omega)]
      have hi : ((xs.length : Int) + 2 - 0 - 1).toNat = xs.length + 1 := by omega
      rw [hi]
      have hlog : (laidM (ow t s xs) d).hd.log = ((1, []) :: xs.map (fun d => ((1 : Int), d))) ++ [(1, d)] := rfl
      rw [hlog, List.getElem?_append_right (by simp)]
      simp
    have hm : (laidM (ow t s xs) d).mtch = [(xs.length : Int) + 2] := by
      show [(xs.length : Int) + 1].set 0 (laid (ow t s xs) d).last = _
      rw [hlast]; rfl
    have hh : (laidM (ow t s xs) d).have_ ((xs.length : Int) + 2) = 1 := by
      unfold Rs.have_
      rw [hm]; simp
    unfold Rs.advFrom
    rw [ht, hh]
    have h1 : (laidM (ow t s xs) d).hd.term = 1 := rfl
    have h2 : (laidM (ow t s xs) d).n = 1 := rfl
    rw [h1, h2, if_neg (by decide), if_pos (by decide)]
    simp only [laidM, laid, ow, List.map_append, List.map_cons, List.map_nil, List.cons_append, List.length_append, List.length_cons, List.length_nil]
    congr 1
  have e2 : (ow t true (xs ++ [d])).spread = ow t true (xs ++ [d]) := rfl
  unfold Rs.propose
  rw [if_neg (by show ¬ (3 : Int) ≠ 3; decide), if_neg (by omega), if_neg (by rw [ow_last]; show ¬ ((xs.length : Int) + 1 - ((xs.length : Int) + 1) ≥ 64); omega)]
  simp only [e1, e2, ow_last]
  congr 2
  simp; omega
theorem sane_ow (t : Int) (s : Bool) (xs : List (List UInt8)) (ht : 0 ≤ t ∧ t < 1000) (hn : xs.length ≤ 60) (hd : ∀ d ∈ xs, d.length ≤ 4096) : Sane (ow t s xs) where
  base := by show (0 : Int) ≤ 0 ∧ (0 : Int) < _; decide
  len := by show ((1, []) :: xs.map (fun d => ((1 : Int), d))).length < _; simp; omega
  id := by show (0 : Int) ≤ 0 ∧ (0 : Int) < 1; decide
  n := by show (1 : Int) ≤ 5; decide
  commit := by show 0 ≤ (xs.length : Int) + 1 ∧ (xs.length : Int) + 1 < _; omega
  told := by show 0 ≤ t ∧ t < _; omega
  ticks := by show (0 : Int) ≤ 0 ∧ (0 : Int) < 1000; decide
  limit := by show (0 : Int) ≤ 4 ∧ (4 : Int) < 1000; decide
  term := by show -9223372036854775808 ≤ (1 : Int) ∧ (1 : Int) < _; decide
  next := rfl
  mtch := rfl
  small := ⟨by show 0 ≤ _; decide, by show ((1, []) :: xs.map (fun d => ((1 : Int), d))).length < _; simp; omega, fun e he => by
    rcases List.mem_cons.1 he with rfl | he
    · simp
    · obtain ⟨d, h1, rfl⟩ := List.mem_map.1 he
      have := hd d h1
      show d.length ≤ _; omega⟩
  msgs := by show 0 < _; decide
  commits := by show 0 < _; decide
theorem roomy_ow (t : Int) (s : Bool) (xs : List (List UInt8)) (hn : xs.length ≤ 60) : Roomy (ow t s xs) := ⟨by show (1 : Int) + 1 < _; decide, by show 0 + 400 < _; decide, by show ((1, []) :: xs.map (fun d => ((1 : Int), d))).length + 1 < _; simp; omega⟩
theorem next_ow (t : Int) (s : Bool) (xs : List (List UInt8)) : NextOk (ow t s xs) := by
  intro x hx
  have : x ∈ [(1 : Int)] := hx
  simp at this
  omega
theorem takes_ow (t : Int) (s : Bool) (xs : List (List UInt8)) (ht : 0 ≤ t ∧ t < 1000) (hn : xs.length ≤ 60) (hd : ∀ d ∈ xs, d.length ≤ 4096) : Takes (ow t s xs) :=
  ⟨.inr ⟨Int.le_refl 0, ht.1, by rw [ow_last]; show (xs.length : Int) + 1 ≤ _; omega, (sane_ow t s xs ht hn hd).commit.2⟩, (sane_ow t s xs ht hn hd).small, by show 0 < _; decide⟩
theorem tells_get (r : Rs) : ∀ (k : Nat) (t : Int) (j : Nat), j < k → (r.tells k t)[j]? = some (t + j + 1, match r.hd.log[(t + j - r.hd.base).toNat]? with | some e => e.2 | none => [])
  | 0, _, j, h => by omega
  | k + 1, t, 0, _ => by
    rw [Rs.tells, List.getElem?_cons_zero, show t + ((0 : Nat) : Int) = t by omega]; rfl
  | k + 1, t, j + 1, h => by
    rw [Rs.tells, List.getElem?_cons_succ, tells_get r k (t + 1) j (by omega)]
    have e : t + 1 + (j : Int) = t + ((j + 1 : Nat) : Int) := by omega
    rw [e]
theorem ow_taken (t : Int) (s : Bool) (xs : List (List UInt8)) (ht : t ≤ (xs.length : Int) + 1) : (Rs.taken (ow t s xs)).2 = ow ((xs.length : Int) + 1) false xs := by
  show ({ (ow t s xs) with told := max t ((xs.length : Int) + 1), save := false, msgs := [], restore := false, rsnap := [], commits := [] } : Rs) = _
  rw [show max t ((xs.length : Int) + 1) = (xs.length : Int) + 1 by omega]
  rfl
theorem ow_commits (s : Bool) (xs : List (List UInt8)) : (Rs.taken (ow 0 s xs)).1.commits.length = xs.length + 1 ∧ ∀ i d, xs[i]? = some d → ∃ n, (Rs.taken (ow 0 s xs)).1.commits[i + 1]? = some (n, d) := by
  have e : (Rs.taken (ow 0 s xs)).1.commits = (ow 0 s xs).tells (xs.length + 1) 0 := by
    show [] ++ (ow 0 s xs).tells ((xs.length : Int) + 1 - 0).toNat 0 = _
    rw [show ((xs.length : Int) + 1 - 0).toNat = xs.length + 1 by omega]; rfl
  rw [e]
  refine ⟨tells_len _ _ _, fun i d hd => ?_⟩
  have hi : i < xs.length := (List.getElem?_eq_some_iff.1 hd).1
  refine ⟨(0 : Int) + ((i + 1 : Nat) : Int) + 1, ?_⟩
  rw [tells_get _ _ _ _ (by omega)]
  have hb : (ow 0 s xs).hd.base = 0 := rfl
  have hlog : (ow 0 s xs).hd.log = (1, []) :: xs.map (fun d => ((1 : Int), d)) := rfl
  rw [hb, hlog, show ((0 : Int) + ((i + 1 : Nat) : Int) - 0).toNat = i + 1 by omega, List.getElem?_cons_succ, List.getElem?_map, hd]
  rfl
section
variable {W w : World} {l : List Res} {K : Value → World → Prop}
theorem copyBytes {x : Sl} {n : List UInt8} {ty : TypeId} {K : Sl → World → Prop} (h : Sat W w l) (hx : Rd W l x 1 (n.map vB)) (hb : n.length ≤ 140737488355328) (hK : ∀ s w', Sat W w' (BsR s n :: l) → K s w') :
    RunK .sl P (Instr.buildSlice T_sl_uint8 0 #[]) w fun s1 w1 => RunK .sl P (Builtin.append_ #[T_sl_uint8, T_sl_uint8] ty #[s1.v, x.v]) w1 K := by
  refine bsB h (cs := []) (e := T_uint8) (fun w => by kernel_rfl) fun g w1 h1 => ?_
  have h2 : Sat W w1 (BsR ⟨some ⟨g, 0, none⟩, 0, 0⟩ [] :: l) := h1.mkSlr rfl (by simp) (by simp) (by simp) rfl (by simp)
  refine appBytes h2 (hx w1 h1.tail) (by simpa using hb) fun s w3 h3 => hK s w3 (by simpa using h3)
theorem fillLoop {s : Sl} {o : List UInt8} (c : UInt8) {K : World → Prop} (h : Sat W w (BsR s o :: l)) (hK : ∀ w', Sat W w' l → K w') :
    LoopP (T := Int × Unit) (some (0, ())) w fun next t w1 =>
      ifB (decide (t.fst < (↑s.len : Int)))
       (RunQ .addr P (Instr.indexAt T_sl_uint8 s.v (.int .i64 t.fst)) w1 fun (a : Addr) =>
        StoreP P T_uint8 (.pointer (some a)) (.int .u8 (c.toNat : Int)) w1 fun w2 => next (some ((IntKind.i64.wrap (t.fst + 1)), ())) w2)
       (K w1) := by
  refine ⟨fun z w' => ∃ (i : Nat) (o' : List UInt8), z.1 = i ∧ i ≤ s.len ∧ Sat W w' (BsR s o' :: l), fun z _ => s.len - z.1.toNat, ⟨0, o, rfl, by omega, h⟩, ?_⟩
  rintro ⟨i', u⟩ w1 ⟨i, o', hi, hil, h1⟩
  simp only at hi ⊢
  subst hi
  have hsl := Go.Proofs.Ytfbffgcoopelfaa.Sat.bsLen h1
  refine ifB_dec (fun hlt => ?_) fun hge => hK w1 h1.tail
  refine ixst et_bytes h1 (by omega) (by omega) fun w2 h2 => ?_
  rw [w_i64 (by omega) (by omega)]
  refine ⟨⟨i + 1, o'.set i c, rfl, by omega, ?_⟩, by omega⟩
  have e : (o'.map vB).set i (vB c) = (o'.set i c).map vB := by rw [List.map_set]
  rw [BsR, ← e]; exact h2
/-- a byte that an element owns is written -/
theorem stEl {T : TypeId} {s : Sl} {es : List EnC} {i : Nat} {e : EnC} (h : Sat W w (OwnS (elP T) s es :: l)) (hi : es[i]? = some e) {k : Int} (h0 : 0 ≤ k) (hk : k.toNat < e.s.len) (c : UInt8) {K : World → Prop}
    (hK : ∀ w', Sat W w' (OwnS (elP T) s (es.set i { e with d := e.d.set k.toNat c }) :: l) → K w') :
    RunQ .addr P (Instr.indexAt T_sl_uint8 e.s.v (.int .i64 k)) w fun a => StoreP P T_uint8 (.pointer (some a)) (.int .u8 (c.toNat : Int)) w K := by
  have h1 := (sat_own.1 h).swap
  have hlt : i < es.length := (List.getElem?_eq_some_iff.1 hi).1
  have h2 : Sat W w (BsR e.s e.d :: _) := own_split (i := i) (R := BsR e.s e.d) (by rw [List.getElem?_map, hi]; rfl) h1
  refine ixst et_bytes h2 h0 hk fun w2 h3 => hK w2 ?_
  have e1 : (e.d.map vB).set k.toNat (vB c) = (e.d.set k.toNat c).map vB := by rw [List.map_set]
  have h3' : Sat W w2 (SlR T_uint8 1 e.s ((e.d.map vB).set k.toNat (vB c)) :: All ((List.map (elP T).own es).eraseIdx i) :: SlR (elP T).T (elP T).sz s ((elP T).flat es) :: l) := h3
  rw [e1] at h3'
  have h5 := own_join (m := es.map (elP T).own) (i := i) (by simpa using hlt) h3'
  refine sat_own.2 (Sat.swap ?_)
  have e2 : (es.map (elP T).own).set i (BsR e.s (e.d.set k.toNat c)) = (es.set i { e with d := e.d.set k.toNat c }).map (elP T).own := by rw [List.map_set]; rfl
  have e3 : (elP T).flat (es.set i { e with d := e.d.set k.toNat c }) = (elP T).flat es := by
    have hh : es[i] = e := by have := List.getElem?_eq_getElem hlt; rw [hi] at this; exact (Option.some.inj this).symm
    unfold El.flat
    rw [List.flatMap_def, List.flatMap_def, List.map_set]
    congr 1
    have : (elP T).cells { e with d := e.d.set k.toNat c } = (es.map (elP T).cells)[i]'(by simpa using hlt) := by rw [List.getElem_map, hh]; rfl
    rw [this, List.set_getElem_self]
  rw [← e2, e3]
  exact h5
end
end Go.Proofs.Ytfbffgcoopelfaa
