/- Layer 12: copies. -/
import Derived.Test.YtfbffgcoopelfaaRfA
import Derived.Test.YtfbffgcoopelfaaE2
import Derived.Test.YtfbffgcoopelfaaFRa
namespace Go.Proofs.Ytfbffgcoopelfaa
open Go Go.Pk
theorem ifB_intro {t : Bool} {A B : Prop} (h1 : t = true → A) (h2 : t = false → B) : ifB t A B := by cases t; exact h2 rfl; exact h1 rfl
theorem ifB_dec {p : Prop} [Decidable p] {A B : Prop} (h1 : p → A) (h2 : ¬ p → B) : ifB (decide p) A B := by
  by_cases h : p
  · rw [decide_eq_true h]; exact h1 h
  · rw [decide_eq_false h]; exact h2 h
theorem ifB_beq {a b : Int} {A B : Prop} (h1 : a = b → A) (h2 : a ≠ b → B) : ifB (a == b) A B := by
  by_cases h : a = b
  · have : (a == b) = true := by simp [h]
    rw [this]; exact h1 h
  · have : (a == b) = false := by simp [h]
    rw [this]; exact h2 h
theorem ifB_bne {a b : Int} {A B : Prop} (h1 : a ≠ b → A) (h2 : a = b → B) : ifB (a != b) A B := by
  by_cases h : a = b
  · have : (a != b) = false := by simp [h]
    rw [this]; exact h2 h
  · have : (a != b) = true := by simp [h]
    rw [this]; exact h1 h
/-- entries that can be read -/
def EnRd (W : World) (l : List Res) (s : Sl) (xs : List En) : Prop := ∃ es : List EnC, es.map EnC.dat = xs ∧ Rd W l s 2 ((elP T_api_Entry).flat es) ∧ ∀ e ∈ es, Rd W l e.s 1 (e.d.map vB)
def EnSm (xs : List En) : Prop := xs.length < 2 ^ 40 ∧ ∀ e ∈ xs, e.2.length ≤ 140737488355328
section
variable {W w : World} {l : List Res} {K : Value → World → Prop}
theorem EnRd.cons {R : Res} {s : Sl} {xs : List En} (h : EnRd W l s xs) : EnRd W (R :: l) s xs := by
  obtain ⟨es, h1, h2, h3⟩ := h
  exact ⟨es, h1, h2.cons, fun e he => (h3 e he).cons⟩
theorem appBytes {s x : Sl} {o n : List UInt8} {ty : TypeId} {K : Sl → World → Prop} (h : Sat W w (BsR s o :: l)) (hx : RdC w x 1 (n.map vB)) (hb : o.length + n.length ≤ 140737488355328)
    (hK : ∀ s' w', Sat W w' (BsR s' (o ++ n) :: l) → K s' w') : RunK .sl P (Builtin.append_ #[T_sl_uint8, T_sl_uint8] ty #[s.v, x.v]) w K := by
  have h1 := Sat.bsLen h
  have h2 := hx.1
  simp at h2
  refine appB et_bytes (by decide) h hx (vB_all n) (by omega) (by omega) fun s' w' h' _ => hK s' w' (by rw [BsR, List.map_append]; exact h')
/-- bytes are copied -/
theorem cpBytes {x : Sl} {n : List UInt8} {ty : TypeId} {K : Sl → World → Prop} (h : Sat W w l) (hx : RdC w x 1 (n.map vB)) (hb : n.length ≤ 140737488355328) (hK : ∀ s w', Sat W w' (BsR s n :: l) → K s w') :
    RunK .sl P (Builtin.append_ #[T_sl_uint8, T_sl_uint8] ty #[.slice none 0 0, x.v]) w K :=
  appBytes (s := ⟨none, 0, 0⟩) (o := []) (Sat.nilSlr h T_uint8 1) hx (by simpa using hb) fun s w' h' => hK s w' (by simpa using h')
theorem bytes_ok {x : Sl} {n : List UInt8} (h : Sat W w l) (hx : Rd W l x 1 (n.map vB)) (hb : n.length ≤ 140737488355328) (hK : ∀ s w', Sat W w' (BsR s n :: l) → K s.v w') : CallP P F_ref12_bytes [x.v] w K := by
  apply c_ref12_bytes
  unfold S_ref12_bytes
  exact cpBytes h (hx w h) hb fun s w' h' => hK s w' h'
/-- a pair is laid behind -/
theorem prPush {t T : TypeId} (et : ET P t T 2 32) {s ds : Sl} {xs : List En} {a : Int} {d : List UInt8} {ty : TypeId} (h : Sat W w (BsR ds d :: PrR T s xs :: l)) (hn : xs.length < 2 ^ 40)
    (hr : ∀ w, (Instr.buildSlice t 1 #[(0, .agg #[.int .i64 a, ds.v])]).run P w = .ok (.slice (some ⟨w.heap.size, 0, none⟩) 1 1) (w.alloc (.cells #[.int .i64 a, ds.v] T)))
    {S : World → Prop} (hS1 : ∀ g w', Sat W w' (Blk g [.int .i64 a, ds.v] T :: BsR ds d :: PrR T s xs :: l) → S w') {K : Sl → World → Prop}
    (hK : ∀ s' w', Sat W w' (PrR T s' (xs ++ [(a, d)]) :: l) → K s' w') :
    RunK .sl P (Instr.buildSlice t 1 #[(0, .agg #[.int .i64 a, ds.v])]) w fun s5 w6 => S w6 ∧ RunK .sl P (Builtin.append_ #[t, t] ty #[s.v, s5.v]) w6 K := by
  refine bsB h (cs := [.int .i64 a, ds.v]) (e := T) hr fun g w1 h1 => ⟨hS1 g w1 h1, ?_⟩
  obtain ⟨es, rfl, h2⟩ := sat_pr.1 (h1.up 2)
  have h3 : Sat W w1 (Blk g ((elP T).cells ⟨a, ds, d⟩) T :: (elP T).own ⟨a, ds, d⟩ :: OwnS (elP T) s es :: l) := (h2.up 2).up 2
  simp only [List.length_map] at hn
  refine own_push (E := elP T) (x := ⟨a, ds, d⟩) et rfl rfl (by decide) h3 (by omega) (by omega) fun s' w' h4 => hK s' w' (sat_pr.2 ⟨es ++ [⟨a, ds, d⟩], by simp, h4⟩)
theorem pr_nil {T : TypeId} (h : Sat W w l) : Sat W w (PrR T ⟨none, 0, 0⟩ [] :: l) := sat_pr.2 ⟨[], rfl, own_nil h⟩
theorem run_bsEn (a : Int) (s : Sl) (w : World) : (Instr.buildSlice T_sl_api_Entry 1 #[(0, .agg #[.int .i64 a, s.v])]).run P w = .ok (.slice (some ⟨w.heap.size, 0, none⟩) 1 1) (w.alloc (.cells #[.int .i64 a, s.v] T_api_Entry)) := by kernel_rfl
theorem run_bsCm (a : Int) (s : Sl) (w : World) : (Instr.buildSlice T_sl_api_Commit 1 #[(0, .agg #[.int .i64 a, s.v])]).run P w = .ok (.slice (some ⟨w.heap.size, 0, none⟩) 1 1) (w.alloc (.cells #[.int .i64 a, s.v] T_api_Commit)) := by kernel_rfl
theorem Rd.enLen {s : Sl} {es : List EnC} (h : Sat W w l) (hr : Rd W l s 2 ((elP T_api_Entry).flat es)) : s.len = es.length := by
  have := (hr w h).1
  rw [flat_length] at this
  have h2 : (elP T_api_Entry).sz = 2 := rfl
  rw [h2] at this
  omega
theorem entries_ok {x : Sl} {xs : List En} (h : Sat W w l) (hr : EnRd W l x xs) (hs : EnSm xs) (hK : ∀ s w', Sat W w' (PrR T_api_Entry s xs :: l) → K s.v w') : CallP P F_raft_entries [x.v] w K := by
  apply c_raft_entries
  unfold S_raft_entries
  obtain ⟨es, rfl, h1, h2⟩ := hr
  have hl := Rd.enLen h h1
  obtain ⟨hs1, hs2⟩ := hs
  simp only [List.length_map] at hs1
  refine ⟨fun z w' => ∃ i : Nat, z.2.1 = i ∧ i ≤ es.length ∧ Sat W w' (PrR T_api_Entry z.1 ((es.map EnC.dat).take i) :: l), fun z _ => es.length - z.2.1.toNat, ⟨0, rfl, Nat.zero_le _, pr_nil h⟩, ?_⟩
  rintro ⟨s, i', u⟩ w1 ⟨i, hi, hil, h3⟩
  simp only at hi h3 ⊢
  subst hi
  refine ifB_dec (fun hlt => ?_) fun hge => ?_
  · have hi1 : i < es.length := by omega
    have hx : es[(i : Int).toNat]? = some es[i] := by simp [hi1]
    refine ixEl et_ents rfl (h1 w1 h3.tail) (by omega) hx (by omega) fun a ha => ?_
    refine ldAggC (cs := es[i].cells) ha ?_
    refine newAgg (z := [.int .i64 0, .slice none 0 0]) h3 ((elP T_api_Entry).one es[i]) fun a5 w2 h4 => ?_
    have h5 : Sat W w2.drew (Blk a5 es[i].cells T_api_Entry :: PrR T_api_Entry s ((es.map EnC.dat).take i) :: l) := h4.drew
    let S : World → Prop := fun w => ∃ L, Sat W w (Blk a5 es[i].cells T_api_Entry :: L)
    have hS : ∀ w, S w → ∃ l, Sat W w (Blk a5 es[i].cells T_api_Entry :: l) := fun _ h => h
    refine ⟨S, ⟨_, h5⟩, ?_⟩
    refine hldX hS 0 (x := es[i].t) ?_
    refine hldX hS 1 (x := es[i].s) ?_
    have hm : es[i] ∈ es := List.getElem_mem hi1
    refine cpBytes (h5.up 1) (h2 _ hm w2.drew h5.tail.tail) (hs2 _ (List.mem_map.2 ⟨_, hm, rfl⟩)) fun s11 w3 h6 => ⟨⟨_, h6.up 2⟩, ?_⟩
    refine prPush et_ents (S := S) (h6) (by simp; omega) (run_bsEn _ _) (fun g w' h' => ⟨_, h'.up 3⟩) fun s15 w4 h7 => ⟨⟨_, h7.up 1⟩, ?_⟩
    rw [w_i64 (by omega) (by omega)]
    refine ⟨⟨i + 1, rfl, by omega, ?_⟩, by omega⟩
    have e : (es.map EnC.dat).take (i + 1) = (es.map EnC.dat).take i ++ [(es[i].t, es[i].d)] := by
      rw [List.take_add_one]; simp [hi1]
    rw [e]
    exact h7.cut 1
  · rw [List.take_of_length_le (by simp; omega)] at h3
    exact hK s w1 h3
theorem list_ok {x : Sl} {xs : List En} (h : Sat W w l) (hr : EnRd W l x xs) (hs : EnSm xs) (hK : ∀ s w', Sat W w' (PrR T_api_Entry s xs :: l) → K s.v w') : CallP P F_ref12_list [x.v] w K := by
  apply c_ref12_list
  unfold S_ref12_list
  obtain ⟨es, rfl, h1, h2⟩ := hr
  have hl := Rd.enLen h h1
  obtain ⟨hs1, hs2⟩ := hs
  simp only [List.length_map] at hs1
  refine ⟨fun z w' => ∃ i : Nat, z.2.1 = i ∧ i ≤ es.length ∧ Sat W w' (PrR T_api_Entry z.1 ((es.map EnC.dat).take i) :: l), fun z _ => es.length - z.2.1.toNat, ⟨0, rfl, Nat.zero_le _, pr_nil h⟩, ?_⟩
  rintro ⟨s, i', u⟩ w1 ⟨i, hi, hil, h3⟩
  simp only at hi h3 ⊢
  subst hi
  refine ifB_dec (fun hlt => ?_) fun hge => ?_
  · have hi1 : i < es.length := by omega
    have hx : es[(i : Int).toNat]? = some es[i] := by simp [hi1]
    let S : World → Prop := fun w => Sat W w l
    have hS : ∀ w, S w → RdC w x 2 ((elP T_api_Entry).flat es) := fun w h => h1 w h
    have h4 := h3.drew
    refine ⟨S, h4.tail, ?_⟩
    refine hixEl et_ents rfl hS h4.tail (by omega) hx (by omega) fun a ha => ?_
    refine hld (x := es[i].t) (fun w hw => ha w hw 0 _ rfl) ?_
    refine hixEl et_ents rfl hS h4.tail (by omega) hx (by omega) fun a ha => ?_
    refine hld (x := es[i].s) (fun w hw => ha w hw 1 _ rfl) ?_
    have hm : es[i] ∈ es := List.getElem_mem hi1
    refine bytes_ok h4 ((h2 _ hm).cons) (hs2 _ (List.mem_map.2 ⟨_, hm, rfl⟩)) fun s11 w3 h6 => tyI ⟨h6.tail.tail, ?_⟩
    refine prPush et_ents (S := S) h6 (by simp; omega) (run_bsEn _ _) (fun g w' h' => h'.tail.tail.tail) fun s15 w4 h7 => ⟨h7.tail, ?_⟩
    rw [w_i64 (by omega) (by omega)]
    refine ⟨⟨i + 1, rfl, by omega, ?_⟩, by omega⟩
    have e : (es.map EnC.dat).take (i + 1) = (es.map EnC.dat).take i ++ [(es[i].t, es[i].d)] := by
      rw [List.take_add_one]; simp [hi1]
    rw [e]
    exact h7
  · rw [List.take_of_length_le (by simp; omega)] at h3
    exact hK s w1 h3
/-- what is kept, with its slices -/
structure HdC where
  h : Hd
  ss : Sl
  ls : Sl
def HdC.cells (c : HdC) : List Value := [.int .i64 c.h.term, .int .i64 c.h.vote, .int .i64 c.h.base, .int .i64 c.h.bterm, c.ss.v, c.ls.v]
theorem HdC.ones (c : HdC) : ∀ u ∈ c.cells, u.oneCell' = true := by
  intro u hu
  simp only [HdC.cells, List.mem_cons, List.not_mem_nil, or_false] at hu
  rcases hu with rfl | rfl | rfl | rfl | rfl | rfl <;> rfl
def HdRd (W : World) (l : List Res) (c : HdC) : Prop := Rd W l c.ss 1 (c.h.snap.map vB) ∧ EnRd W l c.ls c.h.log
def Hd.Sm (h : Hd) : Prop := h.snap.length ≤ 140737488355328 ∧ EnSm h.log
theorem HdRd.cons {R : Res} {c : HdC} (h : HdRd W l c) : HdRd W (R :: l) c := ⟨h.1.cons, h.2.cons⟩
abbrev zHd : List Value := [.int .i64 0, .int .i64 0, .int .i64 0, .int .i64 0, .slice none 0 0, .slice none 0 0]
theorem own_ok {c : HdC} (h : Sat W w l) (hr : HdRd W l c) (hs : Hd.Sm c.h) (hK : ∀ ss ls w', Sat W w' (BsR ss c.h.snap :: PrR T_api_Entry ls c.h.log :: l) → K (.agg (HdC.cells ⟨c.h, ss, ls⟩).toArray) w') :
    CallP P F_raft_own [.agg c.cells.toArray] w K := by
  apply c_raft_own
  unfold S_raft_own
  refine boxB h fun a0 w1 h1 => ?_
  have h1 : Sat W w1 (Blk a0 c.cells T_api_Hard :: l) := h1
  refine allocB h1 (z := .agg zHd.toArray) (by kernel_rfl) fun a2 w2 h2 => ?_
  have h2 : Sat W w2 (Blk a2 zHd T_api_Hard :: Blk a0 c.cells T_api_Hard :: l) := h2
  refine ldX (h2.up 1) 4 (x := c.ss) ?_
  refine cpBytes h2 (hr.1 w2 h2.tail.tail) hs.1 fun ss w3 h3 => ?_
  refine stX (h3.up 2) 4 (v := ss.v) (hi := (by show 4 < 6; decide)) fun w4 h4 => ?_
  have h4 : Sat W w4 (Blk a0 (HdC.cells ⟨c.h, ss, c.ls⟩) T_api_Hard :: BsR ss c.h.snap :: Blk a2 zHd T_api_Hard :: l) := h4
  refine ldX h4 5 (x := c.ls) ?_
  refine entries_ok h4 hr.2.cons.cons.cons hs.2 fun ls w5 h5 => tyI ?_
  refine stX (h5.up 1) 5 (v := ls.v) (hi := (by show 5 < 6; decide)) fun w6 h6 => ?_
  have h6 : Sat W w6 (Blk a0 (HdC.cells ⟨c.h, ss, ls⟩) T_api_Hard :: PrR T_api_Entry ls c.h.log :: BsR ss c.h.snap :: Blk a2 zHd T_api_Hard :: l) := h6
  refine ldAggB h6 (by kernel_rfl) ?_
  refine stAggB (cs' := HdC.cells ⟨c.h, ss, ls⟩) (h6.up 3) rfl (HdC.ones _) (by kernel_rfl) fun w7 h7 => ?_
  refine ldAggB h7 (by kernel_rfl) ?_
  exact hK ss ls w7 ((h7.cut 0).cut 0 |>.up 1)
theorem copy_ok {c : HdC} (h : Sat W w l) (hr : HdRd W l c) (hs : Hd.Sm c.h) (hK : ∀ ss ls w', Sat W w' (BsR ss c.h.snap :: PrR T_api_Entry ls c.h.log :: l) → K (.agg (HdC.cells ⟨c.h, ss, ls⟩).toArray) w') :
    CallP P F_ref12_Copy [.agg c.cells.toArray] w K := by
  apply c_ref12_Copy
  unfold S_ref12_Copy
  refine boxB h fun a0 w1 h1 => ?_
  have h1 : Sat W w1 (Blk a0 c.cells T_api_Hard :: l) := h1
  refine allocB h1 (z := .agg zHd.toArray) (by kernel_rfl) fun a2 w2 h2 => ?_
  have h2 : Sat W w2 (Blk a2 zHd T_api_Hard :: Blk a0 c.cells T_api_Hard :: l) := h2
  refine ldX (h2.up 1) 4 (x := c.ss) ?_
  refine bytes_ok h2 hr.1.cons.cons hs.1 fun ss w3 h3 => tyI ?_
  refine stX (h3.up 2) 4 (v := ss.v) (hi := (by show 4 < 6; decide)) fun w4 h4 => ?_
  have h4 : Sat W w4 (Blk a0 (HdC.cells ⟨c.h, ss, c.ls⟩) T_api_Hard :: BsR ss c.h.snap :: Blk a2 zHd T_api_Hard :: l) := h4
  refine ldX h4 5 (x := c.ls) ?_
  refine list_ok h4 hr.2.cons.cons.cons hs.2 fun ls w5 h5 => tyI ?_
  refine stX (h5.up 1) 5 (v := ls.v) (hi := (by show 5 < 6; decide)) fun w6 h6 => ?_
  have h6 : Sat W w6 (Blk a0 (HdC.cells ⟨c.h, ss, ls⟩) T_api_Hard :: PrR T_api_Entry ls c.h.log :: BsR ss c.h.snap :: Blk a2 zHd T_api_Hard :: l) := h6
  refine ldAggB h6 (by kernel_rfl) ?_
  refine stAggB (cs' := HdC.cells ⟨c.h, ss, ls⟩) (h6.up 3) rfl (HdC.ones _) (by kernel_rfl) fun w7 h7 => ?_
  refine ldAggB h7 (by kernel_rfl) ?_
  exact hK ss ls w7 ((h7.cut 0).cut 0 |>.up 1)
end
end Go.Proofs.Ytfbffgcoopelfaa
