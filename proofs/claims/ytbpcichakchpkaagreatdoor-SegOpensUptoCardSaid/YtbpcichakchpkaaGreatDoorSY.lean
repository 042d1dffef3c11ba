/- Layer 8: the reference's log is read and grows; lists are compared. -/
import Derived.Test.YtbpcichakchpkaaGreatDoorSX
namespace Go.Proofs.YtbpcichakchpkaaGreatDoor
open Go Go.Pk
theorem bd_dat {d e : Dc} : d.dat = e.dat ↔ d.bd = e.bd := by
  constructor
  · exact bd_eq
  · intro h
    unfold Dc.bd at h
    simp only [Bd.mk.injEq] at h
    obtain ⟨h1, h2, h3, h4, h5, h6, h7, h8, h9⟩ := h
    unfold Dc.dat
    rw [h1, h2, h3, h4, h5, h6, h7, h8, h9]
section
variable {W w : World} {l : List Res} {K : Value → World → Prop} {a : Nat} {r : Rl} {ls bs : Sl} {ds : List Dc}
theorem rread_ok {n k : Int} (hds : ds.map Dc.bd = r.list) (h : Sat W w (RlL a r ls bs ds l)) (hb : RlB r) (hlen : r.list.length ≤ 1073741824)
    (hK : ∀ s ds' w', ds'.map Dc.bd = r.read n k → (∀ d ∈ ds', d ∈ ds) → Sat W w' (SlR T_api_Batch 9 s (elB.flat ds') :: RlL a r ls bs ds l) → K s.v w') :
    CallP P F_ref08_Log_Read [.pointer (some ⟨a, 0, none⟩), .int .i64 n, .int .i64 k] w K := by
  apply c_ref08_Log_Read
  unfold S_ref08_Log_Read
  have hol := own_len (h.up 1) (by decide : 0 < 9)
  have hdl : ds.length = r.list.length := by rw [← hds]; simp
  refine ⟨fun t w' => ∃ (j : Nat) (es : List Dc), t.2.1 = j ∧ j ≤ ds.length ∧ es.map Dc.bd = behind n ((ds.take j).map Dc.bd) ∧ es.length ≤ k.toNat ∧ es.length ≤ j ∧ (∀ d ∈ es, d ∈ ds) ∧ Sat W w' (SlR T_api_Batch 9 t.1 (elB.flat es) :: RlL a r ls bs ds l), fun t _ => ds.length - t.2.1.toNat,
    ⟨0, [], rfl, Nat.zero_le _, rfl, Nat.zero_le _, Nat.le_refl _, (fun d hd => by cases hd), Sat.nilSlr h T_api_Batch 9⟩, ?_⟩
  rintro ⟨t1, tj, u⟩ w2 ⟨j, es, hj, hjl, hes, hek, hej, hem, h1⟩
  simp only at hj h1 ⊢
  subst hj
  have hsl := h1.slLen
  have hfl : (elB.flat es).length = es.length * 9 := by
    have := flat_length (E := elB) es
    exact this
  have hpre : behind n r.list = behind n ((ds.take j).map Dc.bd) ++ behind n ((ds.drop j).map Dc.bd) := by
    rw [← behind_app, ← List.map_append, List.take_append_drop, hds]
  have stop : ∀ w', (j = ds.length ∨ (k ≤ es.length)) → Sat W w' (SlR T_api_Batch 9 t1 (elB.flat es) :: RlL a r ls bs ds l) → K t1.v w' := by
    intro w' hc h2
    refine hK t1 es w' ?_ hem h2
    unfold Rl.read
    rw [hpre, ← hes]
    have hl : (es.map Dc.bd).length = es.length := by simp
    rcases hc with hc | hc
    · have : (ds.drop j).map Dc.bd = [] := by rw [List.drop_of_length_le (by omega)]; rfl
      rw [this]
      show es.map Dc.bd = (es.map Dc.bd ++ []).take k.toNat
      rw [List.append_nil, List.take_of_length_le (by omega)]
    · rw [List.take_left' (by omega)]
  refine ⟨fun _ w' => w' = w2 ∧ j < ds.length ∧ (t1.len : Int) < k, ?_, ?_⟩
  · rintro _ w5 ⟨rfl, hlt, hk⟩
    have hd : ds[j]? = some ds[j] := List.getElem?_eq_getElem hlt
    generalize ds[j] = d at hd
    have hnx : behind n ((ds.take (j + 1)).map Dc.bd) = behind n ((ds.take j).map Dc.bd) ++ if n < d.bd.fin then [d.bd] else [] := by
      rw [take_next hd, List.map_append, behind_app]
      congr 1
      unfold behind
      by_cases c : n < d.bd.fin
      · rw [if_pos c]
        show List.filter _ [d.bd] = _
        rw [List.filter_cons_of_pos (p := fun x : Bd => decide (n < x.fin)) (show decide (n < d.bd.fin) = true from decide_eq_true c)]; rfl
      · rw [if_neg c]
        show List.filter _ [d.bd] = _
        rw [List.filter_cons_of_neg (p := fun x : Bd => decide (n < x.fin)) (show ¬ decide (n < d.bd.fin) = true from fun h => c (of_decide_eq_true h))]; rfl
    have h2 := h1.drew
    have h3 : Sat W w5.drew (OwnS elB ls ds :: SlR T_api_Batch 9 t1 (elB.flat es) :: Blk a (rlcells r ls bs) T_penstockref08_Log :: IsR bs r.bases :: l) := h2.sel 3 [2, 0, 1]
    let S : World → Prop := fun w => ∃ L, Sat W w (RlL a r ls bs ds L)
    have hS : ∀ w, S w → ∃ L, Sat W w (Blk a (rlcells r ls bs) T_penstockref08_Log :: L) := fun w hw => by obtain ⟨L, hw⟩ := hw; exact ⟨_, hw⟩
    have hS1 : ∀ w, S w → ∃ L, Sat W w (OwnS elB ls ds :: L) := fun w hw => by obtain ⟨L, hw⟩ := hw; exact ⟨_, hw.up 1⟩
    have hS2 : ∀ w, S w → RdC w ls 9 (elB.flat ds) := fun w hw => by obtain ⟨L, hw⟩ := hw; exact (sat_own.1 (hw.up 1)).rdc
    refine ⟨S, ⟨_, h2.tail⟩, ?_⟩
    refine hldX hS 0 (x := ls) ?_
    refine hixEl et_batches (E := elB) rfl hS2 ⟨_, h2.tail⟩ (by omega) (x := d) (by rw [show ((j : Int)).toNat = j by omega]; exact hd) (by omega) fun a1 ha1 => ?_
    refine ⟨d.ba, fun w hw => run_load1 (by kernel_rfl) (by have := ha1 w hw 0 _ rfl; exact this), ?_⟩
    refine hldX hS 0 (x := ls) ?_
    refine own_at (W := W) (w := w5.drew) hd ⟨_, h2.tail⟩ hS1 ?_
    obtain ⟨hv, hnum⟩ := bt_rd hd h3
    refine rsize_ok (d := d) h3 hv fun w18 h4 => tyI (k := .int .i64) ⟨⟨SlR T_api_Batch 9 t1 (elB.flat es) :: l, h4.sel 4 [2, 0, 3, 1]⟩, ?_⟩
    have e1 : d.ba + (if d.ct then 1 else (d.bs.length : Int)) = d.bd.fin := rfl
    have hsz : 0 ≤ d.bd.size := by unfold Bd.size; split <;> omega
    have e2 : d.bd.fin = d.ba + d.bd.size := rfl
    have e3 : d.bd.ba = d.ba := rfl
    have hdm := hb d.bd (by rw [← hds]; exact List.mem_map.2 ⟨d, List.mem_of_getElem? hd, rfl⟩)
    rw [e1, w_i64 (n := (j : Int) + 1) (by omega) (by omega), w_i64 (n := d.bd.fin) (by omega) (by omega)]
    have h5 : Sat W w18 (SlR T_api_Batch 9 t1 (elB.flat es) :: RlL a r ls bs ds l) := h4.sel 4 [1, 2, 0, 3]
    refine ifB_dec (fun c => ?_) fun c => ?_
    · rw [if_pos (by omega)] at hnx
      refine ldX (h5.up 1) 0 (x := ls) ?_
      refine own_atR hd (h5.up 2) ?_
      refine bsB h5 (cs := d.cells) (e := T_api_Batch) (fun w => by kernel_rfl) fun gb w25 h6 => ?_
      refine appB et_batches (by decide) (s := t1) (x := ⟨some ⟨gb, 0, none⟩, 1, 1⟩) (news := d.cells) (h6.up 1) (rdBlk ((h6.up 1).up 1) rfl) d.ones (by show (t1.len + 1) * _ ≤ _; omega) (by show t1.len + 1 < _; omega) fun s26 w27 h7 _ => ?_
      have e7 : elB.flat es ++ d.cells = elB.flat (es ++ [d]) := by rw [flat_app, flat_one]; rfl
      rw [e7] at h7
      refine ⟨⟨j + 1, es ++ [d], by show (j : Int) + 1 = _; omega, by omega, by rw [List.map_append, hes, hnx]; rfl, by rw [List.length_append, List.length_singleton]; omega, by rw [List.length_append, List.length_singleton]; omega, ?_, h7.cut 1⟩, by show ds.length - ((j : Int) + 1).toNat < ds.length - (j : Int).toNat; omega⟩
      intro x hx
      rcases List.mem_append.1 hx with hx | hx
      · exact hem x hx
      · rw [List.mem_singleton.1 hx]; exact List.mem_of_getElem? hd
    · rw [if_neg (by omega), List.append_nil] at hnx
      exact ⟨⟨j + 1, es, by show (j : Int) + 1 = _; omega, by omega, by rw [hes, hnx], hek, by omega, hem, h5⟩, by show ds.length - ((j : Int) + 1).toNat < ds.length - (j : Int).toNat; omega⟩
  · refine ldX (h1.up 1) 0 (x := ls) ?_
    refine ifB_dec (fun c => ?_) fun c => ?_
    · refine ifB_dec (fun c2 => ?_) fun c2 => ?_
      · exact ⟨rfl, by omega, c2⟩
      · exact stop w2 (.inr (by omega)) h1
    · exact stop w2 (.inl (by omega)) h1
theorem samelist_ok {x y : Sl} {es fs : List Dc} (h : Sat W w l) (hx : Rd W l x 9 (elB.flat es)) (hy : Rd W l y 9 (elB.flat fs)) (hvx : ∀ d ∈ es, VRd W l d) (hvy : ∀ d ∈ fs, VRd W l d) (hsx : ∀ d ∈ es, d.bs.length ≤ 16 ∧ ∀ v ∈ d.bs, v.length ≤ 64)
    (hle : es.length ≤ 1073741824) (hK : ∀ w', Sat W w' l → K (.bool (@decide (es.map Dc.bd = fs.map Dc.bd) (Classical.propDecidable _))) w') : CallP P F_ref07_SameList [x.v, y.v] w K := by
  apply c_ref07_SameList
  unfold S_ref07_SameList
  have hxr := hx w h
  have hyr := hy w h
  have hxl : x.len = es.length := by have h1 := hxr.1; have h2 := flat_length (E := elB) es; have e : elB.sz = 9 := rfl; rw [e] at h2; omega
  have hyl : y.len = fs.length := by have h1 := hyr.1; have h2 := flat_length (E := elB) fs; have e : elB.sz = 9 := rfl; rw [e] at h2; omega
  refine ifB_bne (fun c => ?_) fun c => ?_
  · have := hK w h
    rw [@decide_eq_false _ (Classical.propDecidable _) (fun he => c (by have := congrArg List.length he; simp at this; omega))] at this
    exact this
  · refine ⟨fun t w' => ∃ i : Nat, t.1 = i ∧ i ≤ es.length ∧ (es.take i).map Dc.bd = (fs.take i).map Dc.bd ∧ Sat W w' l, fun t _ => es.length - t.1.toNat, ⟨0, rfl, Nat.zero_le _, by simp, h⟩, ?_⟩
    rintro ⟨ti, u⟩ w2 ⟨i, hi, hil, heq, h1⟩
    simp only at hi ⊢
    subst hi
    refine ifB_dec (fun hlt => ?_) fun hge => ?_
    · have hlt' : i < es.length := by omega
      have hd : es[i]? = some es[i] := List.getElem?_eq_getElem hlt'
      have he : fs[i]? = some fs[i] := List.getElem?_eq_getElem (by omega)
      have hdm := List.getElem_mem hlt'
      have hem := List.getElem_mem (l := fs) (n := i) (by omega)
      generalize es[i] = d at hd hdm
      generalize fs[i] = e at he hem
      have ei : ((i : Int)).toNat = i := by omega
      refine ⟨fun w => Sat W w l, h1.drew, ?_⟩
      refine hixEl et_batches (E := elB) rfl (fun w hw => hx w hw) h1.drew (by omega) (x := d) (by rw [ei]; exact hd) (by omega) fun a1 ha1 => ?_
      refine hldAggC (cs := elB.cells d) ha1 ?_
      refine hixEl et_batches (E := elB) rfl (fun w hw => hy w hw) h1.drew (by omega) (x := e) (by rw [ei]; exact he) (by omega) fun a2 ha2 => ?_
      refine hldAggC (cs := elB.cells e) ha2 ?_
      have hsd := hsx d hdm
      refine rsame_ok (d1 := d) (d2 := e) h1.drew (hvx d hdm) (hvy e hem) (fun b hb => by have := hsd.2 b hb; omega) (by omega) fun w9 h2 => tyI (k := .bool) ⟨h2, ?_⟩
      rw [w_i64 (n := (i : Int) + 1) (by omega) (by omega)]
      refine ifB_not ?_
      by_cases hde : d.dat = e.dat
      · rw [dsame_yes hde]
        refine ⟨⟨i + 1, by show (i : Int) + 1 = _; omega, by omega, ?_, h2⟩, by show es.length - ((i : Int) + 1).toNat < es.length - (i : Int).toNat; omega⟩
        rw [take_next hd, take_next he, List.map_append, List.map_append, heq]
        simp only [List.map_cons, List.map_nil]
        rw [bd_dat.1 hde]
      · rw [dsame_no hde]
        have := hK w9 h2
        rw [@decide_eq_false _ (Classical.propDecidable _) (fun hh => hde (bd_dat.2 (by
          have h3 := congrArg (·[i]?) hh
          simp only [List.getElem?_map, hd, he, Option.map_some] at h3
          exact Option.some.inj h3)))] at this
        exact this
    · have e1 : es.take i = es := List.take_of_length_le (by omega)
      have e2 : fs.take i = fs := List.take_of_length_le (by omega)
      rw [e1, e2] at heq
      have := hK w2 h1
      rw [@decide_eq_true _ (Classical.propDecidable _) heq] at this
      exact this
end
end Go.Proofs.YtbpcichakchpkaaGreatDoor
