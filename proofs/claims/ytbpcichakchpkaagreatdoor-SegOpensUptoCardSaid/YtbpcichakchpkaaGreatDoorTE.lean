/- Layer 8 in plain Lean: what a put does to a log on a disk, and to the reference's log; what is read of both. -/
import Derived.Test.YtbpcichakchpkaaGreatDoorTD
namespace Go.Proofs.YtbpcichakchpkaaGreatDoor
open Go Go.Pk
theorem addG_last {gs : Gr} {p : Int × List Bd} (h : gs.getLast? = some p) (b : Bd) : addG gs b = gs.dropLast ++ [(p.1, p.2 ++ [b])] := by unfold addG; rw [h]
/-- a batch's frame is written behind a log's last batch -/
theorem lay_push {n : List UInt8} {g : Lg} {d d' : Dk} {gs : Gr} {p : Int × List Bd} {b : Bd} {f : Fl} (h : Lay n g d gs) (hs : Small gs) (hl : gs.getLast? = some p) (hb : b.ok) (hba : b.ba = grFin gs)
    (hf : d'.files = Dk.putL d.files (segF n p.1) f) (hfd : f.data = fsOf p.2 ++ frm b.enc) : Lay n (g.last ((mkSg p.1 (segF n p.1) p.2).add b (frm b.enc).length)) d' (addG gs b) := by
  have hp : p ∈ gs := List.mem_of_getLast? hl
  have hne : gs ≠ [] := List.ne_nil_of_mem hp
  have e := getLast_split hl
  have hsp := small_mem h.chain hs hp
  have hg := addG_gch h.chain hne hb hba
  rw [mkSg_add]
  refine ⟨h.name, ?_, hg.1, hg.2.2 h.start, ?_, ?_⟩
  · show g.segs.set (g.segs.length - 1) _ = _
    rw [h.segs, addG_last hl]
    unfold grSegs
    rw [List.length_map]
    conv => lhs; rw [e]
    rw [List.map_append, List.map_append]
    have hlen : (gs.dropLast ++ [p]).length - 1 = (gs.dropLast.map fun p => mkSg p.1 (segF n p.1) p.2).length := by simp
    rw [hlen, List.set_append_right _ _ (Nat.le_refl _), Nat.sub_self]
    rfl
  · intro q hq
    rw [addG_last hl] at hq
    unfold Dk.look
    rw [hf, lookL_put]
    rcases List.mem_append.1 hq with hq | hq
    · have hq' : q ∈ gs := by rw [e]; exact List.mem_append_left _ hq
      rw [if_neg]
      · exact h.data q hq'
      · intro ee
        have hsq := small_mem h.chain hs hq'
        have hv := segF_inj n hsp.1 hsp.2 hsq.1 hsq.2 ee
        have hpw := gch_bases h.chain
        rw [e, List.map_append, List.pairwise_append] at hpw
        have := hpw.2.2 q.1 (List.mem_map_of_mem hq) p.1 (by simp)
        omega
    · rw [List.mem_singleton] at hq
      subst hq
      rw [if_pos rfl]
      refine ⟨f.sync, ?_⟩
      simp only
      rw [fsOf_app, fsOf_one, ← hfd]
  · intro x hx v hv
    have hmap : (addG gs b).map Prod.fst = gs.map Prod.fst := by
      rw [addG_last hl]
      conv => rhs; rw [e]
      simp
    rw [hmap]
    unfold Dk.names at hx
    rw [hf] at hx
    rcases names_put _ _ _ _ hx with rfl | hx
    · rw [fileBase_segF n hsp.1 hsp.2] at hv
      cases hv
      exact List.mem_map_of_mem hp
    · exact h.only x hx v hv
theorem rollG_small {gs : Gr} (h : GCh gs) (hs : Small gs) : Small (rollG gs) := by
  have := rollG_gch h
  exact ⟨this.2.2 hs.1, by rw [this.2.1]; exact hs.2⟩
/-- what a put does, on a disk that doesn't break -/
theorem lay_put {n : List UInt8} {g : Lg} {d : Dk} {gs : Gr} {b : Bd} (h : Lay n g d gs) (hn : n ≠ [] ∧ n.length ≤ 8) (ha : d.dead = false) (hfu : d.fuse = -1) (hs : Small gs) (hnum : b.dc.num) (hba : b.ba = g.fin) :
    (b.chk ≠ 0 ∧ g.put d b = (g, d, b.chk)) ∨ (b.chk = 0 ∧ (g.put d b).2.2 = 3 ∧ ∃ gs', Lay n (g.put d b).1 (g.put d b).2.1 gs' ∧ allB gs' = allB gs ∧ grFin gs' = grFin gs ∧ (g.put d b).2.1.dead = false ∧ (g.put d b).2.1.fuse = -1) ∨
    (b.chk = 0 ∧ (g.put d b).2.2 = 0 ∧ Lay n (g.put d b).1 (g.put d b).2.1 (addG (rollG gs) b) ∧ (g.put d b).2.1.dead = false ∧ (g.put d b).2.1.fuse = -1) := by
  by_cases hc : b.chk ≠ 0
  · exact .inl ⟨hc, by unfold Lg.put; rw [if_pos hc]⟩
  · refine .inr ?_
    have hc : b.chk = 0 := Classical.not_not.1 hc
    have hfin := lay_fin h
    unfold Lg.put
    rw [if_neg (by simp [hc]), if_neg (by simp [hba])]
    have hrf : (g.roll d).2.2 = 3 → (g.roll d).2.1.fuse = -1 := by
      intro _
      unfold Lg.roll
      have gf : ∀ (g : Lg) (d : Dk), d.fuse = -1 → (g.grow d).2.1.fuse = -1 := by
        intro g d hd
        have : (d.append (g.file g.fin) []).1.fuse = -1 := by
          unfold Dk.append
          split
          · exact hd
          · split
            · exact hd
            · split
              · exact hd
              · simp only; rw [hd]; simp
        unfold Lg.grow
        split
        · exact this
        · exact this
      have ff : ∀ (g : Lg) (d : Dk), d.fuse = -1 → (g.flush d).2.1.fuse = -1 := by
        intro g d hd
        have : ∀ m, (d.sync m).1.fuse = -1 := by
          intro m
          unfold Dk.sync
          split
          · exact hd
          · exact hd
        unfold Lg.flush
        split
        · exact hd
        · split
          · exact this _
          · exact this _
      split
      · exact gf _ _ hfu
      · split
        · exact hfu
        · split
          · exact gf _ _ (ff _ _ hfu)
          · exact ff _ _ hfu
    rcases lay_roll h hn ha hs with ⟨h1, h2, h3⟩ | ⟨h1, h2, h3, h4, h5⟩
    · rw [if_pos (by rw [h1]; decide)]
      exact .inl ⟨hc, h1, gs, h2, rfl, rfl, h3, hrf h1⟩
    · rw [if_neg (by rw [h1]; decide)]
      have hne := rollG_ne gs
      have hg := rollG_gch h.chain
      have hsr := rollG_small h.chain hs
      cases hl : (rollG gs).getLast? with
      | none => exact absurd (List.getLast?_eq_none_iff.1 hl) hne
      | some p =>
        have hp : p ∈ rollG gs := List.mem_of_getLast? hl
        have hsp := small_mem h2.chain hsr hp
        rw [h2.segs, grSegs_last, hl]
        simp only [Option.map_some]
        have en : (mkSg p.1 (segF n p.1) p.2).name = segF n p.1 := rfl
        rw [en]
        rcases append_cases (b := frm b.enc) h3 (segF_ok hn hsp.1 hsp.2) with hcc | ⟨k, hk, e2, e3, e4, e5, e6⟩
        · rw [hcc, if_neg (show ¬ (3 : Int) = 0 by decide)]
          exact .inl ⟨hc, rfl, rollG gs, h2, rollG_allB gs, hg.2.1, h3, h4 hfu⟩
        · obtain ⟨hkl, hfu2⟩ := e6 (h4 hfu)
          subst hkl
          have e2' : ((g.roll d).2.1.append (segF n p.1) (frm b.enc)).2 = 0 := by rw [e2, if_neg (Nat.lt_irrefl _)]
          rw [if_pos e2']
          obtain ⟨s, hs2⟩ := h2.data p hp
          refine .inr ⟨hc, rfl, lay_push h2 hsr hl ⟨hc, hnum⟩ (by rw [hba, hfin, hg.2.1]) e5 ?_, by rw [e3]; simp, hfu2⟩
          show ((g.roll d).2.1.fl0 (segF n p.1)).data ++ _ = _
          unfold Dk.fl0
          rw [hs2, List.take_length]
/-! ### the reference's log -/
structure Mt (gs : Gr) (r : Rl) : Prop where
  list : r.list = allB gs
  bases : r.bases = gs.map Prod.fst
theorem filter_all {α : Type} {p : α → Bool} {l : List α} (h : ∀ x ∈ l, p x = true) : l.filter p = l := List.filter_eq_self.2 h
theorem filter_no {α : Type} {p : α → Bool} {l : List α} (h : ∀ x ∈ l, p x = false) : l.filter p = [] := by
  rw [List.filter_eq_nil_iff]
  intro x hx; rw [h x hx]; simp
theorem last_filter {gs : Gr} {p : Int × List Bd} (hg : GCh gs) (hl : gs.getLast? = some p) : (allB gs).filter (fun x => decide (p.1 ≤ x.ba)) = p.2 := by
  have e := getLast_split hl
  rw [e] at hg
  rw [e, allB_app]
  have h2 := (gch_snoc _ _).1 hg
  have e1 : allB [p] = p.2 := by simp [allB]
  rw [e1, List.filter_append, filter_no, filter_all, List.nil_append]
  · intro x hx
    exact decide_eq_true ((chain_mem _ _ h2.2.1).2.2 x hx).1
  · intro x hx
    have hne : gs.dropLast ≠ [] := by intro h0; rw [h0] at hx; cases hx
    have hc := gch_chain _ h2.1
    have := (chain_mem _ _ hc.1).2.2 x hx
    have h3 := h2.2.2.1 hne
    exact decide_eq_false (by omega)
theorem mt_fin {gs : Gr} {r : Rl} (h : Mt gs r) (hg : GCh gs) : r.fin = grFin gs ∧ r.start = grStart gs := by
  have hst : r.start = grStart gs := by
    unfold Rl.start grStart
    rw [h.bases]
    cases gs <;> rfl
  refine ⟨?_, hst⟩
  have hc := gch_chain gs hg
  unfold Rl.fin
  rw [h.list, ← hc.2, chEnd_last, hst]
  cases (allB gs).getLast? <;> rfl
theorem mt_put {gs : Gr} {r : Rl} {b : Bd} (h : Mt gs r) (hg : GCh gs) (hb : b.chk = 0) (hba : b.ba = grFin gs) : (r.put b).2 = 0 ∧ Mt (addG (rollG gs) b) (r.put b).1 := by
  have hf := mt_fin h hg
  unfold Rl.put
  rw [if_neg (by simp [hb]), if_neg (by rw [hf.1]; simp [hba])]
  have hne := rollG_ne gs
  have hall : allB (addG (rollG gs) b) = allB gs ++ [b] := by rw [addG_allB hne, rollG_allB]
  have hbs : (addG (rollG gs) b).map Prod.fst = (rollG gs).map Prod.fst := by
    cases hl : (rollG gs).getLast? with
    | none => exact absurd (List.getLast?_eq_none_iff.1 hl) hne
    | some p =>
      rw [addG_last hl]
      conv => rhs; rw [getLast_split hl]
      simp
  rw [h.bases, List.getLast?_map]
  unfold rollG at hbs
  cases hl : gs.getLast? with
  | none =>
    have e := List.getLast?_eq_none_iff.1 hl
    subst e
    exact ⟨rfl, ⟨by show r.list ++ [b] = _; rw [hall, h.list], by show [0] = _; unfold rollG; rw [hbs]; rfl⟩⟩
  | some p =>
    rw [hl] at hbs
    simp only [Option.map_some] at hbs ⊢
    have hby : r.bytes p.1 = (fsOf p.2).length := by
      unfold Rl.bytes
      rw [h.list, last_filter hg hl]
    rw [hby]
    by_cases hc : (fsOf p.2).length < 512
    · rw [if_neg (by omega)]
      refine ⟨rfl, ⟨by rw [hall, ← h.list], ?_⟩⟩
      show gs.map Prod.fst = _
      unfold rollG
      rw [hl]
      simp only
      rw [hbs, if_pos hc]
    · rw [if_pos (by omega)]
      refine ⟨rfl, ⟨by rw [hall, ← h.list], ?_⟩⟩
      show gs.map Prod.fst ++ [b.ba] = _
      unfold rollG
      rw [hl]
      simp only
      rw [hbs, if_neg hc, List.map_append, hba]; rfl
theorem mt_put_bad {r : Rl} {b : Bd} (hb : b.chk ≠ 0) : r.put b = (r, b.chk) := by
  unfold Rl.put; rw [if_pos hb]
theorem segB_gs {n : List UInt8} {gs : Gr} (hg : ∀ p ∈ gs, Chain p.1 p.2) (frm : Int) : segB frm (grSegs n gs) = behind frm (allB gs) := by
  induction gs with
  | nil => rfl
  | cons p gs ih =>
    have e1 : grSegs n (p :: gs) = [mkSg p.1 (segF n p.1) p.2] ++ grSegs n gs := rfl
    have e2 : allB (p :: gs) = p.2 ++ allB gs := by simp [allB]
    rw [e1, segB_app, ih (fun q hq => hg q (by simp [hq])), e2, behind_app]
    congr 1
    have hc := chain_mem _ _ (hg p (by simp))
    unfold segB
    by_cases hf : frm < chEnd p.1 p.2
    · rw [List.filter_cons_of_pos (by rw [mkSg_fin]; exact decide_eq_true hf)]
      simp [mkSg]
    · rw [List.filter_cons_of_neg (by rw [mkSg_fin]; exact fun h => hf (of_decide_eq_true h))]
      simp only [List.filter_nil, List.flatMap_nil]
      unfold behind
      rw [filter_no]
      intro x hx
      have := hc.2.2 x hx
      exact decide_eq_false (by omega)
theorem lay_read {n : List UInt8} {g : Lg} {d : Dk} {gs : Gr} (h : Lay n g d gs) (frm k : Int) : g.read frm k = (behind frm (allB gs)).take k.toNat := by
  unfold Lg.read
  rw [h.segs, segB_gs fun p hp => (gch_mem h.chain hp).1]
theorem mt_read {gs : Gr} {r : Rl} (h : Mt gs r) (frm k : Int) : r.read frm k = (behind frm (allB gs)).take k.toNat := by
  unfold Rl.read
  rw [h.list]
end Go.Proofs.YtbpcichakchpkaaGreatDoor
