/- Texts of mine, put together: TG, TH, TJ, TL, TM, TN, TP. -/
import Derived.Test.YtnjadekngjgjcaaGreatDoorE10
import Derived.Laws.Strings
/- Layer 8: the values of batches that were told are overwritten. -/
namespace Go.Proofs.YtnjadekngjgjcaaGreatDoor
open Go Go.Pk
section
variable {W w : World} {l : List Res} {K : Value → World → Prop}
end
end Go.Proofs.YtnjadekngjgjcaaGreatDoor

/- Layer 8: the law SegReads, walked. -/
namespace Go.Proofs.YtnjadekngjgjcaaGreatDoor
open Go Go.Pk
/-- a list of batches that came in -/
structure BsRd (W : World) (l : List Res) (s : Sl) (xs : List Dc) : Prop where
  rd : ∀ R, Rd W (R ++ l) s 9 (elB.flat xs)
  el : ∀ d ∈ xs, (∀ R, VRd W (R ++ l) d) ∧ d.num ∧ d.bs.length < 1048576 ∧ ∀ v ∈ d.bs, v.length < 1048576
  few : xs.length ≤ 1048576
theorem BsRd.at {W w : World} {l : List Res} {s : Sl} {xs : List Dc} (h : BsRd W l s xs) {R : List Res} {i : Nat} {d : Dc} (hi : xs[i]? = some d) (hw : Sat W w (R ++ l)) {K : Value → Prop} (hK : K (.agg d.cells.toArray)) :
    RunQ .addr P (Instr.indexAt T_sl_api_Batch s.v (.int .i64 (i : Int))) w fun a => RunQ .val P (Instr.loadAt T_api_Batch (.pointer (some a))) w K := by
  have hr := h.rd R w hw
  have hlen : s.len = xs.length := by
    have := hr.1
    have e := flat_length (E := elB) xs
    have e2 : elB.sz = 9 := rfl
    rw [e2] at e
    omega
  have hlt := (List.getElem?_eq_some_iff.1 hi).1
  refine ixA et_batches hr (by omega) (by omega) fun a1 ha1 => ?_
  refine ldAggC (cs := d.cells) ?_ hK
  intro k u hu
  refine ha1 k _ (by
    have := (List.getElem?_eq_some_iff.1 hu).1
    have e : d.cells.length = 9 := rfl
    omega) ?_
  exact flat_at (E := elB) (j := k) hi hu
theorem BsRd.len {W w : World} {l : List Res} {s : Sl} {xs : List Dc} (h : BsRd W l s xs) {R : List Res} (hw : Sat W w (R ++ l)) : s.len = xs.length := by
  have hr := h.rd R w hw
  have := hr.1
  have e := flat_length (E := elB) xs
  have e2 : elB.sz = 9 := rfl
  rw [e2] at e
  omega
section
variable {W w : World} {l : List Res} {K : Value → World → Prop}
/-- a log and the reference's log, side by side -/
structure Both (n : List UInt8) (g : Lg) (d : Dk) (gs : Gr) (r : Rl) (k : Nat) : Prop where
  lay : Lay n g d gs
  mt : Mt gs r
  live : d.dead = false ∧ d.fuse = -1
  few : (allB gs).length ≤ k
  start : grStart gs = 0
theorem Both.small {n : List UInt8} {g : Lg} {d : Dk} {gs : Gr} {r : Rl} {k : Nat} (h : Both n g d gs r k) (hk : k ≤ 1048577) : Small gs := by
  have h1 := gch_fin_le h.lay.chain
  have h2 := h.few
  have h3 := h.start
  exact ⟨by omega, by omega⟩
theorem Both.fit {n : List UInt8} {g : Lg} {d : Dk} {gs : Gr} {r : Rl} {k : Nat} (h : Both n g d gs r k) (hk : k ≤ 1048577) : LFit g := lay_fit h.lay (h.small hk) (by have := h.few; omega)
theorem Both.put {n : List UInt8} {g : Lg} {d : Dk} {gs : Gr} {r : Rl} {k : Nat} {b : Bd} (h : Both n g d gs r k) (hk : k ≤ 1048576) (hn : n ≠ [] ∧ n.length ≤ 8) (hnum : b.dc.num) (hba : b.ba = r.fin) :
    (g.put d b).2.2 = 3 ∨ ((g.put d b).2.2 = (r.put b).2 ∧ ∃ gs', Both n (g.put d b).1 (g.put d b).2.1 gs' (r.put b).1 (k + 1)) := by
  have hs := h.small (by omega)
  have hf := mt_fin h.mt h.lay.chain
  rcases lay_put h.lay hn h.live.1 h.live.2 hs hnum (by rw [hba, hf.1, lay_fin h.lay]) with ⟨h1, h2⟩ | ⟨h1, h2, _⟩ | ⟨h1, h2, h3, h4, h5⟩
  · refine .inr ?_
    rw [h2, mt_put_bad h1]
    exact ⟨rfl, gs, h.lay, h.mt, h.live, by have := h.few; omega, h.start⟩
  · exact .inl h2
  · obtain ⟨e1, e2⟩ := mt_put h.mt h.lay.chain h1 (by rw [hba, hf.1])
    refine .inr ⟨by rw [h2, e1], addG (rollG gs) b, h3, e2, ⟨h4, h5⟩, ?_, by rw [put_start]; exact h.start⟩
    rw [put_len]; have := h.few; omega
theorem append_names {d : Dk} {m b f : List UInt8} (hf : f ∈ (d.append m b).1.names) : f ∈ d.names ∨ f = m := by
  unfold Dk.append at hf
  split at hf
  · exact .inl hf
  · split at hf
    · exact .inl hf
    · split at hf
      · exact .inl hf
      · rcases names_put _ _ _ _ hf with h | h
        · exact .inr h
        · exact .inl h
theorem sync_names {d : Dk} {m f : List UInt8} (hf : f ∈ (d.sync m).1.names) : f ∈ d.names := by
  unfold Dk.sync Dk.find at hf
  by_cases hd : d.dead = true
  · rw [if_pos hd] at hf; exact hf
  · rw [if_neg hd] at hf
    cases hl : d.look m with
    | none => rw [hl] at hf; exact hf
    | some x =>
      rw [hl] at hf
      rcases names_put _ _ _ _ hf with h | h
      · rw [h]; exact look_names hl
      · exact h
theorem flush_names {g : Lg} {d : Dk} {f : List UInt8} (hf : f ∈ (g.flush d).2.1.names) : f ∈ d.names := by
  unfold Lg.flush at hf
  split at hf
  · exact hf
  · split at hf
    · exact sync_names hf
    · exact sync_names hf
theorem grow_names {g : Lg} {d : Dk} {f : List UInt8} (hf : f ∈ (g.grow d).2.1.names) : f ∈ d.names ∨ f = g.file g.fin := by
  unfold Lg.grow at hf
  split at hf
  · exact append_names hf
  · exact append_names hf
theorem roll_names {g : Lg} {d : Dk} {f : List UInt8} (hf : f ∈ (g.roll d).2.1.names) : f ∈ d.names ∨ f = g.file g.fin := by
  unfold Lg.roll at hf
  split at hf
  · exact grow_names hf
  · split at hf
    · exact .inl hf
    · split at hf
      · rcases grow_names hf with h | h
        · exact .inl (flush_names h)
        · refine .inr ?_
          rw [h, Lg.flush_fin]
          unfold Lg.file; rw [Lg.flush_name]
      · exact .inl (flush_names hf)
theorem put_names {n : List UInt8} {g : Lg} {d : Dk} {gs : Gr} {b : Bd} {f : List UInt8} (h : Lay n g d gs) (hn : n ≠ [] ∧ n.length ≤ 8) (ha : d.dead = false) (hs : Small gs) (hf : f ∈ (g.put d b).2.1.names) : f ∈ d.names ∨ isF n f = true := by
  have hst := (gch_fin_le h.chain).1
  have hs1 := hs.1
  have hroll : ∀ {f}, f ∈ (g.roll d).2.1.names → f ∈ d.names ∨ isF n f = true := fun {f} hf => by
    rcases roll_names hf with h1 | h1
    · exact .inl h1
    · refine .inr ?_
      rw [h1, file_segF h.name, lay_fin h]
      unfold isF
      rw [fileBase_segF n (by omega) hs.2]; rfl
  unfold Lg.put at hf
  split at hf
  · exact .inl hf
  · split at hf
    · exact .inl hf
    · split at hf
      · exact hroll hf
      · rename_i hr
        split at hf
        · exact hroll hf
        · rename_i sg hsg
          have hname : isF n sg.name = true := by
            rcases lay_roll h hn ha hs with ⟨h1, _⟩ | ⟨h1, h2, _⟩
            · rw [h1] at hr; exact absurd (show (3 : Int) ≠ 0 by decide) hr
            · rw [h2.segs, grSegs_last] at hsg
              obtain ⟨p, hp, rfl⟩ := Option.map_eq_some_iff.1 hsg
              have := small_mem h2.chain (rollG_small h.chain hs) (List.mem_of_getLast? hp)
              show isF n (segF n p.1) = true
              unfold isF
              rw [fileBase_segF n this.1 this.2]; rfl
          split at hf
          · rcases append_names hf with h1 | h1
            · exact hroll h1
            · exact .inr (h1 ▸ hname)
          · rcases append_names hf with h1 | h1
            · exact hroll h1
            · exact .inr (h1 ▸ hname)
end
end Go.Proofs.YtnjadekngjgjcaaGreatDoor

/- Layer 8: what stands in the files, the law's frames. -/
namespace Go.Pk
open Go
end Go.Pk
namespace Go.Proofs.YtnjadekngjgjcaaGreatDoor
open Go Go.Pk
section
variable {W w : World} {l : List Res} {K : Value → World → Prop}
end
end Go.Proofs.YtnjadekngjgjcaaGreatDoor

/- Layer 8: the law SegFiles, walked. -/
namespace Go.Proofs.YtnjadekngjgjcaaGreatDoor
open Go Go.Pk
theorem find_live {d : Dk} {n : List UInt8} {f : Fl} (ha : d.dead = false) (h : d.look n = some f) : d.find n = (some f, 0) := by
  unfold Dk.find
  rw [ha, h]; rfl
section
variable {W w : World} {l : List Res} {K : Value → World → Prop}
end
end Go.Proofs.YtnjadekngjgjcaaGreatDoor

/- Layer 8 in plain Lean: two logs on one disk; a log whose files another one writes too. -/
namespace Go.Proofs.YtnjadekngjgjcaaGreatDoor
open Go Go.Pk
/-- names of logs without dots: files of one are none of another -/
theorem other_name {n m : List UInt8} (hn : ¬ 46 ∈ n) (hm : ¬ 46 ∈ m) (hne : n ≠ m) {f : List UInt8} (hf : isF n f = true) : isF m f = false := by
  have pre : ∀ {k f : List UInt8}, isF k f = true → ∃ t, f = k ++ 46 :: t := fun {k f} h => by
    unfold isF fileBase at h
    split at h
    · rename_i hp
      unfold Lib.hasPrefix at hp
      obtain ⟨t, ht⟩ := List.isPrefixOf_iff_prefix.1 hp
      exact ⟨t, by rw [← ht]; simp⟩
    · cases h
  cases hm2 : isF m f with
  | false => rfl
  | true =>
    exfalso
    obtain ⟨t, ht⟩ := pre hf
    obtain ⟨t2, ht2⟩ := pre hm2
    rw [ht] at ht2
    clear ht hf hm2
    induction n generalizing m with
    | nil =>
      cases m with
      | nil => exact hne rfl
      | cons y m =>
        simp only [List.nil_append, List.cons_append, List.cons.injEq] at ht2
        exact hm (by rw [← ht2.1]; simp)
    | cons x n ih =>
      cases m with
      | nil =>
        simp only [List.nil_append, List.cons_append, List.cons.injEq] at ht2
        exact hn (by rw [ht2.1]; simp)
      | cons y m =>
        simp only [List.cons_append, List.cons.injEq] at ht2
        exact ih (m := m) (fun h => hn (by simp [h])) (fun h => hm (by simp [h])) (fun h => hne (by rw [ht2.1, h])) ht2.2
theorem append_look {d : Dk} {m b f : List UInt8} (hf : f ≠ m) : (d.append m b).1.look f = d.look f := by
  unfold Dk.append
  split
  · rfl
  · split
    · rfl
    · split
      · rfl
      · show Dk.lookL (Dk.putL d.files m _) f = Dk.lookL d.files f
        rw [lookL_put, if_neg (fun e => hf e.symm)]
theorem sync_look {d : Dk} {m f : List UInt8} (hf : f ≠ m) : (d.sync m).1.look f = d.look f := by
  unfold Dk.sync
  split
  · show Dk.lookL (Dk.putL d.files m _) f = Dk.lookL d.files f
    rw [lookL_put, if_neg (fun e => hf e.symm)]
  · rfl
/-- a put touches its own files alone -/
theorem put_look {n : List UInt8} {g : Lg} {d : Dk} {gs : Gr} {b : Bd} {f : List UInt8} (h : Lay n g d gs) (hn : n ≠ [] ∧ n.length ≤ 8) (ha : d.dead = false) (hs : Small gs) (hf : isF n f = false) : (g.put d b).2.1.look f = d.look f := by
  have hst := (gch_fin_le h.chain).1
  have hs1 := hs.1
  have hne : ∀ {m}, isF n m = true → f ≠ m := fun hm e => by rw [e, hm] at hf; cases hf
  have hgrow : ∀ {g' : Lg} {d' : Dk}, g'.name = n → g'.fin = grFin gs → (g'.grow d').2.1.look f = d'.look f := fun {g' d'} hnm hfi => by
    have hm : f ≠ g'.file g'.fin := by
      refine hne ?_
      rw [file_segF hnm, hfi]
      unfold isF
      rw [fileBase_segF n (by omega) hs.2]; rfl
    unfold Lg.grow
    split
    · exact append_look hm
    · exact append_look hm
  have hflush : (g.flush d).2.1.look f = d.look f := by
    unfold Lg.flush
    rw [h.segs, grSegs_last]
    cases hl : gs.getLast? with
    | none => rfl
    | some p =>
      simp only [Option.map_some]
      have hsp := small_mem h.chain hs (List.mem_of_getLast? hl)
      have hm : f ≠ (mkSg p.1 (segF n p.1) p.2).name := hne (by
        show isF n (segF n p.1) = true
        unfold isF
        rw [fileBase_segF n hsp.1 hsp.2]; rfl)
      split
      · exact sync_look hm
      · exact sync_look hm
  have hroll : (g.roll d).2.1.look f = d.look f := by
    unfold Lg.roll
    split
    · exact hgrow h.name (lay_fin h)
    · split
      · rfl
      · split
        · rw [hgrow (by rw [Lg.flush_name]; exact h.name) (by rw [Lg.flush_fin]; exact lay_fin h)]; exact hflush
        · exact hflush
  unfold Lg.put
  split
  · rfl
  · split
    · rfl
    · split
      · exact hroll
      · rename_i hr
        split
        · exact hroll
        · rename_i sg hsg
          have hm : f ≠ sg.name := hne (by
            rcases lay_roll h hn ha hs with ⟨h1, _⟩ | ⟨h1, h2, _⟩
            · rw [h1] at hr; exact absurd (show (3 : Int) ≠ 0 by decide) hr
            · rw [h2.segs, grSegs_last] at hsg
              obtain ⟨p, hp, rfl⟩ := Option.map_eq_some_iff.1 hsg
              have := small_mem h2.chain (rollG_small h.chain hs) (List.mem_of_getLast? hp)
              show isF n (segF n p.1) = true
              unfold isF
              rw [fileBase_segF n this.1 this.2]; rfl)
          split
          · show (Dk.append _ _ _).1.look f = _
            rw [append_look hm]; exact hroll
          · show (Dk.append _ _ _).1.look f = _
            rw [append_look hm]; exact hroll
theorem isF_none {n f : List UInt8} (h : isF n f = false) : fileBase ⟨n, [], 0⟩ f = none := by
  unfold isF at h
  cases hf : fileBase ⟨n, [], 0⟩ f with
  | none => rfl
  | some v => rw [hf] at h; cases h
/-- another log's puts -/
theorem Lay.beside {n m : List UInt8} {g g2 : Lg} {d : Dk} {gs gs2 : Gr} {b : Bd} (h : Lay n g d gs) (h2 : Lay m g2 d gs2) (hn : n ≠ [] ∧ n.length ≤ 8 ∧ ¬ 46 ∈ n) (hm : ¬ 46 ∈ m) (hne : n ≠ m) (ha : d.dead = false) (hs : Small gs) (hs2 : Small gs2) : Lay m g2 (g.put d b).2.1 gs2 := by
  refine ⟨h2.name, h2.segs, h2.chain, h2.start, fun p hp => ?_, fun f hf v hv => ?_⟩
  · have hsp := small_mem h2.chain hs2 hp
    have hi : isF m (segF m p.1) = true := by unfold isF; rw [fileBase_segF m hsp.1 hsp.2]; rfl
    rw [put_look h ⟨hn.1, hn.2.1⟩ ha hs (other_name hm hn.2.2 (fun e => hne e.symm) hi)]
    exact h2.data p hp
  · rcases put_names h ⟨hn.1, hn.2.1⟩ ha hs hf with h3 | h3
    · exact h2.only f h3 v hv
    · have := isF_none (other_name hn.2.2 hm hne h3)
      rw [this] at hv; cases hv
/-! ### a log in memory, whatever its disk does -/
theorem mem_put {n : List UInt8} {g : Lg} {d : Dk} {gs : Gr} {b : Bd} (h : Mem n g gs) (hnum : b.dc.num) (hba : b.ba = g.fin) : ∃ gs', Mem n (g.put d b).1 gs' ∧ (allB gs').length ≤ (allB gs).length + 1 ∧ grStart gs' = grStart gs := by
  have hfl : Mem n (g.flush d).1 gs := ⟨by rw [Lg.flush_name]; exact h.name, by rw [Lg.flush_segs]; exact h.segs, h.chain, h.start⟩
  have hgrow : ∀ {g' : Lg} {d' : Dk}, Mem n g' gs → (∀ q ∈ gs, q.2 ≠ []) → (g'.grow d').2.2 ≠ 0 ∧ (g'.grow d').1 = g' ∨ (g'.grow d').2.2 = 0 ∧ Mem n (g'.grow d').1 (gs ++ [(grFin gs, [])]) := fun {g' d'} hm hne => by
    unfold Lg.grow
    split
    · refine .inr ⟨rfl, hm.name, ?_, ?_, ?_⟩
      · show g'.segs ++ _ = _
        rw [hm.segs, file_segF hm.name, mem_fin hm]; unfold grSegs; simp [mkSg, fsOf, endsF]
      · exact (gch_snoc _ _).2 ⟨h.chain, trivial, fun _ => rfl, hne⟩
      · cases hgs : gs with
        | nil => exact Int.le_refl _
        | cons q qs => have := h.start; rw [hgs] at this; exact this
    · rename_i hc
      exact .inl ⟨hc, rfl⟩
  have hroll : (g.roll d).2.2 ≠ 0 ∧ Mem n (g.roll d).1 gs ∨ (g.roll d).2.2 = 0 ∧ Mem n (g.roll d).1 (rollG gs) := by
    unfold Lg.roll rollG
    rw [h.segs, grSegs_last]
    cases hl : gs.getLast? with
    | none =>
      have e := List.getLast?_eq_none_iff.1 hl
      simp only [Option.map_none]
      rcases hgrow (d' := d) h (fun q hq => by rw [e] at hq; cases hq) with ⟨h1, h2⟩ | ⟨h1, h2⟩
      · exact .inl ⟨h1, by rw [h2]; exact h⟩
      · refine .inr ⟨h1, ?_⟩
        subst e; exact h2
    | some p =>
      simp only [Option.map_some]
      have eb : (mkSg p.1 (segF n p.1) p.2).bytes = (fsOf p.2).length := rfl
      rw [eb]
      by_cases hc : (fsOf p.2).length < 512
      · rw [if_pos (by omega), if_pos hc]
        exact .inr ⟨rfl, h⟩
      · rw [if_neg (by omega), if_neg hc]
        by_cases hf : (g.flush d).2.2 = 0
        · rw [if_pos hf]
          have hne : ∀ q ∈ gs, q.2 ≠ [] := by
            intro q hq hq0
            have e := getLast_split hl
            have hg := h.chain
            rw [e] at hg hq
            have h2 := (gch_snoc _ _).1 hg
            rcases List.mem_append.1 hq with hq | hq
            · exact h2.2.2.2 q hq hq0
            · rw [List.mem_singleton] at hq
              subst hq
              rw [hq0] at hc
              exact hc (by decide)
          rcases hgrow (d' := (g.flush d).2.1) hfl hne with ⟨h1, h2⟩ | ⟨h1, h2⟩
          · exact .inl ⟨h1, by rw [h2]; exact hfl⟩
          · exact .inr ⟨h1, h2⟩
        · rw [if_neg hf]
          exact .inl ⟨hf, hfl⟩
  have hrl : (allB (rollG gs)).length ≤ (allB gs).length + 1 := by rw [rollG_allB]; omega
  have hrs : grStart (rollG gs) = grStart gs := by
    unfold rollG
    cases hl : gs.getLast? with
    | none => have e := List.getLast?_eq_none_iff.1 hl; subst e; rfl
    | some p =>
      simp only
      split
      · rfl
      · cases hgs : gs with
        | nil => rw [hgs] at hl; simp at hl
        | cons q qs => rfl
  unfold Lg.put
  split
  · exact ⟨gs, h, by omega, rfl⟩
  · split
    · exact ⟨gs, h, by omega, rfl⟩
    · rename_i hck _
      have hck : b.chk = 0 := Classical.not_not.1 hck
      split
      · rename_i hr
        rcases hroll with ⟨_, h2⟩ | ⟨h1, _⟩
        · exact ⟨gs, h2, by omega, rfl⟩
        · exact absurd h1 hr
      · rename_i hr
        rcases hroll with ⟨h1, _⟩ | ⟨_, h2⟩
        · exact absurd h1 hr
        · have hgl : (g.roll d).1.segs.getLast? = (rollG gs).getLast?.map fun p => mkSg p.1 (segF n p.1) p.2 := by rw [h2.segs, grSegs_last]
          rw [hgl]
          cases hl : (rollG gs).getLast? with
          | none => exact ⟨rollG gs, h2, hrl, hrs⟩
          | some p =>
            simp only [Option.map_some]
            split
            · have e := getLast_split hl
              have hg := addG_gch (b := b) h2.chain (rollG_ne gs) ⟨hck, hnum⟩ (by rw [hba, mem_fin h, (rollG_gch h.chain).2.1])
              refine ⟨addG (rollG gs) b, ⟨h2.name, ?_, hg.1, hg.2.2 h2.start⟩, by rw [put_len]; omega, put_start gs b⟩
              rw [mkSg_add]
              show (g.roll d).1.segs.set ((g.roll d).1.segs.length - 1) _ = _
              rw [h2.segs, addG_last hl]
              unfold grSegs
              rw [List.length_map]
              conv => lhs; rw [e]
              rw [List.map_append, List.map_append]
              have hlen : ((rollG gs).dropLast ++ [p]).length - 1 = ((rollG gs).dropLast.map fun p => mkSg p.1 (segF n p.1) p.2).length := by simp
              rw [hlen, List.set_append_right _ _ (Nat.le_refl _), Nat.sub_self]
              rfl
            · exact ⟨rollG gs, h2, hrl, hrs⟩
theorem mem_small {n : List UInt8} {g : Lg} {gs : Gr} (h : Mem n g gs) {k : Nat} (hk : (allB gs).length ≤ k) (hk2 : k ≤ 2097152) (h0 : grStart gs = 0) : Small gs := by
  have h1 := gch_fin_le h.chain
  exact ⟨by omega, by omega⟩
end Go.Proofs.YtnjadekngjgjcaaGreatDoor

/- Layer 8: the law SegNames, walked. -/
namespace Go.Proofs.YtnjadekngjgjcaaGreatDoor
open Go Go.Pk
structure Two (n m : List UInt8) (g g2 : Lg) (d : Dk) (gs gs2 : Gr) (k : Nat) : Prop where
  m1 : Mem n g gs
  m2 : Mem m g2 gs2
  few : (allB gs).length ≤ k ∧ (allB gs2).length ≤ k
  start : grStart gs = 0 ∧ grStart gs2 = 0
  lay : n ≠ m → Lay n g d gs ∧ Lay m g2 d gs2 ∧ d.dead = false ∧ d.fuse = -1
theorem Two.swap {n m : List UInt8} {g g2 : Lg} {d : Dk} {gs gs2 : Gr} {k : Nat} (h : Two n m g g2 d gs gs2 k) : Two m n g2 g d gs2 gs k :=
  ⟨h.m2, h.m1, ⟨h.few.2, h.few.1⟩, ⟨h.start.2, h.start.1⟩, fun hne => by obtain ⟨a, b, c, e⟩ := h.lay (fun e => hne e.symm); exact ⟨b, a, c, e⟩⟩
theorem Two.fit {n m : List UInt8} {g g2 : Lg} {d : Dk} {gs gs2 : Gr} {k : Nat} (h : Two n m g g2 d gs gs2 k) (hk : k ≤ 2097152) : LFit g ∧ Small gs := by
  have hs := mem_small h.m1 h.few.1 hk h.start.1
  exact ⟨mem_fit h.m1 hs (by have := h.few.1; omega), hs⟩
theorem Two.put {n m : List UInt8} {g g2 : Lg} {d : Dk} {gs gs2 : Gr} {k : Nat} {b : Bd} (h : Two n m g g2 d gs gs2 k) (hk : k ≤ 2097152) (hn : n ≠ [] ∧ n.length ≤ 8 ∧ ¬ 46 ∈ n) (hm : ¬ 46 ∈ m) (hnum : b.dc.num) (hba : b.ba = g.fin) :
    ∃ gs', Two n m (g.put d b).1 g2 (g.put d b).2.1 gs' gs2 (k + 1) := by
  have hf := h.few
  by_cases hne : n = m
  · obtain ⟨gs', h1, h2, h3⟩ := mem_put (d := d) h.m1 hnum hba
    exact ⟨gs', h1, h.m2, ⟨by omega, by omega⟩, ⟨by rw [h3]; exact h.start.1, h.start.2⟩, fun hc => absurd hne hc⟩
  · obtain ⟨l1, l2, ha, hfu⟩ := h.lay hne
    have hs := (h.fit hk).2
    have hs2 := (h.swap.fit hk).2
    have hbes := l1.beside (b := b) l2 hn hm hne ha hs hs2
    rcases lay_put l1 ⟨hn.1, hn.2.1⟩ ha hfu hs hnum hba with ⟨h1, h2⟩ | ⟨h1, h2, gs', h3, h4, h5, h6, h7⟩ | ⟨h1, h2, h3, h4, h5⟩
    · rw [h2]
      exact ⟨gs, h.m1, h.m2, ⟨by omega, by omega⟩, h.start, fun _ => ⟨l1, l2, ha, hfu⟩⟩
    · have hst : grStart gs' = 0 := by
        have e1 := gch_fin_le h3.chain
        obtain ⟨gs2', q1, q2, q3⟩ := mem_put (d := d) h.m1 hnum hba
        have e2 : grSegs n gs' = grSegs n gs2' := by rw [← h3.segs, ← q1.segs]
        have e3 : grStart gs' = grStart gs2' := by
          cases gs' with
          | nil => cases gs2' with
            | nil => rfl
            | cons q qs => cases e2
          | cons p ps => cases gs2' with
            | nil => cases e2
            | cons q qs =>
              have := (List.cons.inj e2).1
              exact congrArg Sg.base this
        rw [e3, q3]; exact h.start.1
      exact ⟨gs', h3.mem, h.m2, ⟨by rw [h4]; omega, by omega⟩, ⟨hst, h.start.2⟩, fun _ => ⟨h3, hbes, h6, h7⟩⟩
    · exact ⟨_, h3.mem, h.m2, ⟨by rw [put_len]; omega, by omega⟩, ⟨by rw [put_start]; exact h.start.1, h.start.2⟩, fun _ => ⟨h3, hbes, h4, h5⟩⟩
section
variable {W w : World} {l : List Res} {K : Value → World → Prop}
end
end Go.Proofs.YtnjadekngjgjcaaGreatDoor

/- Layer 8: the reference's frames are read. -/
namespace Go.Pk
open Go
end Go.Pk
namespace Go.Proofs.YtnjadekngjgjcaaGreatDoor
open Go Go.Pk
section
variable {W w : World} {l : List Res} {K : Value → World → Prop}
end
end Go.Proofs.YtnjadekngjgjcaaGreatDoor
