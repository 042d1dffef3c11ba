/- Layer 8 in plain Lean: two logs on one disk; a log whose files another one writes too. -/
import Derived.Test.YtbpcichakchpkaaGreatDoorTH
namespace Go.Proofs.YtbpcichakchpkaaGreatDoor
open Go Go.Pk
/-- names of logs without dots: files of one are none of another -/
theorem other_name {n m : List UInt8} (hn : ¬ 46 ∈ n) (hm : ¬ 46 ∈ m) (hne : n ≠ m) {f : List UInt8} (hf : isF n f = true) : isF m f = false := by
  have pre : ∀ {k f : List UInt8}, isF k f = true → ∃ t, f = k ++ 46 :: t := fun {k f} h => by
    unfold isF fileBase at h
    split at h
    · rename_i hp
      unfold Lib.hasPrefix at hp
      obtain ⟨t, ht⟩ := List.isPrefixOf_iff_prefix.1 hp
      exact ⟨t, by rw [← ht]; simp⟩
    · cases h
  cases hm2 : isF m f with
  | false => rfl
  | true =>
    exfalso
    obtain ⟨t, ht⟩ := pre hf
    obtain ⟨t2, ht2⟩ := pre hm2
    rw [ht] at ht2
    clear ht hf hm2
    induction n generalizing m with
    | nil =>
      cases m with
      | nil => exact hne rfl
      | cons y m =>
        simp only [List.nil_append, List.cons_append, List.cons.injEq] at ht2
        exact hm (by rw [← ht2.1]; simp)
    | cons x n ih =>
      cases m with
      | nil =>
        simp only [List.nil_append, List.cons_append, List.cons.injEq] at ht2
        exact hn (by rw [ht2.1]; simp)
      | cons y m =>
        simp only [List.cons_append, List.cons.injEq] at ht2
        exact ih (m := m) (fun h => hn (by simp [h])) (fun h => hm (by simp [h])) (fun h => hne (by rw [ht2.1, h])) ht2.2
theorem append_look {d : Dk} {m b f : List UInt8} (hf : f ≠ m) : (d.append m b).1.look f = d.look f := by
  unfold Dk.append
  split
  · rfl
  · split
    · rfl
    · split
      · rfl
      · show Dk.lookL (Dk.putL d.files m _) f = Dk.lookL d.files f
        rw [lookL_put, if_neg (fun e => hf e.symm)]
theorem sync_look {d : Dk} {m f : List UInt8} (hf : f ≠ m) : (d.sync m).1.look f = d.look f := by
  unfold Dk.sync
  split
  · show Dk.lookL (Dk.putL d.files m _) f = Dk.lookL d.files f
    rw [lookL_put, if_neg (fun e => hf e.symm)]
  · rfl
/-- a put touches its own files alone -/
theorem put_look {n : List UInt8} {g : Lg} {d : Dk} {gs : Gr} {b : Bd} {f : List UInt8} (h : Lay n g d gs) (hn : n ≠ [] ∧ n.length ≤ 8) (ha : d.dead = false) (hs : Small gs) (hf : isF n f = false) : (g.put d b).2.1.look f = d.look f := by
  have hst := (gch_fin_le h.chain).1
  have hs1 := hs.1
  have hne : ∀ {m}, isF n m = true → f ≠ m := fun hm e => by rw [e, hm] at hf; cases hf
  have hgrow : ∀ {g' : Lg} {d' : Dk}, g'.name = n → g'.fin = grFin gs → (g'.grow d').2.1.look f = d'.look f := fun {g' d'} hnm hfi => by
    have hm : f ≠ g'.file g'.fin := by
      refine hne ?_
      rw [file_segF hnm, hfi]
      unfold isF
      rw [fileBase_segF n (by omega) hs.2]; rfl
    unfold Lg.grow
    split
    · exact append_look hm
    · exact append_look hm
  have hflush : (g.flush d).2.1.look f = d.look f := by
    unfold Lg.flush
    rw [h.segs, grSegs_last]
    cases hl : gs.getLast? with
    | none => rfl
    | some p =>
      simp only [Option.map_some]
      have hsp := small_mem h.chain hs (List.mem_of_getLast? hl)
      have hm : f ≠ (mkSg p.1 (segF n p.1) p.2).name := hne (by
        show isF n (segF n p.1) = true
        unfold isF
        rw [fileBase_segF n hsp.1 hsp.2]; rfl)
      split
      · exact sync_look hm
      · exact sync_look hm
  have hroll : (g.roll d).2.1.look f = d.look f := by
    unfold Lg.roll
    split
    · exact hgrow h.name (lay_fin h)
    · split
      · rfl
      · split
        · rw [hgrow (by rw [Lg.flush_name]; exact h.name) (by rw [Lg.flush_fin]; exact lay_fin h)]; exact hflush
        · exact hflush
  unfold Lg.put
  split
  · rfl
  · split
    · rfl
    · split
      · exact hroll
      · rename_i hr
        split
        · exact hroll
        · rename_i sg hsg
          have hm : f ≠ sg.name := hne (by
            rcases lay_roll h hn ha hs with ⟨h1, _⟩ | ⟨h1, h2, _⟩
            · rw [h1] at hr; exact absurd (show (3 : Int) ≠ 0 by decide) hr
            · rw [h2.segs, grSegs_last] at hsg
              obtain ⟨p, hp, rfl⟩ := Option.map_eq_some_iff.1 hsg
              have := small_mem h2.chain (rollG_small h.chain hs) (List.mem_of_getLast? hp)
              show isF n (segF n p.1) = true
              unfold isF
              rw [fileBase_segF n this.1 this.2]; rfl)
          split
          · show (Dk.append _ _ _).1.look f = _
            rw [append_look hm]; exact hroll
          · show (Dk.append _ _ _).1.look f = _
            rw [append_look hm]; exact hroll
theorem isF_none {n f : List UInt8} (h : isF n f = false) : fileBase ⟨n, [], 0⟩ f = none := by
  unfold isF at h
  cases hf : fileBase ⟨n, [], 0⟩ f with
  | none => rfl
  | some v => rw [hf] at h; cases h
/-- another log's puts -/
theorem Lay.beside {n m : List UInt8} {g g2 : Lg} {d : Dk} {gs gs2 : Gr} {b : Bd} (h : Lay n g d gs) (h2 : Lay m g2 d gs2) (hn : n ≠ [] ∧ n.length ≤ 8 ∧ ¬ 46 ∈ n) (hm : ¬ 46 ∈ m) (hne : n ≠ m) (ha : d.dead = false) (hs : Small gs) (hs2 : Small gs2) : Lay m g2 (g.put d b).2.1 gs2 := by
  refine ⟨h2.name, h2.segs, h2.chain, h2.start, fun p hp => ?_, fun f hf v hv => ?_⟩
  · have hsp := small_mem h2.chain hs2 hp
    have hi : isF m (segF m p.1) = true := by unfold isF; rw [fileBase_segF m hsp.1 hsp.2]; rfl
    rw [put_look h ⟨hn.1, hn.2.1⟩ ha hs (other_name hm hn.2.2 (fun e => hne e.symm) hi)]
    exact h2.data p hp
  · rcases put_names h ⟨hn.1, hn.2.1⟩ ha hs hf with h3 | h3
    · exact h2.only f h3 v hv
    · have := isF_none (other_name hn.2.2 hm hne h3)
      rw [this] at hv; cases hv
/-! ### a log in memory, whatever its disk does -/
theorem mem_put {n : List UInt8} {g : Lg} {d : Dk} {gs : Gr} {b : Bd} (h : Mem n g gs) (hnum : b.dc.num) (hba : b.ba = g.fin) : ∃ gs', Mem n (g.put d b).1 gs' ∧ (allB gs').length ≤ (allB gs).length + 1 ∧ grStart gs' = grStart gs := by
  have hfl : Mem n (g.flush d).1 gs := ⟨by rw [Lg.flush_name]; exact h.name, by rw [Lg.flush_segs]; exact h.segs, h.chain, h.start⟩
  have hgrow : ∀ {g' : Lg} {d' : Dk}, Mem n g' gs → (∀ q ∈ gs, q.2 ≠ []) → (g'.grow d').2.2 ≠ 0 ∧ (g'.grow d').1 = g' ∨ (g'.grow d').2.2 = 0 ∧ Mem n (g'.grow d').1 (gs ++ [(grFin gs, [])]) := fun {g' d'} hm hne => by
    unfold Lg.grow
    split
    · refine .inr ⟨rfl, hm.name, ?_, ?_, ?_⟩
      · show g'.segs ++ _ = _
        rw [hm.segs, file_segF hm.name, mem_fin hm]; unfold grSegs; simp [mkSg, fsOf, endsF]
      · exact (gch_snoc _ _).2 ⟨h.chain, trivial, fun _ => rfl, hne⟩
      · cases hgs : gs with
        | nil => exact Int.le_refl _
        | cons q qs => have := h.start; rw [hgs] at this; exact this
    · rename_i hc
      exact .inl ⟨hc, rfl⟩
  have hroll : (g.roll d).2.2 ≠ 0 ∧ Mem n (g.roll d).1 gs ∨ (g.roll d).2.2 = 0 ∧ Mem n (g.roll d).1 (rollG gs) := by
    unfold Lg.roll rollG
    rw [h.segs, grSegs_last]
    cases hl : gs.getLast? with
    | none =>
      have e := List.getLast?_eq_none_iff.1 hl
      simp only [Option.map_none]
      rcases hgrow (d' := d) h (fun q hq => by rw [e] at hq; cases hq) with ⟨h1, h2⟩ | ⟨h1, h2⟩
      · exact .inl ⟨h1, by rw [h2]; exact h⟩
      · refine .inr ⟨h1, ?_⟩
        subst e; exact h2
    | some p =>
      simp only [Option.map_some]
      have eb : (mkSg p.1 (segF n p.1) p.2).bytes = (fsOf p.2).length := rfl
      rw [eb]
      by_cases hc : (fsOf p.2).length < 512
      · rw [if_pos (by omega), if_pos hc]
        exact .inr ⟨rfl, h⟩
      · rw [if_neg (by omega), if_neg hc]
        by_cases hf : (g.flush d).2.2 = 0
        · rw [if_pos hf]
          have hne : ∀ q ∈ gs, q.2 ≠ [] := by
            intro q hq hq0
            have e := getLast_split hl
            have hg := h.chain
            rw [e] at hg hq
            have h2 := (gch_snoc _ _).1 hg
            rcases List.mem_append.1 hq with hq | hq
            · exact h2.2.2.2 q hq hq0
            · rw [List.mem_singleton] at hq
              subst hq
              rw [hq0] at hc
              exact hc (by decide)
          rcases hgrow (d' := (g.flush d).2.1) hfl hne with ⟨h1, h2⟩ | ⟨h1, h2⟩
          · exact .inl ⟨h1, by rw [h2]; exact hfl⟩
          · exact .inr ⟨h1, h2⟩
        · rw [if_neg hf]
          exact .inl ⟨hf, hfl⟩
  have hrl : (allB (rollG gs)).length ≤ (allB gs).length + 1 := by rw [rollG_allB]; omega
  have hrs : grStart (rollG gs) = grStart gs := by
    unfold rollG
    cases hl : gs.getLast? with
    | none => have e := List.getLast?_eq_none_iff.1 hl; subst e; rfl
    | some p =>
      simp only
      split
      · rfl
      · cases hgs : gs with
        | nil => rw [hgs] at hl; simp at hl
        | cons q qs => rfl
  unfold Lg.put
  split
  · exact ⟨gs, h, by omega, rfl⟩
  · split
    · exact ⟨gs, h, by omega, rfl⟩
    · rename_i hck _
      have hck : b.chk = 0 := Classical.not_not.1 hck
      split
      · rename_i hr
        rcases hroll with ⟨_, h2⟩ | ⟨h1, _⟩
        · exact ⟨gs, h2, by omega, rfl⟩
        · exact absurd h1 hr
      · rename_i hr
        rcases hroll with ⟨h1, _⟩ | ⟨_, h2⟩
        · exact absurd h1 hr
        · have hgl : (g.roll d).1.segs.getLast? = (rollG gs).getLast?.map fun p => mkSg p.1 (segF n p.1) p.2 := by rw [h2.segs, grSegs_last]
          rw [hgl]
          cases hl : (rollG gs).getLast? with
          | none => exact ⟨rollG gs, h2, hrl, hrs⟩
          | some p =>
            simp only [Option.map_some]
            split
            · have e := getLast_split hl
              have hg := addG_gch (b := b) h2.chain (rollG_ne gs) ⟨hck, hnum⟩ (by rw [hba, mem_fin h, (rollG_gch h.chain).2.1])
              refine ⟨addG (rollG gs) b, ⟨h2.name, ?_, hg.1, hg.2.2 h2.start⟩, by rw [put_len]; omega, put_start gs b⟩
              rw [mkSg_add]
              show (g.roll d).1.segs.set ((g.roll d).1.segs.length - 1) _ = _
              rw [h2.segs, addG_last hl]
              unfold grSegs
              rw [List.length_map]
              conv => lhs; rw [e]
              rw [List.map_append, List.map_append]
              have hlen : ((rollG gs).dropLast ++ [p]).length - 1 = ((rollG gs).dropLast.map fun p => mkSg p.1 (segF n p.1) p.2).length := by simp
              rw [hlen, List.set_append_right _ _ (Nat.le_refl _), Nat.sub_self]
              rfl
            · exact ⟨rollG gs, h2, hrl, hrs⟩
theorem mem_small {n : List UInt8} {g : Lg} {gs : Gr} (h : Mem n g gs) {k : Nat} (hk : (allB gs).length ≤ k) (hk2 : k ≤ 2097152) (h0 : grStart gs = 0) : Small gs := by
  have h1 := gch_fin_le h.chain
  exact ⟨by omega, by omega⟩
end Go.Proofs.YtbpcichakchpkaaGreatDoor
