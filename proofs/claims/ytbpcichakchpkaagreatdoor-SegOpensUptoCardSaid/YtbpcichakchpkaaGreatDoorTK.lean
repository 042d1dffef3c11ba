/- Layer 8 in plain Lean: a log that is opened anew, from its files. -/
import Derived.Test.YtbpcichakchpkaaGreatDoorTF
namespace Go.Proofs.YtbpcichakchpkaaGreatDoor
open Go Go.Pk
def isF (n : List UInt8) (f : List UInt8) : Bool := (fileBase ⟨n, [], 0⟩ f).isSome
theorem file_g (o : OpS) (f : List UInt8) : (o.file f).g.name = o.g.name := by
  unfold OpS.file
  split
  · rfl
  · split <;> rfl
theorem fold_skip (n : List UInt8) : ∀ (fs : List (List UInt8)) (o : OpS), o.g.name = n → fs.foldl OpS.file o = (fs.filter (isF n)).foldl OpS.file o
  | [], _, _ => rfl
  | f :: fs, o, ho => by
    rw [List.foldl_cons, fold_skip n fs _ (by rw [file_g, ho])]
    by_cases hf : isF n f = true
    · rw [List.filter_cons_of_pos hf, List.foldl_cons]
    · rw [List.filter_cons_of_neg hf]
      have : fileBase o.g f = none := by rw [fileBase_g ho]; unfold isF at hf; simpa using hf
      have e : o.file f = o := by unfold OpS.file; rw [this]
      rw [e]
theorem filter_srt (p : List UInt8 → Bool) (ns : List (List UInt8)) (ms : List (List UInt8)) (hn : ns.Nodup) (hs : ms.Pairwise (· < ·)) (hm : ∀ f, f ∈ ms ↔ f ∈ ns ∧ p f = true) : (srt ns).filter p = ms := by
  have tot : ∀ x y : List UInt8, (decide (x ≤ y) || decide (y ≤ x)) = true := fun x y => by
    rcases List.le_total x y with h | h <;> simp [h]
  have tr : ∀ x y z : List UInt8, decide (x ≤ y) = true → decide (y ≤ z) = true → decide (x ≤ z) = true := fun x y z h1 h2 => by
    simp only [decide_eq_true_eq] at h1 h2 ⊢
    exact List.le_trans h1 h2
  have hperm : (srt ns).Perm ns := List.mergeSort_perm ns _
  have hmn : ms.Nodup := hs.imp fun h => by intro e; subst e; exact List.lt_irrefl _ h
  have p1 : ((srt ns).filter p).Perm ms := by
    refine (List.perm_ext_iff_of_nodup ((hperm.nodup_iff.2 hn).sublist List.filter_sublist) hmn).2 fun f => ?_
    rw [List.mem_filter, hperm.mem_iff, hm]
  have s1 : ((srt ns).filter p).Pairwise (fun x y => decide (x ≤ y) = true) := (List.pairwise_mergeSort tr tot ns).sublist List.filter_sublist
  have s2 : ms.Pairwise (fun x y => decide (x ≤ y) = true) := hs.imp fun h => decide_eq_true (List.le_of_lt h)
  refine p1.eq_of_pairwise (fun x y _ _ h1 h2 => ?_) s1 s2
  simp only [decide_eq_true_eq] at h1 h2
  exact List.le_antisymm h1 h2
/-- files of a log, as they stand on a disk: all but the last one are whole; of the last one the batches are those told, and some bytes that are none -/
structure Fls (n : List UInt8) (d : Dk) (gs : Gr) (rest : List UInt8) : Prop where
  live : d.dead = false
  nodup : d.names.Nodup
  chain : GCh gs
  small : Small gs
  data : ∀ p ∈ gs.dropLast, ∃ s, d.look (segF n p.1) = some ⟨fsOf p.2, s⟩
  last : ∀ p, gs.getLast? = some p → ∃ s, d.look (segF n p.1) = some ⟨fsOf p.2 ++ rest, s⟩
  stop : ∀ p, gs.getLast? = some p → stepS (fsOf p.2 ++ rest) (mkSg p.1 (segF n p.1) p.2) = none
  only : ∀ f ∈ d.names, ∀ v, fileBase ⟨n, [], 0⟩ f = some v → v ∈ gs.map Prod.fst
theorem Fls.order {n : List UInt8} {d : Dk} {gs : Gr} {rest : List UInt8} (h : Fls n d gs rest) : (srt d.names).filter (isF n) = gs.map fun p => segF n p.1 := by
  have hr : ∀ p ∈ gs, 0 ≤ p.1 ∧ p.1 < 100000000 := fun p hp => small_mem h.chain h.small hp
  have hin : ∀ p ∈ gs, segF n p.1 ∈ d.names := fun p hp => by
    cases hl : gs.getLast? with
    | none => rw [List.getLast?_eq_none_iff.1 hl] at hp; cases hp
    | some q =>
      have e := getLast_split hl
      rw [e] at hp
      rcases List.mem_append.1 hp with hp | hp
      · obtain ⟨s, hs⟩ := h.data p hp
        exact look_names hs
      · rw [List.mem_singleton] at hp
        subst hp
        obtain ⟨s, hs⟩ := h.last p hl
        exact look_names hs
  refine filter_srt _ _ _ h.nodup ?_ fun f => ?_
  · have hb := gch_bases h.chain
    rw [List.pairwise_map] at hb ⊢
    refine hb.imp_of_mem fun {p q} hp hq hlt => segF_lt n (hr p hp).1 hlt (hr q hq).2
  · constructor
    · intro hf
      obtain ⟨p, hp, rfl⟩ := List.mem_map.1 hf
      refine ⟨hin p hp, ?_⟩
      unfold isF
      rw [fileBase_segF n (hr p hp).1 (hr p hp).2]; rfl
    · rintro ⟨hf, hi⟩
      unfold isF at hi
      obtain ⟨v, hv⟩ := Option.isSome_iff_exists.1 hi
      obtain ⟨p, hp, hpv⟩ := List.mem_map.1 (h.only f hf v hv)
      refine List.mem_map.2 ⟨p, hp, ?_⟩
      have hv2 := hv
      unfold fileBase at hv2
      split at hv2
      · split at hv2
        · split at hv2
          · rename_i v' _ hfv
            cases hv2
            rw [hpv]
            exact hfv.symm
          · cases hv2
        · cases hv2
      · cases hv2
theorem dataOf_look {d : Dk} {n : List UInt8} {f : Fl} (ha : d.dead = false) (h : d.look n = some f) : d.dataOf n = f.data := by
  unfold Dk.dataOf Dk.find
  rw [ha, h]; rfl
/-- whole files are taken one behind the other -/
theorem fold_whole {n : List UInt8} {d : Dk} (ha : d.dead = false) : ∀ (gs pre : Gr), GCh (pre ++ gs) → Small (pre ++ gs) → (∀ q ∈ pre, q.2 ≠ [] ∨ gs = []) → (∀ p ∈ gs, ∃ s, d.look (segF n p.1) = some ⟨fsOf p.2, s⟩) →
    (gs.map fun p => segF n p.1).foldl OpS.file ⟨⟨n, grSegs n pre, 0⟩, d, true⟩ = ⟨⟨n, grSegs n (pre ++ gs), 0⟩, d, true⟩
  | [], pre, _, _, _, _ => by simp
  | p :: gs, pre, hg, hs, hne, hd => by
    have e : pre ++ p :: gs = (pre ++ [p]) ++ gs := by simp
    have hpm : p ∈ pre ++ p :: gs := by simp
    have hr := small_mem hg hs hpm
    have hch := (gch_mem hg hpm).1
    rw [List.map_cons, List.foldl_cons]
    have hstep : OpS.file ⟨⟨n, grSegs n pre, 0⟩, d, true⟩ (segF n p.1) = ⟨⟨n, grSegs n (pre ++ [p]), 0⟩, d, true⟩ := by
      unfold OpS.file
      rw [show fileBase (⟨⟨n, grSegs n pre, 0⟩, d, true⟩ : OpS).g (segF n p.1) = some p.1 by rw [fileBase_g (n := n) rfl]; exact fileBase_segF n hr.1 hr.2]
      simp only
      obtain ⟨s, hs2⟩ := hd p (by simp)
      rw [if_neg]
      · rw [ldFl_chain (dataOf_look ha hs2) hch]
        unfold grSegs
        rw [List.map_append]; rfl
      · rintro (h | ⟨h1, h2⟩)
        · cases h
        · apply h2
          cases hl : pre.getLast? with
          | none =>
            rw [List.getLast?_eq_none_iff.1 hl] at h1
            exact absurd rfl h1
          | some q =>
            have : (⟨n, grSegs n pre, 0⟩ : Lg).fin = grFin pre := by
              unfold Lg.fin grFin
              simp only
              rw [grSegs_last, hl]
              exact mkSg_fin
            rw [this]
            have hg2 : GCh (pre ++ [p]) := by
              have hpre : ∀ (b a : Gr), GCh (a ++ b) → GCh a := by
                intro b
                induction b with
                | nil => intro a h; simpa using h
                | cons x b ih =>
                  intro a h
                  have e : a ++ x :: b = (a ++ [x]) ++ b := by simp
                  rw [e] at h
                  exact ((gch_snoc _ _).1 (ih _ h)).1
              rw [e] at hg
              exact hpre _ _ hg
            exact ((gch_snoc _ _).1 hg2).2.2.1 (by intro h; rw [h] at hl; simp at hl)
    rw [hstep, fold_whole ha gs (pre ++ [p]) (by rw [← e]; exact hg) (by rw [← e]; exact hs) (fun q hq => by
      cases hgs : gs with
      | nil => exact .inr rfl
      | cons p2 gs2 =>
        left
        rcases List.mem_append.1 hq with hq | hq
        · rcases hne q hq with h | h
          · exact h
          · cases h
        · rw [List.mem_singleton] at hq
          subst hq
          intro h0
          have key : ∀ (a b : Gr) (q x : Int × List Bd), GCh (a ++ q :: x :: b) → q.2 ≠ [] := by
            intro a
            induction a with
            | nil => intro b q x h; exact h.2.1
            | cons y a ih =>
              intro b q x h
              cases a with
              | nil => exact ih b q x h.2.2.2
              | cons z a => exact ih b q x h.2.2.2
          rw [hgs] at hg
          exact key _ _ _ _ hg h0) (fun q hq => hd q (by simp [hq])), ← e]
/-- a log that is opened -/
theorem op_fls {n : List UInt8} {d : Dk} {gs : Gr} {rest : List UInt8} (h : Fls n d gs rest) :
    (opAll n d).g = ⟨n, grSegs n gs, 0⟩ ∧ (rest = [] → (opAll n d).d = d) ∧ (rest ≠ [] → ∀ p, gs.getLast? = some p → (opAll n d).d = (d.cut (segF n p.1) (fsOf p.2).length).1) := by
  unfold opAll
  rw [fold_skip n _ _ rfl, h.order]
  cases hl : gs.getLast? with
  | none =>
    have e := List.getLast?_eq_none_iff.1 hl
    subst e
    exact ⟨rfl, fun _ => rfl, fun _ p hp => by cases hp⟩
  | some p =>
    have e := getLast_split hl
    have hg := h.chain
    have hsm := h.small
    have hp : p ∈ gs := List.mem_of_getLast? hl
    have hr := small_mem hg hsm hp
    have hg2 := hg
    rw [e] at hg2
    have hg3 := (gch_snoc _ _).1 hg2
    have hsm1 : Small gs.dropLast := by
      cases hq : gs.dropLast with
      | nil => exact ⟨Int.le_refl _, by decide⟩
      | cons q qs =>
        have h1 : grStart gs = q.1 := by rw [e, hq]; rfl
        have h2 := hg3.2.2.1 (by rw [hq]; simp)
        rw [hq] at h2
        have h0 := hsm.1
        exact ⟨by show 0 ≤ q.1; omega, by rw [← h2]; exact hr.2⟩
    have hfold := fold_whole (n := n) h.live gs.dropLast [] (by simpa using hg3.1) (by simpa using hsm1) (fun q hq => by cases hq) h.data
    rw [List.nil_append] at hfold
    have e0 : grSegs n [] = [] := rfl
    rw [e0] at hfold
    have em : (gs.map fun p => segF n p.1) = (gs.dropLast.map fun p => segF n p.1) ++ [segF n p.1] := by
      conv => lhs; rw [e]
      rw [List.map_append]; rfl
    rw [em, List.foldl_append, hfold, List.foldl_cons, List.foldl_nil]
    obtain ⟨s, hs⟩ := h.last p hl
    have hdat := dataOf_look h.live hs
    simp only at hdat
    have hld := ldSg_chain (v := p.1) (f := segF n p.1) (d := d) (bs := p.2) (rest := rest) hdat hg3.2.1 (h.stop p hl)
    unfold OpS.file
    rw [show fileBase (⟨⟨n, grSegs n gs.dropLast, 0⟩, d, true⟩ : OpS).g (segF n p.1) = some p.1 by rw [fileBase_g (n := n) rfl]; exact fileBase_segF n hr.1 hr.2]
    simp only
    rw [if_neg]
    · have hby : (mkSg p.1 (segF n p.1) p.2).bytes = (fsOf p.2).length := rfl
      refine ⟨?_, fun hr0 => ?_, fun hr0 q hq => ?_⟩
      · simp only
        rw [ldFl_fst, hld]
        conv => rhs; rw [e]
        unfold grSegs
        rw [List.map_append]; rfl
      · unfold ldFl
        simp only
        rw [hld, hdat, hby, hr0, List.append_nil, if_neg (Int.lt_irrefl _)]
      · cases hq
        unfold ldFl
        simp only
        rw [hld, hdat, hby, if_pos]
        rw [List.length_append]
        have : 0 < rest.length := List.length_pos_iff.2 hr0
        omega
    · rintro (h1 | ⟨h1, h2⟩)
      · cases h1
      · apply h2
        have hne : gs.dropLast ≠ [] := by
          intro h0; rw [h0] at h1; exact h1 rfl
        have : (⟨n, grSegs n gs.dropLast, 0⟩ : Lg).fin = grFin gs.dropLast := by
          unfold Lg.fin grFin
          simp only
          rw [grSegs_last]
          cases hq : gs.dropLast.getLast? with
          | none => exact absurd (List.getLast?_eq_none_iff.1 hq) hne
          | some q => exact mkSg_fin
        rw [this]
        exact hg3.2.2.1 hne
/-- a log on a disk, opened anew -/
theorem lay_fls {n : List UInt8} {g : Lg} {d : Dk} {gs : Gr} (h : Lay n g d gs) (ha : d.dead = false) (hn : d.names.Nodup) (hs : Small gs) : Fls n d gs [] := by
  refine ⟨ha, hn, h.chain, hs, fun p hp => h.data p (List.dropLast_subset _ hp), fun p hp => ?_, fun p hp => ?_, h.only⟩
  · rw [List.append_nil]; exact h.data p (List.mem_of_getLast? hp)
  · unfold stepS
    rw [if_neg]
    rintro ⟨h1, _⟩
    rw [List.append_nil] at h1
    exact absurd h1 (by show ¬ ((fsOf p.2).length : Int) < _; omega)
end Go.Proofs.YtbpcichakchpkaaGreatDoor
