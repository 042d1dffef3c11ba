/- Texts of mine, put together: TS, TT, TU, TV, TW, TX. -/
import Derived.Test.YtnjadekngjgjcaaGreatDoorE11
/- Layer 8: segments are taken away from the front. -/
namespace Go.Proofs.YtnjadekngjgjcaaGreatDoor
open Go Go.Pk
def Lg.dropL (before : Int) : Nat → Lg → Dk → Lg × Dk × Int
  | 0, g, d => (g, d, 0)
  | n + 1, g, d => match g.segs with
    | s :: s2 :: ss => if s2.base ≤ before then
        if (d.remove s.name).2 ≠ 0 then (g, (d.remove s.name).1, (d.remove s.name).2) else dropL before n { g with segs := s2 :: ss } (d.remove s.name).1
      else (g, d, 0)
    | _ => (g, d, 0)
def Lg.drop (g : Lg) (d : Dk) (before : Int) : Lg × Dk × Int := Lg.dropL before g.segs.length g d
theorem Lg.dropL_few {before : Int} {g : Lg} {d : Dk} (h : g.segs.length ≤ 1) (n : Nat) : Lg.dropL before n g d = (g, d, 0) := by
  cases n with
  | zero => rfl
  | succ n =>
    unfold Lg.dropL
    split
    · rename_i s s2 ss he; rw [he] at h; simp at h
    · rfl
section
variable {W w : World} {l : List Res} {K : Value → World → Prop} {a b : Nat} {g : Lg}
end
end Go.Proofs.YtnjadekngjgjcaaGreatDoor

/- Layer 8: a log is cut behind an offset. -/
namespace Go.Proofs.YtnjadekngjgjcaaGreatDoor
open Go Go.Pk
/-- how many of so many batches end up to an offset, from behind -/
def keepK (to_ : Int) (bt : List Bd) : Nat → Nat
  | 0 => 0
  | k + 1 => match bt[k]? with
    | some x => if x.fin > to_ then keepK to_ bt k else k + 1
    | none => k + 1
def Sg.cutAt (s : Sg) (k : Nat) : Int := if k = 0 then 0 else s.ends.getD (k - 1) 0
def Sg.cut (s : Sg) (k : Nat) : Sg := ⟨s.base, s.name, s.cutAt k, s.bt.take k, s.ends.take k⟩
def Lg.truncL (to_ : Int) : Nat → Lg → Dk → Lg × Dk × Int
  | 0, g, d => (g, d, 0)
  | n + 1, g, d => match g.segs.getLast? with
    | none => (g, d, 0)
    | some s =>
      if keepK to_ s.bt s.bt.length = 0 ∧ 1 < g.segs.length then
        if (d.remove s.name).2 ≠ 0 then (g, (d.remove s.name).1, (d.remove s.name).2) else Lg.truncL to_ n { g with segs := g.segs.dropLast } (d.remove s.name).1
      else if keepK to_ s.bt s.bt.length = s.bt.length then (g, d, 0) else
        if (d.cut s.name (s.cutAt (keepK to_ s.bt s.bt.length))).2 ≠ 0 then (g, (d.cut s.name (s.cutAt (keepK to_ s.bt s.bt.length))).1, (d.cut s.name (s.cutAt (keepK to_ s.bt s.bt.length))).2)
        else (g.last (s.cut (keepK to_ s.bt s.bt.length)), (d.cut s.name (s.cutAt (keepK to_ s.bt s.bt.length))).1, 0)
def Lg.trunc (g : Lg) (d : Dk) (to_ : Int) : Lg × Dk × Int :=
  if to_ < g.start then (g, d, 13) else
  if (Lg.truncL to_ g.segs.length g d).2.2 ≠ 0 then Lg.truncL to_ g.segs.length g d
  else ({ (Lg.truncL to_ g.segs.length g d).1 with sync := min (Lg.truncL to_ g.segs.length g d).1.sync (Lg.truncL to_ g.segs.length g d).1.fin }, (Lg.truncL to_ g.segs.length g d).2.1, 0)
theorem keepK_le (to_ : Int) (bt : List Bd) : ∀ k, keepK to_ bt k ≤ k
  | 0 => Nat.le_refl _
  | k + 1 => by
    unfold keepK
    split
    · split
      · have := keepK_le to_ bt k; omega
      · exact Nat.le_refl _
    · exact Nat.le_refl _
section
variable {W w : World} {l : List Res} {K : Value → World → Prop} {a b : Nat} {g : Lg}
end
end Go.Proofs.YtnjadekngjgjcaaGreatDoor

/- Layer 8: a log is cut behind an offset, the walk. -/
namespace Go.Proofs.YtnjadekngjgjcaaGreatDoor
open Go Go.Pk
section
variable {W w : World} {l : List Res} {K : Value → World → Prop} {a b : Nat} {g : Lg}
end
end Go.Proofs.YtnjadekngjgjcaaGreatDoor

/- Layer 8 in plain Lean: a log on a disk that breaks: what is put, flushed, dropped. -/
namespace Go.Proofs.YtnjadekngjgjcaaGreatDoor
open Go Go.Pk
/-- up to where a group lasts, as the log says and as the disk says -/
def SyOk (y : Int) (p : Int × List Bd) (s : Int) : Prop := ∃ k, k ≤ p.2.length ∧ ((fsOf (p.2.take k)).length : Int) ≤ s ∧ y ≤ chEnd p.1 (p.2.take k)
/-- a log and its disk, that may have broken -/
structure Lst (n : List UInt8) (g : Lg) (d : Dk) (gs : Gr) (part : List UInt8) : Prop where
  mem : Mem n g gs
  full : ∀ p ∈ gs.dropLast, d.look (segF n p.1) = some ⟨fsOf p.2, (fsOf p.2).length⟩
  last : ∀ p, gs.getLast? = some p → ∃ s, d.look (segF n p.1) = some ⟨fsOf p.2 ++ part, s⟩ ∧ s ≤ (fsOf p.2 ++ part).length ∧ SyOk g.sync p s
  none : gs = [] → g.sync ≤ 0
  live : d.dead = false → part = []
  brk : part = [] ∨ ∃ e : Bd, ∃ t, e.ok ∧ part = (frm e.enc).take t ∧ t < (frm e.enc).length
  only : ∀ f ∈ d.names, ∀ v, fileBase ⟨n, [], 0⟩ f = some v → v ∈ gs.map Prod.fst
theorem Lst.lay {n : List UInt8} {g : Lg} {d : Dk} {gs : Gr} {part : List UInt8} (h : Lst n g d gs part) (ha : d.dead = false) : Lay n g d gs := by
  refine ⟨h.mem.name, h.mem.segs, h.mem.chain, h.mem.start, fun p hp => ?_, h.only⟩
  cases hl : gs.getLast? with
  | none => rw [List.getLast?_eq_none_iff.1 hl] at hp; cases hp
  | some q =>
    have e := getLast_split hl
    rw [e] at hp
    rcases List.mem_append.1 hp with hp | hp
    · exact ⟨_, h.full p hp⟩
    · rw [List.mem_singleton] at hp
      subst hp
      obtain ⟨s, hs, _⟩ := h.last p hl
      rw [h.live ha, List.append_nil] at hs
      exact ⟨s, hs⟩
theorem SyOk.all {p : Int × List Bd} {y : Int} (h : y ≤ chEnd p.1 p.2) : SyOk y p (fsOf p.2).length := ⟨p.2.length, Nat.le_refl _, by rw [List.take_length]; exact Int.le_refl _, by rw [List.take_length]; exact h⟩
theorem chEnd_take {n : Int} {xs : List Bd} (h : Chain n xs) (k : Nat) : chEnd n (xs.take k) ≤ chEnd n xs := by
  have e : xs = xs.take k ++ xs.drop k := (List.take_append_drop k xs).symm
  rw [e] at h
  have h2 := ((chain_app _ _ _).1 h).2
  have h3 := (chain_mem _ _ h2).1
  rw [← chEnd_app, List.take_append_drop] at h3
  exact h3
theorem Lst.syn {n : List UInt8} {g : Lg} {d : Dk} {gs : Gr} {part : List UInt8} (h : Lst n g d gs part) : g.sync ≤ grFin gs := by
  cases hl : gs.getLast? with
  | none =>
    have e := List.getLast?_eq_none_iff.1 hl
    have := h.none e
    rw [e]; exact this
  | some p =>
    obtain ⟨s, _, _, k, _, _, h3⟩ := h.last p hl
    have hc := (gch_mem h.mem.chain (List.mem_of_getLast? hl)).1
    have := chEnd_take hc k
    have e : grFin gs = chEnd p.1 p.2 := by unfold grFin; rw [hl]
    omega
theorem Lst.new (n : List UInt8) : Lst n ⟨n, [], 0⟩ Dk.new [] [] := by
  refine ⟨(lay_new n).mem, (fun p hp => by cases hp), (fun p hp => by cases hp), fun _ => Int.le_refl _, fun _ => rfl, .inl rfl, fun f hf => ?_⟩
  simp [Dk.new, Dk.names] at hf
/-! ### on a dead disk nothing is done -/
theorem dead_append {d : Dk} {m b : List UInt8} (hd : d.dead = true) : d.append m b = (d, 9) := by unfold Dk.append; rw [if_pos hd]
theorem dead_sync {d : Dk} {m : List UInt8} (hd : d.dead = true) : d.sync m = (d, 9) := by unfold Dk.sync Dk.find; rw [if_pos hd]
theorem dead_flush {g : Lg} {d : Dk} (hd : d.dead = true) : (g.flush d).1 = g ∧ (g.flush d).2.1 = d := by
  unfold Lg.flush
  split
  · exact ⟨rfl, rfl⟩
  · rw [dead_sync hd]
    rw [if_neg (show ¬ (9 : Int) = 0 by decide)]
    exact ⟨rfl, rfl⟩
theorem dead_roll {g : Lg} {d : Dk} (hd : d.dead = true) : (g.roll d).1 = g ∧ (g.roll d).2.1 = d := by
  have hg : ∀ g : Lg, (g.grow d).1 = g ∧ (g.grow d).2.1 = d := fun g => by
    unfold Lg.grow
    rw [dead_append hd, if_neg (show ¬ (9 : Int) = 0 by decide)]
    exact ⟨rfl, rfl⟩
  unfold Lg.roll
  split
  · exact hg g
  · split
    · exact ⟨rfl, rfl⟩
    · have hf := dead_flush (g := g) hd
      split
      · rw [hf.1, hf.2]; exact hg g
      · exact hf
theorem dead_put {g : Lg} {d : Dk} {b : Bd} (hd : d.dead = true) : (g.put d b).1 = g ∧ (g.put d b).2.1 = d := by
  have hr := dead_roll (g := g) hd
  unfold Lg.put
  split
  · exact ⟨rfl, rfl⟩
  · split
    · exact ⟨rfl, rfl⟩
    · split
      · exact hr
      · split
        · exact hr
        · rw [hr.2, dead_append hd]
          rw [if_neg (show ¬ (9 : Int) = 0 by decide)]
          exact ⟨hr.1, rfl⟩
/-! ### a disk that lives -/
theorem Lst.flush {n : List UInt8} {g : Lg} {d : Dk} {gs : Gr} {part : List UInt8} (h : Lst n g d gs part) (hs : Small gs) : Lst n (g.flush d).1 (g.flush d).2.1 gs part := by
  by_cases hd : d.dead = true
  · have := dead_flush (g := g) hd
    rw [this.1, this.2]; exact h
  · have ha : d.dead = false := by simpa using hd
    have hlay := h.lay ha
    have hp0 := h.live ha
    obtain ⟨f1, f2, f3, f4, f5, f6, f7⟩ := lay_flush hlay ha hs
    cases hl : gs.getLast? with
    | none =>
      rw [hl] at f7
      rw [f7.1, f7.2]; exact h
    | some p =>
      rw [hl] at f7
      have hpm := List.mem_of_getLast? hl
      have e := getLast_split hl
      have hsp := small_mem h.mem.chain hs hpm
      have hfin : grFin gs = chEnd p.1 p.2 := by unfold grFin; rw [hl]
      refine ⟨f2.mem, fun q hq => ?_, fun q hq => ?_, fun h0 => ?_, fun _ => hp0, h.brk, f2.only⟩
      · unfold Dk.look
        rw [f7.2, lookL_put]
        split
        · rename_i heq
          have hq' : q ∈ gs := by rw [e]; exact List.mem_append_left _ hq
          have hsq := small_mem h.mem.chain hs hq'
          have hv := segF_inj n hsp.1 hsp.2 hsq.1 hsq.2 heq
          have hpw := gch_bases h.mem.chain
          rw [e, List.map_append, List.pairwise_append] at hpw
          have := hpw.2.2 q.1 (List.mem_map_of_mem hq) p.1 (by simp)
          omega
        · exact h.full q hq
      · rw [hl] at hq
        cases hq
        refine ⟨((fsOf p.2).length : Int), ?_, ?_, ?_⟩
        · unfold Dk.look
          rw [f7.2, lookL_put, if_pos rfl, hp0, List.append_nil]
        · rw [hp0, List.append_nil]; exact Int.le_refl _
        · exact SyOk.all (by rw [f7.1, hfin]; exact Int.le_refl _)
      · rw [h0] at hpm; cases hpm
theorem Lst.grow {n : List UInt8} {g : Lg} {d : Dk} {gs : Gr} (h : Lst n g d gs []) (hn : n ≠ [] ∧ n.length ≤ 8) (ha : d.dead = false) (hs : Small gs) (hne : ∀ q ∈ gs, q.2 ≠ [])
    (hful : ∀ p, gs.getLast? = some p → d.look (segF n p.1) = some ⟨fsOf p.2, (fsOf p.2).length⟩) :
    ((g.grow d).2.2 = 3 ∧ (g.grow d).1 = g ∧ (g.grow d).2.1 = d) ∨ ((g.grow d).2.2 = 0 ∧ Lst n (g.grow d).1 (g.grow d).2.1 (gs ++ [(grFin gs, [])]) [] ∧ (g.grow d).2.1.dead = false) := by
  rcases lay_grow (h.lay ha) hn ha hs hne with h1 | ⟨h1, h2, h3, h4, h5, h6, h7, h8⟩
  · exact .inl h1
  · refine .inr ⟨h1, ⟨h2.mem, fun p hp => ?_, fun p hp => ?_, fun h0 => ?_, fun _ => rfl, .inl rfl, h2.only⟩, h3⟩
    · rw [List.dropLast_concat] at hp
      unfold Dk.look
      rw [h7, lookL_put, if_neg]
      · cases hl : gs.getLast? with
        | none => rw [List.getLast?_eq_none_iff.1 hl] at hp; cases hp
        | some q =>
          have e := getLast_split hl
          have hp2 := hp
          rw [e] at hp2
          rcases List.mem_append.1 hp2 with hp2 | hp2
          · exact h.full p hp2
          · rw [List.mem_singleton] at hp2
            subst hp2
            exact hful p hl
      · intro e
        obtain ⟨s, hs2⟩ := (h.lay ha).data p hp
        rw [e, hs2] at h8
        cases h8
    · rw [List.getLast?_append] at hp
      simp only [List.getLast?_singleton, Option.some_or, Option.some.injEq] at hp
      subst hp
      refine ⟨0, ?_, ?_, 0, Nat.le_refl _, Int.le_refl _, ?_⟩
      · unfold Dk.look
        rw [h7, lookL_put, if_pos rfl]
        unfold Dk.fl0
        rw [h8]; rfl
      · simp [fsOf]
      · rw [h6]; exact h.syn
    · simp at h0
theorem Lst.roll {n : List UInt8} {g : Lg} {d : Dk} {gs : Gr} (h : Lst n g d gs []) (hn : n ≠ [] ∧ n.length ≤ 8) (ha : d.dead = false) (hs : Small gs) :
    ((g.roll d).2.2 = 3 ∧ Lst n (g.roll d).1 (g.roll d).2.1 gs [] ∧ (g.roll d).2.1.dead = false) ∨ ((g.roll d).2.2 = 0 ∧ Lst n (g.roll d).1 (g.roll d).2.1 (rollG gs) [] ∧ (g.roll d).2.1.dead = false) := by
  unfold Lg.roll rollG
  rw [h.mem.segs, grSegs_last]
  cases hl : gs.getLast? with
  | none =>
    simp only [Option.map_none]
    have e := List.getLast?_eq_none_iff.1 hl
    rcases h.grow hn ha hs (fun q hq => by rw [e] at hq; cases hq) (fun p hp => by rw [hl] at hp; cases hp) with ⟨h1, h2, h3⟩ | ⟨h1, h2, h3⟩
    · exact .inl ⟨h1, by rw [h2, h3]; exact h, by rw [h3]; exact ha⟩
    · refine .inr ⟨h1, ?_, h3⟩
      subst e; exact h2
  | some p =>
    simp only [Option.map_some]
    have eb : (mkSg p.1 (segF n p.1) p.2).bytes = (fsOf p.2).length := rfl
    rw [eb]
    by_cases hc : (fsOf p.2).length < 512
    · rw [if_pos (by omega), if_pos hc]
      exact .inr ⟨rfl, h, ha⟩
    · rw [if_neg (by omega), if_neg hc]
      obtain ⟨f1, f2, f3, f4, f5, f6, f7⟩ := lay_flush (h.lay ha) ha hs
      have hF := h.flush hs
      rw [if_pos f1]
      rw [hl] at f7
      have hne : ∀ q ∈ gs, q.2 ≠ [] := by
        intro q hq hq0
        have e := getLast_split hl
        have hg := h.mem.chain
        rw [e] at hg hq
        have h2 := (gch_snoc _ _).1 hg
        rcases List.mem_append.1 hq with hq | hq
        · exact h2.2.2.2 q hq hq0
        · rw [List.mem_singleton] at hq
          subst hq
          rw [hq0] at hc
          exact hc (by decide)
      rcases hF.grow hn f3 hs hne (fun q hq => by
        rw [hl] at hq; cases hq
        unfold Dk.look
        rw [f7.2, lookL_put, if_pos rfl]) with ⟨h1, h2, h3⟩ | ⟨h1, h2, h3⟩
      · exact .inl ⟨h1, by rw [h2, h3]; exact hF, by rw [h3]; exact f3⟩
      · exact .inr ⟨h1, h2, h3⟩
theorem Lst.put {n : List UInt8} {g : Lg} {d : Dk} {gs : Gr} {part : List UInt8} {b : Bd} (h : Lst n g d gs part) (hn : n ≠ [] ∧ n.length ≤ 8) (hs : Small gs) (hnum : b.dc.num) (hba : b.ba = g.fin) :
    ∃ gs' part', Lst n (g.put d b).1 (g.put d b).2.1 gs' part' ∧ (allB gs').length ≤ (allB gs).length + 1 ∧ grFin gs' ≤ grFin gs + 16 := by
  by_cases hd : d.dead = true
  · have := dead_put (g := g) (b := b) hd
    rw [this.1, this.2]
    exact ⟨gs, part, h, by omega, by omega⟩
  have ha : d.dead = false := by simpa using hd
  have hp0 := h.live ha
  subst hp0
  by_cases hc : b.chk ≠ 0
  · have e : g.put d b = (g, d, b.chk) := by unfold Lg.put; rw [if_pos hc]
    rw [e]
    exact ⟨gs, [], h, by omega, by omega⟩
  have hc : b.chk = 0 := Classical.not_not.1 hc
  have hbs := Bd.size_pos hc
  have hfin := mem_fin h.mem
  unfold Lg.put
  rw [if_neg (by simp [hc]), if_neg (by simp [hba])]
  have hg := rollG_gch h.mem.chain
  rcases h.roll hn ha hs with ⟨h1, h2, h3⟩ | ⟨h1, h2, h3⟩
  · rw [if_pos (by rw [h1]; decide)]
    exact ⟨gs, [], h2, by omega, by omega⟩
  · rw [if_neg (by rw [h1]; decide)]
    have hne := rollG_ne gs
    have hsr := rollG_small h.mem.chain hs
    have hgl : (g.roll d).1.segs.getLast? = (rollG gs).getLast?.map fun p => mkSg p.1 (segF n p.1) p.2 := by rw [h2.mem.segs, grSegs_last]
    rw [hgl]
    cases hl : (rollG gs).getLast? with
    | none => exact absurd (List.getLast?_eq_none_iff.1 hl) hne
    | some p =>
      have hpm : p ∈ rollG gs := List.mem_of_getLast? hl
      have hsp := small_mem h2.mem.chain hsr hpm
      have esp := getLast_split hl
      simp only [Option.map_some]
      have en : (mkSg p.1 (segF n p.1) p.2).name = segF n p.1 := rfl
      rw [en]
      obtain ⟨s, hs1, hs2, hs3⟩ := h2.last p hl
      rw [List.append_nil] at hs1 hs2
      have sep : ∀ q ∈ (rollG gs).dropLast, segF n p.1 ≠ segF n q.1 := fun q hq heq => by
        have hq' : q ∈ rollG gs := by rw [esp]; exact List.mem_append_left _ hq
        have hsq := small_mem h2.mem.chain hsr hq'
        have hv := segF_inj n hsp.1 hsp.2 hsq.1 hsq.2 heq
        have hpw := gch_bases h2.mem.chain
        rw [esp, List.map_append, List.pairwise_append] at hpw
        have := hpw.2.2 q.1 (List.mem_map_of_mem hq) p.1 (by simp)
        omega
      rcases append_cases (b := frm b.enc) h3 (segF_ok hn hsp.1 hsp.2) with hcc | ⟨k, hk, e2, e3, e4, e5, e6⟩
      · rw [hcc, if_neg (show ¬ (3 : Int) = 0 by decide)]
        exact ⟨rollG gs, [], h2, by rw [rollG_allB]; omega, by rw [hg.2.1]; omega⟩
      · have hf0 : ((g.roll d).2.1.fl0 (segF n p.1)) = ⟨fsOf p.2, s⟩ := by unfold Dk.fl0; rw [hs1]
        rw [hf0] at e5
        by_cases hkl : k < (frm b.enc).length
        · have e2' : ((g.roll d).2.1.append (segF n p.1) (frm b.enc)).2 = 9 := by rw [e2, if_pos hkl]
          rw [if_neg (by rw [e2']; decide)]
          refine ⟨rollG gs, (frm b.enc).take k, ⟨h2.mem, fun q hq => ?_, fun q hq => ?_, fun h0 => absurd h0 hne, fun hda => ?_, .inr ⟨b, k, ⟨hc, hnum⟩, rfl, hkl⟩, fun f hf v hv => ?_⟩, by rw [rollG_allB]; omega, by rw [hg.2.1]; omega⟩
          · unfold Dk.look
            rw [e5, lookL_put, if_neg (sep q hq)]
            exact h2.full q hq
          · rw [hl] at hq
            cases hq
            refine ⟨s, ?_, ?_, hs3⟩
            · unfold Dk.look
              rw [e5, lookL_put, if_pos rfl]
            · rw [List.length_append]; omega
          · simp only at hda
            rw [e3, decide_eq_true hkl] at hda
            cases hda
          · rcases append_names hf with h4 | h4
            · exact h2.only f h4 v hv
            · rw [h4, fileBase_segF n hsp.1 hsp.2] at hv
              cases hv
              exact List.mem_map_of_mem hpm
        · have hkf : k = (frm b.enc).length := by omega
          subst hkf
          have e2' : ((g.roll d).2.1.append (segF n p.1) (frm b.enc)).2 = 0 := by rw [e2, if_neg hkl]
          rw [if_pos e2']
          rw [List.take_length] at e5
          have hlp := lay_push (h2.lay h3) hsr hl ⟨hc, hnum⟩ (by rw [hba, hfin, hg.2.1]) e5 rfl
          have hgf := addG_gch (b := b) h2.mem.chain hne ⟨hc, hnum⟩ (by rw [hba, hfin, hg.2.1])
          refine ⟨addG (rollG gs) b, [], ⟨hlp.mem, fun q hq => ?_, fun q hq => ?_, fun h0 => ?_, fun _ => rfl, .inl rfl, hlp.only⟩, Nat.le_of_eq put_len, ?_⟩
          · rw [addG_last hl, List.dropLast_concat] at hq
            unfold Dk.look
            rw [e5, lookL_put, if_neg (sep q hq)]
            exact h2.full q hq
          · rw [addG_last hl, List.getLast?_append] at hq
            simp only [List.getLast?_singleton, Option.some_or, Option.some.injEq] at hq
            subst hq
            obtain ⟨k2, q1, q2, q3⟩ := hs3
            refine ⟨s, ?_, ?_, k2, ?_, ?_, ?_⟩
            · unfold Dk.look
              rw [e5, lookL_put, if_pos rfl]
              simp [fsOf_app, fsOf_one]
            · simp only [List.append_nil]
              rw [fsOf_app, List.length_append]; omega
            · simp; omega
            · simp only
              rw [List.take_append_of_le_length q1]; exact q2
            · simp only
              rw [List.take_append_of_le_length q1]; exact q3
          · rw [addG_last hl] at h0; simp at h0
          · rw [hgf.2.1]
            have e1 : b.fin = b.ba + b.size := rfl
            omega
end Go.Proofs.YtnjadekngjgjcaaGreatDoor

/- Layer 8 in plain Lean: a log on a disk that breaks: dropped, truncated. -/
namespace Go.Proofs.YtnjadekngjgjcaaGreatDoor
open Go Go.Pk
theorem lookL_del {n m : List UInt8} (h : n ≠ m) : ∀ (l : List (List UInt8 × Fl)), Dk.lookL (Dk.delL l n) m = Dk.lookL l m
  | [] => rfl
  | p :: l => by
    unfold Dk.delL
    by_cases hp : p.1 = n
    · rw [if_pos hp]
      simp only [Dk.lookL]
      rw [if_neg (by rw [hp]; exact h)]
    · rw [if_neg hp]
      simp only [Dk.lookL, lookL_del h l]
theorem names_del (n : List UInt8) : ∀ (l : List (List UInt8 × Fl)), ((Dk.delL l n).map Prod.fst).Sublist (l.map Prod.fst)
  | [] => .slnil
  | p :: l => by
    unfold Dk.delL
    by_cases hp : p.1 = n
    · rw [if_pos hp, List.map_cons]; exact .cons _ (List.Sublist.refl _)
    · rw [if_neg hp, List.map_cons, List.map_cons]; exact .cons_cons _ (names_del n l)
theorem del_gone (n : List UInt8) : ∀ (l : List (List UInt8 × Fl)), (l.map Prod.fst).Nodup → n ∉ (Dk.delL l n).map Prod.fst
  | [], _ => by simp [Dk.delL]
  | p :: l, h => by
    rw [List.map_cons, List.nodup_cons] at h
    unfold Dk.delL
    by_cases hp : p.1 = n
    · rw [if_pos hp, ← hp]; exact h.1
    · rw [if_neg hp, List.map_cons, List.mem_cons]
      rintro (h1 | h1)
      · exact hp h1.symm
      · exact del_gone n l h.2 h1
theorem base_name {n f : List UInt8} {v : Int} (h : fileBase ⟨n, [], 0⟩ f = some v) : f = segF n v := by
  unfold fileBase at h
  split at h
  · split at h
    · split at h
      · rename_i v' _ hfv
        cases h
        exact hfv
      · cases h
    · cases h
  · cases h
theorem remove_alive {d : Dk} {n : List UInt8} {f : Fl} (ha : d.dead = false) (hl : d.look n = some f) : (d.remove n).2 = 0 ∧ (d.remove n).1.files = Dk.delL d.files n ∧ (d.remove n).1.dead = false := by
  unfold Dk.remove
  rw [find_live ha hl]
  exact ⟨rfl, rfl, ha⟩
theorem allB_tail {p : Int × List Bd} {gs : Gr} : (allB gs).length ≤ (allB (p :: gs)).length := by
  have e : allB (p :: gs) = p.2 ++ allB gs := by simp [allB]
  rw [e, List.length_append]; omega
theorem grFin_tail {p q : Int × List Bd} {gs : Gr} : grFin (p :: q :: gs) = grFin (q :: gs) := by unfold grFin; rw [List.getLast?_cons_cons]
/-- segments are taken away from the front -/
theorem Lst.dropL {n : List UInt8} {before : Int} : ∀ (m : Nat) {g : Lg} {d : Dk} {gs : Gr}, Lst n g d gs [] → d.dead = false → d.names.Nodup → Small gs →
    ∃ gs', Lst n (Lg.dropL before m g d).1 (Lg.dropL before m g d).2.1 gs' [] ∧ (Lg.dropL before m g d).2.1.dead = false ∧ (allB gs').length ≤ (allB gs).length ∧ grFin gs' ≤ grFin gs
  | 0, g, d, gs, h, ha, _, _ => ⟨gs, h, ha, Nat.le_refl _, Int.le_refl _⟩
  | m + 1, g, d, gs, h, ha, hnd, hs => by
    match hgs : gs with
    | [] =>
      rw [Lg.dropL_few (by rw [h.mem.segs]; simp [grSegs])]
      exact ⟨[], h, ha, Nat.le_refl _, Int.le_refl _⟩
    | [p] =>
      rw [Lg.dropL_few (by rw [h.mem.segs]; simp [grSegs])]
      exact ⟨[p], h, ha, Nat.le_refl _, Int.le_refl _⟩
    | p :: q :: rest =>
      have hseg : g.segs = mkSg p.1 (segF n p.1) p.2 :: mkSg q.1 (segF n q.1) q.2 :: grSegs n rest := h.mem.segs
      rw [Lg.dropL, hseg]
      simp only
      by_cases hb : (mkSg q.1 (segF n q.1) q.2).base ≤ before
      · rw [if_pos hb]
        have hlk := h.full p (by simp)
        have en : (mkSg p.1 (segF n p.1) p.2).name = segF n p.1 := rfl
        rw [en]
        obtain ⟨r1, r2, r3⟩ := remove_alive ha hlk
        rw [if_neg (by simp [r1])]
        have hch := h.mem.chain
        have hsm : ∀ x ∈ p :: q :: rest, 0 ≤ x.1 ∧ x.1 < 100000000 := fun x hx => small_mem hch hs hx
        have hpw := gch_bases hch
        rw [List.map_cons, List.pairwise_cons] at hpw
        have hne : ∀ x ∈ q :: rest, segF n p.1 ≠ segF n x.1 := fun x hx heq => by
          have h1 := hsm p (by simp)
          have h2 := hsm x (by simp [List.mem_cons.1 hx])
          have h3 := segF_inj n h1.1 h1.2 h2.1 h2.2 heq
          have := hpw.1 x.1 (List.mem_map_of_mem hx)
          omega
        have hL : Lst n { g with segs := mkSg q.1 (segF n q.1) q.2 :: grSegs n rest } (d.remove (segF n p.1)).1 (q :: rest) [] := by
          refine ⟨⟨h.mem.name, rfl, hch.2.2.2, (hsm q (by simp)).1⟩, fun x hx => ?_, fun x hx => ?_, (fun h0 => by cases h0), fun _ => rfl, .inl rfl, fun f hf v hv => ?_⟩
          · unfold Dk.look
            rw [r2, lookL_del (hne x (List.dropLast_subset _ hx))]
            refine h.full x ?_
            rw [List.dropLast_cons_of_ne_nil (by simp)]
            exact List.mem_cons_of_mem _ hx
          · obtain ⟨s, q1, q2, q3⟩ := h.last x (by rw [List.getLast?_cons_cons]; exact hx)
            refine ⟨s, ?_, q2, q3⟩
            unfold Dk.look
            rw [r2, lookL_del (hne x (List.mem_of_getLast? hx))]
            exact q1
          · have hf1 : f ∈ d.names := by
              unfold Dk.names at hf
              rw [r2] at hf
              exact (names_del _ _).subset hf
            have := h.only f hf1 v hv
            rw [List.map_cons, List.mem_cons] at this
            rcases this with h1 | h1
            · exfalso
              have hfn := base_name hv
              rw [h1] at hfn
              subst hfn
              have := del_gone (segF n p.1) d.files hnd
              unfold Dk.names at hf
              rw [r2] at hf
              exact this hf
            · exact h1
        have hs2 : Small (q :: rest) := ⟨(hsm q (by simp)).1, by have := hs.2; rw [grFin_tail] at this; exact this⟩
        have hnd2 : (d.remove (segF n p.1)).1.names.Nodup := by
          unfold Dk.names; rw [r2]; exact hnd.sublist (names_del _ _)
        obtain ⟨gs', k1, k2, k3, k4⟩ := Lst.dropL m hL r3 hnd2 hs2
        refine ⟨gs', k1, k2, Nat.le_trans k3 allB_tail, by rw [grFin_tail]; exact k4⟩
      · rw [if_neg hb]
        exact ⟨p :: q :: rest, h, ha, Nat.le_refl _, Int.le_refl _⟩
theorem Lst.drop {n : List UInt8} {before : Int} {g : Lg} {d : Dk} {gs : Gr} (h : Lst n g d gs []) (ha : d.dead = false) (hnd : d.names.Nodup) (hs : Small gs) :
    ∃ gs', Lst n (g.drop d before).1 (g.drop d before).2.1 gs' [] ∧ (g.drop d before).2.1.dead = false ∧ (allB gs').length ≤ (allB gs).length ∧ grFin gs' ≤ grFin gs := Lst.dropL _ h ha hnd hs
theorem fsOf_take_le (bs : List Bd) {i j : Nat} (h : i ≤ j) : (fsOf (bs.take i)).length ≤ (fsOf (bs.take j)).length := by
  have e : bs.take j = bs.take i ++ (bs.drop i).take (j - i) := by
    rw [← List.take_add]; congr 1; omega
  rw [e, fsOf_app, List.length_append]; omega
theorem endsF_get : ∀ (bs : List Bd) (n : Int) (k : Nat), k < bs.length → (endsF n bs).getD k 0 = n + (fsOf (bs.take (k + 1))).length
  | [], _, _, h => by simp at h
  | x :: bs, n, 0, _ => by simp [endsF, fsOf]
  | x :: bs, n, k + 1, h => by
    have ih := endsF_get bs (n + (frm x.enc).length) k (by simpa using h)
    have e : fsOf ((x :: bs).take (k + 1 + 1)) = frm x.enc ++ fsOf (bs.take (k + 1)) := by simp [fsOf]
    rw [e, List.length_append]
    simp only [endsF]
    rw [List.getD_cons_succ, ih]; omega
theorem endsF_take : ∀ (bs : List Bd) (n : Int) (k : Nat), (endsF n bs).take k = endsF n (bs.take k)
  | [], _, k => by simp [endsF]
  | x :: bs, n, 0 => by simp [endsF]
  | x :: bs, n, k + 1 => by simp only [endsF, List.take_succ_cons, endsF_take bs]
theorem mkSg_cut {v : Int} {f : List UInt8} {bs : List Bd} {k : Nat} (hk : k ≤ bs.length) : (mkSg v f bs).cut k = mkSg v f (bs.take k) ∧ (mkSg v f bs).cutAt k = ((fsOf (bs.take k)).length : Nat) := by
  have e2 : (mkSg v f bs).cutAt k = ((fsOf (bs.take k)).length : Nat) := by
    unfold Sg.cutAt
    by_cases h0 : k = 0
    · rw [if_pos h0, h0]; simp [fsOf]
    · rw [if_neg h0]
      show (endsF 0 bs).getD (k - 1) 0 = _
      rw [endsF_get bs 0 (k - 1) (by omega), show k - 1 + 1 = k by omega]; omega
  refine ⟨?_, e2⟩
  unfold Sg.cut
  rw [e2]
  show (⟨v, f, _, bs.take k, (endsF 0 bs).take k⟩ : Sg) = _
  rw [endsF_take]; rfl
theorem cut_alive {d : Dk} {n : List UInt8} {f : Fl} {k : Nat} (ha : d.dead = false) (hl : d.look n = some f) (hk : k ≤ f.data.length) : (d.cut n k).2 = 0 ∧ (d.cut n k).1.files = Dk.putL d.files n ⟨f.data.take k, min f.sync k⟩ ∧ (d.cut n k).1.dead = false := by
  unfold Dk.cut
  rw [find_live ha hl]
  simp only
  rw [if_neg (by omega)]
  simp only [Int.toNat_natCast]
  exact ⟨trivial, trivial, ha⟩
theorem allB_dropLast (gs : Gr) : (allB gs.dropLast).length ≤ (allB gs).length := by
  cases hl : gs.getLast? with
  | none => rw [List.getLast?_eq_none_iff.1 hl]; simp [allB]
  | some p =>
    have e := getLast_split hl
    conv => rhs; rw [e]
    rw [allB_app, List.length_append]; omega
/-- batches are taken away from behind -/
theorem Lst.truncL {n : List UInt8} {to_ : Int} : ∀ (m : Nat) {g : Lg} {d : Dk} {gs : Gr}, Lst n { g with sync := min g.sync g.fin } d gs [] → d.dead = false → d.names.Nodup → Small gs →
    ∃ gs', Lst n { (Lg.truncL to_ m g d).1 with sync := min (Lg.truncL to_ m g d).1.sync (Lg.truncL to_ m g d).1.fin } (Lg.truncL to_ m g d).2.1 gs' [] ∧ (Lg.truncL to_ m g d).2.2 = 0 ∧ (Lg.truncL to_ m g d).2.1.dead = false ∧ (allB gs').length ≤ (allB gs).length ∧ grFin gs' ≤ grFin gs
  | 0, g, d, gs, h, ha, _, _ => ⟨gs, h, rfl, ha, Nat.le_refl _, Int.le_refl _⟩
  | m + 1, g, d, gs, h, ha, hnd, hs => by
    have hseg : g.segs = grSegs n gs := h.mem.segs
    rw [Lg.truncL, hseg, grSegs_last]
    cases hl : gs.getLast? with
    | none => exact ⟨gs, h, rfl, ha, Nat.le_refl _, Int.le_refl _⟩
    | some p =>
      simp only [Option.map_some]
      have esp := getLast_split hl
      have hpm := List.mem_of_getLast? hl
      have hch := h.mem.chain
      have hsm : ∀ x ∈ gs, 0 ≤ x.1 ∧ x.1 < 100000000 := fun x hx => small_mem hch hs hx
      have hsp := hsm p hpm
      have hfin : g.fin = grFin gs := mem_fin (n := n) (g := { g with sync := min g.sync g.fin }) h.mem
      have hgf : grFin gs = chEnd p.1 p.2 := by unfold grFin; rw [hl]
      have hcp := (gch_mem hch hpm).1
      have hch2 := hch
      rw [esp] at hch2
      have hg3 := (gch_snoc _ _).1 hch2
      have sep : ∀ q ∈ gs.dropLast, segF n p.1 ≠ segF n q.1 := fun q hq heq => by
        have hsq := hsm q (List.dropLast_subset _ hq)
        have hv := segF_inj n hsp.1 hsp.2 hsq.1 hsq.2 heq
        have hpw := gch_bases hch
        rw [esp, List.map_append, List.pairwise_append] at hpw
        have := hpw.2.2 q.1 (List.mem_map_of_mem hq) p.1 (by simp)
        omega
      obtain ⟨s, l1, l2, l3⟩ := h.last p hl
      rw [List.append_nil] at l1 l2
      have en : (mkSg p.1 (segF n p.1) p.2).name = segF n p.1 := rfl
      have ebt : (mkSg p.1 (segF n p.1) p.2).bt = p.2 := rfl
      rw [en, ebt]
      have hk := keepK_le to_ p.2 p.2.length
      generalize keepK to_ p.2 p.2.length = k at *
      by_cases hc1 : k = 0 ∧ 1 < (grSegs n gs).length
      · rw [if_pos hc1]
        obtain ⟨r1, r2, r3⟩ := remove_alive ha l1
        rw [if_neg (by simp [r1])]
        have hlen : 1 < gs.length := by have := hc1.2; unfold grSegs at this; simpa using this
        have hdne : gs.dropLast ≠ [] := by
          intro h0
          have := congrArg List.length h0
          simp at this; omega
        cases hq : gs.dropLast.getLast? with
        | none => exact absurd (List.getLast?_eq_none_iff.1 hq) hdne
        | some q =>
          have hgd : grFin gs.dropLast = chEnd q.1 q.2 := by unfold grFin; rw [hq]
          have hqf := h.full q (List.mem_of_getLast? hq)
          have hst : grStart gs.dropLast = grStart gs := by
            conv => rhs; rw [esp]
            cases hd : gs.dropLast with
            | nil => exact absurd hd hdne
            | cons x xs => rfl
          have hsg : (grSegs n gs).dropLast = grSegs n gs.dropLast := by unfold grSegs; rw [List.map_dropLast]
          have hfd : ({ g with segs := (grSegs n gs).dropLast } : Lg).fin = grFin gs.dropLast := by
            unfold Lg.fin grFin
            simp only
            rw [hsg, grSegs_last]
            cases gs.dropLast.getLast? with
            | none => rfl
            | some y => exact mkSg_fin
          have hle : grFin gs.dropLast ≤ grFin gs := by
            rw [hgd]
            exact (gch_mem hch (List.dropLast_subset _ (List.mem_of_getLast? hq))).2.2
          have hL : Lst n { ({ g with segs := (grSegs n gs).dropLast } : Lg) with sync := min g.sync ({ g with segs := (grSegs n gs).dropLast } : Lg).fin } (d.remove (segF n p.1)).1 gs.dropLast [] := by
            refine ⟨⟨h.mem.name, hsg, hg3.1, by rw [hst]; exact h.mem.start⟩, fun x hx => ?_, fun x hx => ?_, fun h0 => absurd h0 hdne, fun _ => rfl, .inl rfl, fun f hf v hv => ?_⟩
            · unfold Dk.look
              rw [r2, lookL_del (sep x (List.dropLast_subset _ hx))]
              exact h.full x (List.dropLast_subset _ hx)
            · rw [hq] at hx
              cases hx
              refine ⟨((fsOf q.2).length : Int), ?_, by rw [List.append_nil]; exact Int.le_refl _, SyOk.all ?_⟩
              · unfold Dk.look
                rw [r2, lookL_del (sep q (List.mem_of_getLast? hq)), List.append_nil]
                exact hqf
              · simp only
                rw [hfd, hgd]; exact Int.min_le_right _ _
            · have hf1 : f ∈ d.names := by
                unfold Dk.names at hf
                rw [r2] at hf
                exact (names_del _ _).subset hf
              have := h.only f hf1 v hv
              rw [esp, List.map_append, List.mem_append] at this
              rcases this with h1 | h1
              · exact h1
              · exfalso
                simp only [List.map_cons, List.map_nil, List.mem_singleton] at h1
                have hfn := base_name hv
                rw [h1] at hfn
                subst hfn
                have := del_gone (segF n p.1) d.files hnd
                unfold Dk.names at hf
                rw [r2] at hf
                exact this hf
          have hs2 : Small gs.dropLast := ⟨by rw [hst]; exact hs.1, by have := hs.2; omega⟩
          have hnd2 : (d.remove (segF n p.1)).1.names.Nodup := by
            unfold Dk.names; rw [r2]; exact hnd.sublist (names_del _ _)
          obtain ⟨gs', k1, k2, k3, k4, k5⟩ := Lst.truncL m hL r3 hnd2 hs2
          exact ⟨gs', k1, k2, k3, Nat.le_trans k4 (allB_dropLast gs), by omega⟩
      · rw [if_neg hc1]
        by_cases hc2 : k = p.2.length
        · rw [if_pos hc2]
          exact ⟨gs, h, rfl, ha, Nat.le_refl _, Int.le_refl _⟩
        · rw [if_neg hc2]
          obtain ⟨m1, m2⟩ := mkSg_cut (v := p.1) (f := segF n p.1) hk
          rw [m2]
          have hkl : (fsOf (p.2.take k)).length ≤ (fsOf p.2).length := by
            have := fsOf_take_le p.2 hk
            rw [List.take_length] at this; exact this
          obtain ⟨c1, c2, c3⟩ := cut_alive (k := (fsOf (p.2.take k)).length) ha l1 hkl
          rw [if_neg (by simp [c1]), m1]
          have hdat : (fsOf p.2).take (fsOf (p.2.take k)).length = fsOf (p.2.take k) := by
            have e : fsOf p.2 = fsOf (p.2.take k) ++ fsOf (p.2.drop k) := by rw [← fsOf_app, List.take_append_drop]
            rw [e, List.take_left]
          simp only at c2
          rw [hdat] at c2
          have hct : Chain p.1 (p.2.take k) := by
            have e := hcp
            rw [← List.take_append_drop k p.2] at e
            exact ((chain_app _ _ _).1 e).1
          have hle := chEnd_take hcp k
          have hgl : g.last (mkSg p.1 (segF n p.1) (p.2.take k)) = { g with segs := grSegs n (gs.dropLast ++ [(p.1, p.2.take k)]) } := by
            unfold Lg.last
            rw [hseg]
            congr 1
            conv => lhs; rw [esp]
            unfold grSegs
            rw [List.map_append, List.map_append]
            have hlen : (List.map (fun p => mkSg p.1 (segF n p.1) p.2) gs.dropLast ++ List.map (fun p => mkSg p.1 (segF n p.1) p.2) [p]).length - 1 = (gs.dropLast.map fun p => mkSg p.1 (segF n p.1) p.2).length := by simp
            rw [hlen, List.set_append_right _ _ (Nat.le_refl _), Nat.sub_self]
            rfl
          rw [hgl]
          have hch3 : GCh (gs.dropLast ++ [(p.1, p.2.take k)]) := (gch_snoc _ _).2 ⟨hg3.1, hct, hg3.2.2.1, hg3.2.2.2⟩
          have hff : ({ g with segs := grSegs n (gs.dropLast ++ [(p.1, p.2.take k)]) } : Lg).fin = chEnd p.1 (p.2.take k) := by
            unfold Lg.fin
            simp only
            rw [grSegs_last, List.getLast?_append]
            simp only [List.getLast?_singleton, Option.some_or, Option.map_some]
            exact mkSg_fin
          have hst : grStart (gs.dropLast ++ [(p.1, p.2.take k)]) = grStart gs := by
            conv => rhs; rw [esp]
            cases gs.dropLast with
            | nil => rfl
            | cons x xs => rfl
          refine ⟨gs.dropLast ++ [(p.1, p.2.take k)], ⟨⟨h.mem.name, rfl, hch3, by rw [hst]; exact h.mem.start⟩, fun x hx => ?_, fun x hx => ?_, fun h0 => by simp at h0, fun _ => rfl, .inl rfl, fun f hf v hv => ?_⟩, rfl, c3, ?_, ?_⟩
          · rw [List.dropLast_concat] at hx
            unfold Dk.look
            rw [c2, lookL_put, if_neg (sep x hx)]
            exact h.full x hx
          · rw [List.getLast?_append] at hx
            simp only [List.getLast?_singleton, Option.some_or, Option.some.injEq] at hx
            subst hx
            refine ⟨min s ((fsOf (p.2.take k)).length : Int), ?_, ?_, ?_⟩
            · unfold Dk.look
              rw [c2, lookL_put, if_pos rfl, List.append_nil]
            · rw [List.append_nil]; exact Int.min_le_right _ _
            · obtain ⟨k0, q1, q2, q3⟩ := l3
              simp only at q3
              rw [hfin, hgf] at q3
              simp only
              rw [hff]
              by_cases hkk : k0 ≤ k
              · refine ⟨k0, by simp; omega, ?_, ?_⟩
                · have := fsOf_take_le p.2 hkk
                  simp only
                  rw [List.take_take, Nat.min_eq_left hkk]
                  rw [Int.le_min]
                  exact ⟨q2, by omega⟩
                · simp only
                  rw [List.take_take, Nat.min_eq_left hkk]
                  have : min g.sync (chEnd p.1 (p.2.take k)) ≤ min g.sync (chEnd p.1 p.2) := by
                    rw [Int.min_def, Int.min_def]; split <;> split <;> omega
                  omega
              · refine ⟨k, by simp; omega, ?_, ?_⟩
                · have := fsOf_take_le p.2 (show k ≤ k0 by omega)
                  simp only
                  rw [List.take_take, Nat.min_self]
                  rw [Int.le_min]
                  exact ⟨by omega, by omega⟩
                · simp only
                  rw [List.take_take, Nat.min_self]
                  exact Int.min_le_right _ _
          · have hmap : (gs.dropLast ++ [(p.1, p.2.take k)]).map Prod.fst = gs.map Prod.fst := by
              conv => rhs; rw [esp]
              simp
            rw [hmap]
            unfold Dk.names at hf
            rw [c2] at hf
            rcases names_put _ _ _ _ hf with rfl | hf
            · rw [fileBase_segF n hsp.1 hsp.2] at hv
              cases hv
              exact List.mem_map_of_mem hpm
            · exact h.only f hf v hv
          · rw [allB_app]
            conv => rhs; rw [esp]
            rw [allB_app, List.length_append, List.length_append]
            simp [allB]
            omega
          · rw [grFin_snoc, hgf]
            exact hle
theorem Lst.trunc {n : List UInt8} {to_ : Int} {g : Lg} {d : Dk} {gs : Gr} (h : Lst n g d gs []) (ha : d.dead = false) (hnd : d.names.Nodup) (hs : Small gs) :
    ∃ gs', Lst n (g.trunc d to_).1 (g.trunc d to_).2.1 gs' [] ∧ (g.trunc d to_).2.1.dead = false ∧ (allB gs').length ≤ (allB gs).length ∧ grFin gs' ≤ grFin gs := by
  have hfin := mem_fin h.mem
  have hsy := h.syn
  have e : ({ g with sync := min g.sync g.fin } : Lg) = g := by
    rw [Int.min_eq_left (by omega)]
  obtain ⟨gs', k1, k2, k3, k4, k5⟩ := Lst.truncL (to_ := to_) g.segs.length (g := g) (by rw [e]; exact h) ha hnd hs
  unfold Lg.trunc
  split
  · exact ⟨gs, h, ha, Nat.le_refl _, Int.le_refl _⟩
  · rw [if_neg (by simp [k2])]
    exact ⟨gs', k1, k3, k4, k5⟩
end Go.Proofs.YtnjadekngjgjcaaGreatDoor

/- Layer 8 in plain Lean: a crash, and the log opened behind it. -/
namespace Go.Proofs.YtnjadekngjgjcaaGreatDoor
open Go Go.Pk
end Go.Proofs.YtnjadekngjgjcaaGreatDoor
