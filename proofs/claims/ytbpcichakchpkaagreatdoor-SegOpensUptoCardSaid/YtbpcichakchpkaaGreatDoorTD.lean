/- Layer 8 in plain Lean: a batch is put into a log on a disk. -/
import Derived.Test.YtbpcichakchpkaaGreatDoorTC
namespace Go.Proofs.YtbpcichakchpkaaGreatDoor
open Go Go.Pk
theorem segF_ok {n : List UInt8} (hn : n ≠ [] ∧ n.length ≤ 8) {v : Int} (h0 : 0 ≤ v) (h1 : v < 100000000) : segF n v ≠ [] ∧ (segF n v).length ≤ 24 := by
  rw [segF_eq n h0 h1]
  constructor
  · intro h
    have := congrArg List.length h
    simp [padd_len] at this
  · simp [padd_len]; omega
theorem lay_in {n : List UInt8} {g : Lg} {d : Dk} {gs : Gr} (h : Lay n g d gs) {p : Int × List Bd} (hp : p ∈ gs) : segF n p.1 ∈ d.names := by
  obtain ⟨s, hs⟩ := h.data p hp
  exact look_names hs
/-- another file of the disk is turned -/
theorem Lay.other {n : List UInt8} {g : Lg} {d d' : Dk} {gs : Gr} (h : Lay n g d gs) {m : List UInt8} {f : Fl} (hf : d'.files = Dk.putL d.files m f) (hm : fileBase ⟨n, [], 0⟩ m = none) (hs : Small gs) : Lay n g d' gs := by
  refine ⟨h.name, h.segs, h.chain, h.start, fun p hp => ?_, fun x hx v hv => ?_⟩
  · obtain ⟨s, hs2⟩ := h.data p hp
    refine ⟨s, ?_⟩
    unfold Dk.look at hs2 ⊢
    rw [hf, lookL_put, if_neg]
    · exact hs2
    · intro e
      have h2 := small_mem h.chain hs hp
      rw [e, fileBase_segF n h2.1 h2.2] at hm
      cases hm
  · unfold Dk.names at hx
    rw [hf] at hx
    rcases names_put _ _ _ _ hx with rfl | hx
    · rw [hm] at hv; cases hv
    · exact h.only x hx v hv
/-- a new group -/
theorem lay_grow {n : List UInt8} {g : Lg} {d : Dk} {gs : Gr} (h : Lay n g d gs) (hn : n ≠ [] ∧ n.length ≤ 8) (ha : d.dead = false) (hs : Small gs) (hne : ∀ q ∈ gs, q.2 ≠ []) :
    ((g.grow d).2.2 = 3 ∧ (g.grow d).1 = g ∧ (g.grow d).2.1 = d) ∨
    ((g.grow d).2.2 = 0 ∧ Lay n (g.grow d).1 (g.grow d).2.1 (gs ++ [(grFin gs, [])]) ∧ (g.grow d).2.1.dead = false ∧ (g.grow d).2.1.fuse = (d.append (segF n (grFin gs)) []).1.fuse ∧ (g.grow d).2.1.used = d.used ∧ (g.grow d).1.sync = g.sync ∧ (g.grow d).2.1.files = Dk.putL d.files (segF n (grFin gs)) ⟨(d.fl0 (segF n (grFin gs))).data, (d.fl0 (segF n (grFin gs))).sync⟩ ∧ d.look (segF n (grFin gs)) = none) := by
  have hfin := lay_fin h
  have hfl : g.file g.fin = segF n (grFin gs) := by rw [file_segF h.name, hfin]
  have hst : 0 ≤ grFin gs := by
    have hc := gch_chain gs h.chain
    have := (chain_mem _ _ hc.1).1
    have h0 := hs.1
    omega
  have hlt : grFin gs < 100000000 := hs.2
  have hnew : d.look (segF n (grFin gs)) = none := by
    cases hl : d.look (segF n (grFin gs)) with
    | none => rfl
    | some f =>
      exfalso
      have hm := h.only _ (look_names hl) _ (fileBase_segF n hst hs.2)
      obtain ⟨p, hp, he⟩ := List.mem_map.1 hm
      have h1 := gch_mem h.chain hp
      obtain ⟨y, hy⟩ := List.exists_mem_of_ne_nil _ (hne p hp)
      have := (chain_mem _ _ h1.1).2.2 y hy
      omega
  have hnm := segF_ok hn hst hlt
  unfold Lg.grow
  rw [hfl, hfin]
  rcases append_cases (b := []) ha hnm with hc | ⟨k, hk, h2, h3, h4, h5, h6⟩
  · rw [hc]
    refine .inl ?_
    rw [if_neg (show ¬ (3 : Int) = 0 by decide)]
    exact ⟨rfl, rfl, rfl⟩
  · have hk0 : k = 0 := by simpa using hk
    subst hk0
    have h2' : (d.append (segF n (grFin gs)) []).2 = 0 := by rw [h2]; rfl
    rw [if_pos h2']
    have h5' : (d.append (segF n (grFin gs)) []).1.files = Dk.putL d.files (segF n (grFin gs)) ⟨(d.fl0 (segF n (grFin gs))).data, (d.fl0 (segF n (grFin gs))).sync⟩ := by rw [h5]; simp
    refine .inr ⟨rfl, ⟨h.name, ?_, ?_, ?_, ?_, ?_⟩, by rw [h3]; rfl, rfl, by rw [h4]; simp, rfl, h5', hnew⟩
    · show g.segs ++ _ = _
      rw [h.segs]; unfold grSegs; simp [mkSg, fsOf, endsF]
    · exact (gch_snoc _ _).2 ⟨h.chain, trivial, fun _ => rfl, hne⟩
    · cases gs with
      | nil => exact Int.le_refl _
      | cons q gs => exact h.start
    · intro p hp
      unfold Dk.look
      rw [h5', lookL_put]
      rcases List.mem_append.1 hp with hp | hp
      · obtain ⟨s, hs2⟩ := h.data p hp
        rw [if_neg]
        · exact ⟨s, hs2⟩
        · intro e
          rw [e, hs2] at hnew
          cases hnew
      · rw [List.mem_singleton] at hp
        subst hp
        rw [if_pos rfl]
        unfold Dk.fl0
        rw [hnew]
        exact ⟨0, rfl⟩
    · intro x hx v hv
      unfold Dk.names at hx
      rw [h5'] at hx
      rw [List.map_append]
      rcases names_put _ _ _ _ hx with rfl | hx
      · rw [fileBase_segF n hst hs.2] at hv
        cases hv
        simp
      · exact List.mem_append_left _ (h.only x hx v hv)
/-- all of a log is synced -/
theorem lay_flush {n : List UInt8} {g : Lg} {d : Dk} {gs : Gr} (h : Lay n g d gs) (ha : d.dead = false) (hs : Small gs) :
    (g.flush d).2.2 = 0 ∧ Lay n (g.flush d).1 (g.flush d).2.1 gs ∧ (g.flush d).2.1.dead = false ∧ (g.flush d).2.1.fuse = d.fuse ∧ (g.flush d).2.1.used = d.used ∧ (g.flush d).1.segs = g.segs ∧
    (match gs.getLast? with | none => (g.flush d).1 = g ∧ (g.flush d).2.1 = d | some p => (g.flush d).1.sync = grFin gs ∧ (g.flush d).2.1.files = Dk.putL d.files (segF n p.1) ⟨fsOf p.2, (fsOf p.2).length⟩) := by
  have hgl : g.segs.getLast? = gs.getLast?.map fun p => mkSg p.1 (segF n p.1) p.2 := by rw [h.segs, grSegs_last]
  unfold Lg.flush
  rw [hgl]
  cases hl : gs.getLast? with
  | none =>
    simp only [Option.map_none]
    exact ⟨trivial, h, ha, trivial, trivial, trivial, trivial, trivial⟩
  | some p =>
    simp only [Option.map_some]
    have hp : p ∈ gs := List.mem_of_getLast? hl
    obtain ⟨s, hs2⟩ := h.data p hp
    have hsm := small_mem h.chain hs hp
    have e := sync_alive ha hs2
    have en : (mkSg p.1 (segF n p.1) p.2).name = segF n p.1 := rfl
    rw [en, e]
    simp only [if_true]
    refine ⟨trivial, ⟨h.name, h.segs, h.chain, h.start, fun q hq => ?_, fun x hx v hv => ?_⟩, ha, trivial, trivial, trivial, lay_fin h, trivial⟩
    · unfold Dk.look
      show ∃ s, Dk.lookL (Dk.putL d.files _ _) _ = _
      rw [lookL_put]
      by_cases e1 : segF n p.1 = segF n q.1
      · rw [if_pos e1]
        obtain ⟨s', hs'⟩ := h.data q hq
        rw [← e1, hs2] at hs'
        have hd : fsOf p.2 = fsOf q.2 := congrArg Fl.data (Option.some.inj hs')
        exact ⟨_, by rw [← hd]⟩
      · rw [if_neg e1]; exact h.data q hq
    · unfold Dk.names at hx
      rcases names_put _ _ _ _ hx with rfl | hx
      · exact h.only _ (look_names hs2) v hv
      · exact h.only x hx v hv
/-- room is made -/
theorem lay_roll {n : List UInt8} {g : Lg} {d : Dk} {gs : Gr} (h : Lay n g d gs) (hn : n ≠ [] ∧ n.length ≤ 8) (ha : d.dead = false) (hs : Small gs) :
    ((g.roll d).2.2 = 3 ∧ Lay n (g.roll d).1 (g.roll d).2.1 gs ∧ (g.roll d).2.1.dead = false) ∨
    ((g.roll d).2.2 = 0 ∧ Lay n (g.roll d).1 (g.roll d).2.1 (rollG gs) ∧ (g.roll d).2.1.dead = false ∧ (d.fuse = -1 → (g.roll d).2.1.fuse = -1) ∧ (g.roll d).2.1.used = d.used) := by
  unfold Lg.roll rollG
  rw [h.segs, grSegs_last]
  cases hl : gs.getLast? with
  | none =>
    have e := List.getLast?_eq_none_iff.1 hl
    subst e
    simp only [Option.map_none]
    rcases lay_grow h hn ha hs (fun q hq => by cases hq) with ⟨h1, h2, h3⟩ | ⟨h1, h2, h3, h4, h5, _⟩
    · exact .inl ⟨h1, by rw [h2, h3]; exact h, by rw [h3]; exact ha⟩
    · refine .inr ⟨h1, h2, h3, fun hf => ?_, h5⟩
      rw [h4]
      rcases append_cases (b := []) (n := segF n (grFin [])) ha (segF_ok hn (by decide) (by decide)) with hc | ⟨k, hk, _, _, _, _, h6⟩
      · rw [hc]; exact hf
      · exact (h6 hf).2
  | some p =>
    simp only [Option.map_some]
    have eb : (mkSg p.1 (segF n p.1) p.2).bytes = (fsOf p.2).length := rfl
    rw [eb]
    by_cases hc : (fsOf p.2).length < 512
    · rw [if_pos (by omega), if_pos hc]
      exact .inr ⟨rfl, h, ha, id, rfl⟩
    · rw [if_neg (by omega), if_neg hc]
      obtain ⟨f1, f2, f3, f4, f5, f6, f7⟩ := lay_flush h ha hs
      rw [if_pos f1]
      have hne : ∀ q ∈ gs, q.2 ≠ [] := by
        intro q hq hq0
        have e := getLast_split hl
        have hg := h.chain
        rw [e] at hg hq
        have h2 := (gch_snoc _ _).1 hg
        rcases List.mem_append.1 hq with hq | hq
        · exact h2.2.2.2 q hq hq0
        · rw [List.mem_singleton] at hq
          subst hq
          rw [hq0] at hc
          exact hc (by decide)
      rcases lay_grow f2 hn f3 hs hne with ⟨h1, h2, h3⟩ | ⟨h1, h2, h3, h4, h5, _⟩
      · exact .inl ⟨h1, by rw [h2, h3]; exact f2, by rw [h3]; exact f3⟩
      · refine .inr ⟨h1, h2, h3, fun hf => ?_, by rw [h5]; exact f5⟩
        rw [h4]
        have hst : 0 ≤ grFin gs := by
          have hc := gch_chain gs h.chain
          have := (chain_mem _ _ hc.1).1
          have h0 := hs.1
          omega
        rcases append_cases (b := []) (n := segF n (grFin gs)) f3 (segF_ok hn hst hs.2) with hc | ⟨k, hk, _, _, _, _, h6⟩
        · rw [hc, f4]; exact hf
        · exact (h6 (by rw [f4]; exact hf)).2
end Go.Proofs.YtbpcichakchpkaaGreatDoor
