/- Layer 8 in plain Lean: a log beside the reference's log: what is put, what is read. -/
import Derived.Test.YtbpcichakchpkaaGreatDoorSZ
namespace Go.Proofs.YtbpcichakchpkaaGreatDoor
open Go Go.Pk
abbrev Gr := List (Int × List Bd)
/-- the name of a file -/
def segF (n : List UInt8) (v : Int) : List UInt8 := (⟨n, [], 0⟩ : Lg).file v
theorem file_segF {g : Lg} {n : List UInt8} (h : g.name = n) (v : Int) : g.file v = segF n v := by
  unfold segF Lg.file; rw [h]
def grSegs (n : List UInt8) (gs : Gr) : List Sg := gs.map fun p => mkSg p.1 (segF n p.1) p.2
def allB (gs : Gr) : List Bd := gs.flatMap Prod.snd
/-- groups that follow one another -/
def GCh : Gr → Prop
  | [] => True
  | [p] => Chain p.1 p.2
  | p :: q :: gs => Chain p.1 p.2 ∧ p.2 ≠ [] ∧ q.1 = chEnd p.1 p.2 ∧ GCh (q :: gs)
def grFin (gs : Gr) : Int := match gs.getLast? with | some p => chEnd p.1 p.2 | none => 0
def grStart (gs : Gr) : Int := match gs with | p :: _ => p.1 | [] => 0
theorem Bd.size_pos {x : Bd} (h : x.chk = 0) : 1 ≤ x.size ∧ x.size ≤ 16 := by
  have h1 := Bd.size_le h
  refine ⟨?_, h1.2⟩
  have hn : ¬ bad1 x.dc ∧ ¬ bad7 x.dc := by
    have h : Go.Proofs.YtbpcichakchpkaaGreatDoor.chk x.dc = 0 := h
    unfold Go.Proofs.YtbpcichakchpkaaGreatDoor.chk at h
    constructor
    · intro hh; rw [if_pos hh] at h; exact absurd h (by decide)
    · intro hh
      split at h <;> exact absurd h (by decide)
  have h7 := hn.2
  unfold bad7 at h7
  unfold Bd.size
  cases hc : x.ct with
  | true => simp
  | false =>
    have : x.bs ≠ [] := by
      intro hb
      apply h7
      simp [Bd.dc, hc, hb]
    have : 0 < x.bs.length := List.length_pos_iff.2 this
    simp; omega
theorem chain_mem : ∀ (xs : List Bd) (n : Int), Chain n xs → n ≤ chEnd n xs ∧ chEnd n xs ≤ n + 16 * xs.length ∧ ∀ x ∈ xs, n ≤ x.ba ∧ x.ba < x.fin ∧ x.fin ≤ chEnd n xs
  | [], n, _ => by simp [chEnd]
  | x :: xs, n, h => by
    obtain ⟨h1, h2, h3⟩ := h
    have ih := chain_mem xs x.fin h3
    have hs := Bd.size_pos h2.1
    have hf : x.fin = x.ba + x.size := rfl
    simp only [chEnd, List.length_cons]
    refine ⟨by omega, by omega, fun y hy => ?_⟩
    rcases List.mem_cons.1 hy with rfl | hy
    · exact ⟨by omega, by omega, ih.1⟩
    · have := ih.2.2 y hy
      exact ⟨by omega, this.2.1, this.2.2⟩
theorem chain_ok : ∀ (xs : List Bd) (n : Int), Chain n xs → ∀ x ∈ xs, x.ok
  | [], _, _ => fun _ h => by cases h
  | x :: xs, n, h => fun y hy => by
    rcases List.mem_cons.1 hy with rfl | hy
    · exact h.2.1
    · exact chain_ok xs _ h.2.2 y hy
/-- groups that follow one another are one chain -/
theorem gch_chain : ∀ (gs : Gr), GCh gs → Chain (grStart gs) (allB gs) ∧ chEnd (grStart gs) (allB gs) = grFin gs
  | [], _ => ⟨trivial, rfl⟩
  | [p], h => by
    have e : allB [p] = p.2 := by simp [allB]
    rw [e]; exact ⟨h, rfl⟩
  | p :: q :: gs, h => by
    obtain ⟨h1, h0, h2, h3⟩ := h
    have ih := gch_chain (q :: gs) h3
    have e : allB (p :: q :: gs) = p.2 ++ allB (q :: gs) := by simp [allB]
    have e2 : grStart (q :: gs) = q.1 := rfl
    have e3 : grStart (p :: q :: gs) = p.1 := rfl
    have e4 : grFin (p :: q :: gs) = grFin (q :: gs) := by unfold grFin; rw [List.getLast?_cons_cons]
    rw [e2, h2] at ih
    rw [e, e3, e4]
    exact ⟨(chain_app _ _ _).2 ⟨h1, ih.1⟩, by rw [chEnd_app]; exact ih.2⟩
theorem gch_snoc : ∀ (gs : Gr) (p : Int × List Bd), GCh (gs ++ [p]) ↔ GCh gs ∧ Chain p.1 p.2 ∧ (gs ≠ [] → p.1 = grFin gs) ∧ ∀ q ∈ gs, q.2 ≠ []
  | [], p => by simp [GCh]
  | [q], p => by
    simp only [List.cons_append, List.nil_append, GCh, grFin, List.getLast?_singleton]
    constructor
    · rintro ⟨a, b, c, d⟩; exact ⟨a, d, fun _ => c, fun q' hq => by rw [List.mem_singleton.1 hq]; exact b⟩
    · rintro ⟨a, b, c, d⟩; exact ⟨a, d q (by simp), c (by simp), b⟩
  | q :: q2 :: gs, p => by
    have ih := gch_snoc (q2 :: gs) p
    simp only [List.cons_append] at ih
    simp only [List.cons_append, GCh]
    have e4 : grFin (q :: q2 :: gs) = grFin (q2 :: gs) := by unfold grFin; rw [List.getLast?_cons_cons]
    rw [e4, ih]
    constructor
    · rintro ⟨a, b, c, d, e, f, k⟩
      exact ⟨⟨a, b, c, d⟩, e, fun _ => f (by simp), fun x hx => by
        rcases List.mem_cons.1 hx with rfl | hx
        · exact b
        · exact k x hx⟩
    · rintro ⟨⟨a, b, c, d⟩, e, f, k⟩
      exact ⟨a, b, c, d, e, fun _ => f (by simp), fun x hx => k x (by simp [hx])⟩
theorem gch_mem {gs : Gr} (h : GCh gs) {p : Int × List Bd} (hp : p ∈ gs) : Chain p.1 p.2 ∧ grStart gs ≤ p.1 ∧ chEnd p.1 p.2 ≤ grFin gs := by
  induction gs with
  | nil => cases hp
  | cons q gs ih =>
    cases gs with
    | nil =>
      rw [List.mem_singleton.1 hp]
      exact ⟨h, Int.le_refl _, Int.le_refl _⟩
    | cons q2 gs =>
      obtain ⟨h1, h0, h2, h3⟩ := h
      have e4 : grFin (q :: q2 :: gs) = grFin (q2 :: gs) := by unfold grFin; rw [List.getLast?_cons_cons]
      have hle := (chain_mem _ _ h1).1
      rw [e4]
      rcases List.mem_cons.1 hp with rfl | hp
      · have hc := gch_chain _ h3
        have h5 := (chain_mem _ _ hc.1).1
        rw [hc.2] at h5
        have e5 : grStart (q2 :: gs) = q2.1 := rfl
        exact ⟨h1, Int.le_refl _, by omega⟩
      · have := ih h3 hp
        have e5 : grStart (q2 :: gs) = q2.1 := rfl
        have e6 : grStart (q :: q2 :: gs) = q.1 := rfl
        exact ⟨this.1, by omega, this.2.2⟩
/-- a log on a disk: its segments, and what stands in its files -/
structure Lay (n : List UInt8) (g : Lg) (d : Dk) (gs : Gr) : Prop where
  name : g.name = n
  segs : g.segs = grSegs n gs
  chain : GCh gs
  start : 0 ≤ grStart gs
  data : ∀ p ∈ gs, ∃ s, d.look (segF n p.1) = some ⟨fsOf p.2, s⟩
  only : ∀ f ∈ d.names, ∀ v, fileBase ⟨n, [], 0⟩ f = some v → v ∈ gs.map Prod.fst
theorem grSegs_last {n : List UInt8} {gs : Gr} : (grSegs n gs).getLast? = gs.getLast?.map fun p => mkSg p.1 (segF n p.1) p.2 := by
  unfold grSegs; rw [List.getLast?_map]
theorem lay_fin {n : List UInt8} {g : Lg} {d : Dk} {gs : Gr} (h : Lay n g d gs) : g.fin = grFin gs := by
  unfold Lg.fin grFin
  rw [h.segs, grSegs_last]
  cases gs.getLast? with
  | none => rfl
  | some p => simp only [Option.map_some]; exact mkSg_fin
theorem lay_start {n : List UInt8} {g : Lg} {d : Dk} {gs : Gr} (h : Lay n g d gs) : g.start = grStart gs := by
  unfold Lg.start grStart
  rw [h.segs]
  cases gs with
  | nil => rfl
  | cons p gs => rfl
end Go.Proofs.YtbpcichakchpkaaGreatDoor
