/- Texts of mine, put together: TA, TB, TC, TD, TE, TF, TK. -/
import Derived.Test.YtnjadekngjgjcaaGreatDoorE9
/- Layer 8 in plain Lean: a log beside the reference's log: what is put, what is read. -/
namespace Go.Proofs.YtnjadekngjgjcaaGreatDoor
open Go Go.Pk
abbrev Gr := List (Int × List Bd)
/-- the name of a file -/
def segF (n : List UInt8) (v : Int) : List UInt8 := (⟨n, [], 0⟩ : Lg).file v
theorem file_segF {g : Lg} {n : List UInt8} (h : g.name = n) (v : Int) : g.file v = segF n v := by
  unfold segF Lg.file; rw [h]
def grSegs (n : List UInt8) (gs : Gr) : List Sg := gs.map fun p => mkSg p.1 (segF n p.1) p.2
def allB (gs : Gr) : List Bd := gs.flatMap Prod.snd
/-- groups that follow one another -/
def GCh : Gr → Prop
  | [] => True
  | [p] => Chain p.1 p.2
  | p :: q :: gs => Chain p.1 p.2 ∧ p.2 ≠ [] ∧ q.1 = chEnd p.1 p.2 ∧ GCh (q :: gs)
def grFin (gs : Gr) : Int := match gs.getLast? with | some p => chEnd p.1 p.2 | none => 0
def grStart (gs : Gr) : Int := match gs with | p :: _ => p.1 | [] => 0
theorem Bd.size_pos {x : Bd} (h : x.chk = 0) : 1 ≤ x.size ∧ x.size ≤ 16 := by
  have h1 := Bd.size_le h
  refine ⟨?_, h1.2⟩
  have hn : ¬ bad1 x.dc ∧ ¬ bad7 x.dc := by
    have h : Go.Proofs.YtnjadekngjgjcaaGreatDoor.chk x.dc = 0 := h
    unfold Go.Proofs.YtnjadekngjgjcaaGreatDoor.chk at h
    constructor
    · intro hh; rw [if_pos hh] at h; exact absurd h (by decide)
    · intro hh
      split at h <;> exact absurd h (by decide)
  have h7 := hn.2
  unfold bad7 at h7
  unfold Bd.size
  cases hc : x.ct with
  | true => simp
  | false =>
    have : x.bs ≠ [] := by
      intro hb
      apply h7
      simp [Bd.dc, hc, hb]
    have : 0 < x.bs.length := List.length_pos_iff.2 this
    simp; omega
theorem chain_mem : ∀ (xs : List Bd) (n : Int), Chain n xs → n ≤ chEnd n xs ∧ chEnd n xs ≤ n + 16 * xs.length ∧ ∀ x ∈ xs, n ≤ x.ba ∧ x.ba < x.fin ∧ x.fin ≤ chEnd n xs
  | [], n, _ => by simp [chEnd]
  | x :: xs, n, h => by
    obtain ⟨h1, h2, h3⟩ := h
    have ih := chain_mem xs x.fin h3
    have hs := Bd.size_pos h2.1
    have hf : x.fin = x.ba + x.size := rfl
    simp only [chEnd, List.length_cons]
    refine ⟨by omega, by omega, fun y hy => ?_⟩
    rcases List.mem_cons.1 hy with rfl | hy
    · exact ⟨by omega, by omega, ih.1⟩
    · have := ih.2.2 y hy
      exact ⟨by omega, this.2.1, this.2.2⟩
theorem chain_ok : ∀ (xs : List Bd) (n : Int), Chain n xs → ∀ x ∈ xs, x.ok
  | [], _, _ => fun _ h => by cases h
  | x :: xs, n, h => fun y hy => by
    rcases List.mem_cons.1 hy with rfl | hy
    · exact h.2.1
    · exact chain_ok xs _ h.2.2 y hy
/-- groups that follow one another are one chain -/
theorem gch_chain : ∀ (gs : Gr), GCh gs → Chain (grStart gs) (allB gs) ∧ chEnd (grStart gs) (allB gs) = grFin gs
  | [], _ => ⟨trivial, rfl⟩
  | [p], h => by
    have e : allB [p] = p.2 := by simp [allB]
    rw [e]; exact ⟨h, rfl⟩
  | p :: q :: gs, h => by
    obtain ⟨h1, h0, h2, h3⟩ := h
    have ih := gch_chain (q :: gs) h3
    have e : allB (p :: q :: gs) = p.2 ++ allB (q :: gs) := by simp [allB]
    have e2 : grStart (q :: gs) = q.1 := rfl
    have e3 : grStart (p :: q :: gs) = p.1 := rfl
    have e4 : grFin (p :: q :: gs) = grFin (q :: gs) := by unfold grFin; rw [List.getLast?_cons_cons]
    rw [e2, h2] at ih
    rw [e, e3, e4]
    exact ⟨(chain_app _ _ _).2 ⟨h1, ih.1⟩, by rw [chEnd_app]; exact ih.2⟩
theorem gch_snoc : ∀ (gs : Gr) (p : Int × List Bd), GCh (gs ++ [p]) ↔ GCh gs ∧ Chain p.1 p.2 ∧ (gs ≠ [] → p.1 = grFin gs) ∧ ∀ q ∈ gs, q.2 ≠ []
  | [], p => by simp [GCh]
  | [q], p => by
    simp only [List.cons_append, List.nil_append, GCh, grFin, List.getLast?_singleton]
    constructor
    · rintro ⟨a, b, c, d⟩; exact ⟨a, d, fun _ => c, fun q' hq => by rw [List.mem_singleton.1 hq]; exact b⟩
    · rintro ⟨a, b, c, d⟩; exact ⟨a, d q (by simp), c (by simp), b⟩
  | q :: q2 :: gs, p => by
    have ih := gch_snoc (q2 :: gs) p
    simp only [List.cons_append] at ih
    simp only [List.cons_append, GCh]
    have e4 : grFin (q :: q2 :: gs) = grFin (q2 :: gs) := by unfold grFin; rw [List.getLast?_cons_cons]
    rw [e4, ih]
    constructor
    · rintro ⟨a, b, c, d, e, f, k⟩
      exact ⟨⟨a, b, c, d⟩, e, fun _ => f (by simp), fun x hx => by
        rcases List.mem_cons.1 hx with rfl | hx
        · exact b
        · exact k x hx⟩
    · rintro ⟨⟨a, b, c, d⟩, e, f, k⟩
      exact ⟨a, b, c, d, e, fun _ => f (by simp), fun x hx => k x (by simp [hx])⟩
theorem gch_mem {gs : Gr} (h : GCh gs) {p : Int × List Bd} (hp : p ∈ gs) : Chain p.1 p.2 ∧ grStart gs ≤ p.1 ∧ chEnd p.1 p.2 ≤ grFin gs := by
  induction gs with
  | nil => cases hp
  | cons q gs ih =>
    cases gs with
    | nil =>
      rw [List.mem_singleton.1 hp]
      exact ⟨h, Int.le_refl _, Int.le_refl _⟩
    | cons q2 gs =>
      obtain ⟨h1, h0, h2, h3⟩ := h
      have e4 : grFin (q :: q2 :: gs) = grFin (q2 :: gs) := by unfold grFin; rw [List.getLast?_cons_cons]
      have hle := (chain_mem _ _ h1).1
      rw [e4]
      rcases List.mem_cons.1 hp with rfl | hp
      · have hc := gch_chain _ h3
        have h5 := (chain_mem _ _ hc.1).1
        rw [hc.2] at h5
        have e5 : grStart (q2 :: gs) = q2.1 := rfl
        exact ⟨h1, Int.le_refl _, by omega⟩
      · have := ih h3 hp
        have e5 : grStart (q2 :: gs) = q2.1 := rfl
        have e6 : grStart (q :: q2 :: gs) = q.1 := rfl
        exact ⟨this.1, by omega, this.2.2⟩
/-- a log on a disk: its segments, and what stands in its files -/
structure Lay (n : List UInt8) (g : Lg) (d : Dk) (gs : Gr) : Prop where
  name : g.name = n
  segs : g.segs = grSegs n gs
  chain : GCh gs
  start : 0 ≤ grStart gs
  data : ∀ p ∈ gs, ∃ s, d.look (segF n p.1) = some ⟨fsOf p.2, s⟩
  only : ∀ f ∈ d.names, ∀ v, fileBase ⟨n, [], 0⟩ f = some v → v ∈ gs.map Prod.fst
theorem grSegs_last {n : List UInt8} {gs : Gr} : (grSegs n gs).getLast? = gs.getLast?.map fun p => mkSg p.1 (segF n p.1) p.2 := by
  unfold grSegs; rw [List.getLast?_map]
theorem lay_fin {n : List UInt8} {g : Lg} {d : Dk} {gs : Gr} (h : Lay n g d gs) : g.fin = grFin gs := by
  unfold Lg.fin grFin
  rw [h.segs, grSegs_last]
  cases gs.getLast? with
  | none => rfl
  | some p => simp only [Option.map_some]; exact mkSg_fin
end Go.Proofs.YtnjadekngjgjcaaGreatDoor

/- Layer 8 in plain Lean: the names of a log's files tell their offsets, and stand in their order. -/
namespace Go.Proofs.YtnjadekngjgjcaaGreatDoor
open Go Go.Pk
def padd : Nat → Nat → List UInt8
  | 0, _ => []
  | k + 1, u => UInt8.ofNat (48 + u / 10 ^ k) :: padd k (u % 10 ^ k)
theorem padd_len : ∀ k u, (padd k u).length = k
  | 0, _ => rfl
  | k + 1, u => by simp [padd, padd_len k]
theorem padd_snoc : ∀ k u, padd (k + 1) u = padd k (u / 10) ++ [UInt8.ofNat (48 + u % 10 % 10)] ∨ u ≥ 10 ^ (k + 1)
  | 0, u => by
    by_cases h : u ≥ 10 ^ (0 + 1)
    · exact .inr h
    · refine .inl ?_
      simp [padd]
      have : u % 10 = u := by omega
      rw [this]
  | k + 1, u => by
    by_cases h : u ≥ 10 ^ (k + 1 + 1)
    · exact .inr h
    · refine .inl ?_
      have hp : 0 < 10 ^ (k + 1) := Nat.pow_pos (by omega)
      have hlt : u % 10 ^ (k + 1) < 10 ^ (k + 1) := Nat.mod_lt _ hp
      have ih := (padd_snoc k (u % 10 ^ (k + 1))).resolve_right (by omega)
      rw [padd, ih, padd]
      have e1 : u / 10 / 10 ^ k = u / 10 ^ (k + 1) := by rw [Nat.div_div_eq_div_mul, Nat.pow_succ, Nat.mul_comm]
      have e2 : u % 10 ^ (k + 1) / 10 = u / 10 % 10 ^ k := by
        rw [Nat.pow_succ, Nat.mul_comm, Nat.mod_mul_right_div_self]
      have e3 : u % 10 ^ (k + 1) % 10 = u % 10 := by
        rw [Nat.pow_succ, Nat.mul_comm, Nat.mod_mul_right_mod]
      rw [e1, e2, e3, List.cons_append]
theorem padd_small : ∀ k u, u < 10 → padd (k + 1) u = Lib.repeatL [48] k ++ [UInt8.ofNat (48 + u)]
  | 0, u, h => by simp [padd, Lib.repeatL]
  | k + 1, u, h => by
    have hp : 10 ≤ 10 ^ (k + 1) := by rw [Nat.pow_succ]; have : 0 < 10 ^ k := Nat.pow_pos (by omega); omega
    have e1 : u / 10 ^ (k + 1) = 0 := Nat.div_eq_of_lt (by omega)
    have e2 : u % 10 ^ (k + 1) = u := Nat.mod_eq_of_lt (by omega)
    rw [padd, e1, e2, padd_small k u h, Lib.repeatL]; rfl
theorem padd_eq : ∀ (k u : Nat), Lib.nDigits u ≤ k → Lib.repeatL [48] (k - Lib.nDigits u) ++ Lib.decDigits u = padd k u := by
  intro k u
  induction u using Nat.strongRecOn generalizing k with
  | ind u ih =>
    intro h
    by_cases hu : u < 10
    · have e := Lib.nDigits_small hu
      rw [e] at h ⊢
      obtain ⟨j, rfl⟩ : ∃ j, k = j + 1 := ⟨k - 1, by omega⟩
      rw [padd_small j u hu, Lib.decDigits_one hu]; rfl
    · have e := Lib.nDigits_big hu
      rw [e] at h ⊢
      obtain ⟨j, rfl⟩ : ∃ j, k = j + 1 := ⟨k - 1, by omega⟩
      have e2 : j + 1 - (Lib.nDigits (u / 10) + 1) = j - Lib.nDigits (u / 10) := by omega
      have ih' := ih (u / 10) (by omega) j (by omega)
      have e3 : Lib.decDigits u = Lib.decDigits (u / 10) ++ [UInt8.ofNat (48 + u % 10)] := by
        rw [Lib.decDigits, dif_neg hu]
      rw [e2, e3, ← List.append_assoc, ih']
      have hlt : u < 10 ^ (j + 1) := Nat.lt_of_lt_of_le (Lib.lt_pow_nDigits u) (Nat.pow_le_pow_right (by omega) (by rw [e]; omega))
      have := (padd_snoc j u).resolve_right (by omega)
      rw [this]
      have : u % 10 % 10 = u % 10 := by omega
      rw [this]
theorem digit_toNat {d : Nat} (h : d < 10) : (UInt8.ofNat (48 + d)).toNat = 48 + d := by
  rw [UInt8.toNat_ofNat']; omega
theorem parse_padd : ∀ (k u acc : Nat), u < 10 ^ k → acc * 10 ^ k + u < 1000000000000000000 → Lib.parseUint10 acc (padd k u) = .ok (acc * 10 ^ k + u)
  | 0, u, acc, h, _ => by simp at h; simp [padd, Lib.parseUint10, h]
  | k + 1, u, acc, h, hb => by
    have hp : 0 < 10 ^ k := Nat.pow_pos (by omega)
    have hd : u / 10 ^ k < 10 := by
      rw [Nat.div_lt_iff_lt_mul hp]; rw [Nat.pow_succ] at h; omega
    have hm := Nat.div_add_mod u (10 ^ k)
    have hlt := Nat.mod_lt u hp
    rw [padd, Lib.parseUint10, digit_toNat hd]
    have e2 : acc * 10 ^ (k + 1) = acc * 10 * 10 ^ k := by rw [Nat.pow_succ]; ac_rfl
    have hacc : acc * 10 ≤ acc * 10 * 10 ^ k := Nat.le_mul_of_pos_right _ hp
    have hs : (acc * 10 + u / 10 ^ k) * 10 ^ k + u % 10 ^ k = acc * 10 * 10 ^ k + u := by
      rw [Nat.add_mul, Nat.mul_comm (u / 10 ^ k)]; omega
    rw [e2] at hb ⊢
    have e1 : 48 + u / 10 ^ k - 48 = u / 10 ^ k := Nat.add_sub_cancel_left _ _
    rw [e1]
    have ih := parse_padd k (u % 10 ^ k) (acc * 10 + u / 10 ^ k) hlt (by rw [hs]; exact hb)
    rw [hs] at ih
    generalize u / 10 ^ k = q at *
    generalize acc * 10 * 10 ^ k = A at *
    rw [if_pos (by omega), if_neg (by omega), if_neg (by omega)]
    exact ih
theorem segF_eq (n : List UInt8) {v : Int} (h0 : 0 ≤ v) (h1 : v < 100000000) : segF n v = n ++ [46] ++ padd 8 v.toNat := by
  obtain ⟨u, rfl⟩ : ∃ u : Nat, v = u := ⟨v.toNat, by omega⟩
  have hn : Lib.nDigits u ≤ 8 := by
    rcases Nat.lt_or_ge 8 (Lib.nDigits u) with hh | hh
    · exfalso
      have h8 : ∀ k u, k < Lib.nDigits u → 10 ^ k ≤ u ∨ k = 0 := by
        intro k
        induction k with
        | zero => intro _ _; exact .inr rfl
        | succ k ih =>
          intro u hk
          by_cases hu : u < 10
          · rw [Lib.nDigits_small hu] at hk; omega
          · rw [Lib.nDigits_big hu] at hk
            rcases ih (u / 10) (by omega) with h | h
            · left; rw [Nat.pow_succ]; omega
            · subst h; left; omega
      rcases h8 8 u hh with h | h
      · have : (10 : Nat) ^ 8 = 100000000 := by decide
        omega
      · omega
    · exact hh
  have e := padd_eq 8 u hn
  have e2 : ((u : Int)).toNat = u := by omega
  unfold segF Lg.file
  rw [Lib.itoa_nonneg, Lib.decDigits_length, e2, List.append_assoc, e]
theorem padd_ne (k u : Nat) : padd (k + 1) u ≠ [] := by simp [padd]
theorem fileBase_segF (n : List UInt8) {v : Int} (h0 : 0 ≤ v) (h1 : v < 100000000) : fileBase ⟨n, [], 0⟩ (segF n v) = some v := by
  have e := segF_eq n h0 h1
  have hp : Lib.hasPrefix (segF n v) (n ++ [46]) = true := by
    rw [e]
    unfold Lib.hasPrefix
    exact List.isPrefixOf_iff_prefix.2 (List.prefix_append _ _)
  have ht : Lib.trimPrefix (segF n v) (n ++ [46]) = padd 8 v.toNat := by
    unfold Lib.trimPrefix
    rw [hp, if_pos rfl, e, List.drop_left]
  have hu : v.toNat < 10 ^ 8 := by have : (10 : Nat) ^ 8 = 100000000 := by decide
                                   omega
  have hpar : Lib.atoiAll (padd 8 v.toNat) = .ok v := by
    have hm : Lib.parseMag (padd 8 v.toNat) = .ok v.toNat := by
      unfold Lib.parseMag
      rw [if_neg (padd_ne 7 _), parse_padd 8 _ 0 hu (by omega)]
      simp
    have hd : v.toNat / 10 ^ 7 < 10 := by
      rw [Nat.div_lt_iff_lt_mul (by decide)]; omega
    have e8 : padd 8 v.toNat = UInt8.ofNat (48 + v.toNat / 10 ^ 7) :: padd 7 (v.toNat % 10 ^ 7) := rfl
    have hc := digit_toNat hd
    rw [e8] at hm ⊢
    rw [Lib.atoiAll_plain _ _ (by omega) (by omega), hm]
    unfold Lib.signless
    simp only
    rw [if_neg (by omega)]
    congr 1
    omega
  unfold fileBase
  rw [if_pos hp, ht, hpar]
  simp only
  rw [if_pos (show segF n v = (⟨n, [], 0⟩ : Lg).file v from rfl)]
theorem padd_lt : ∀ (k u v : Nat), u < v → v < 10 ^ k → padd k u < padd k v
  | 0, u, v, h1, h2 => by simp at h2; omega
  | k + 1, u, v, h1, h2 => by
    have hp : 0 < 10 ^ k := Nat.pow_pos (by omega)
    have hm := Nat.div_add_mod u (10 ^ k)
    have hm2 := Nat.div_add_mod v (10 ^ k)
    have hlt := Nat.mod_lt v hp
    have hd2 : v / 10 ^ k < 10 := by
      rw [Nat.div_lt_iff_lt_mul hp]; rw [Nat.pow_succ] at h2; omega
    have hle : u / 10 ^ k ≤ v / 10 ^ k := Nat.div_le_div_right (by omega)
    rw [padd, padd]
    rcases Nat.lt_or_eq_of_le hle with h | h
    · refine List.cons_lt_cons_iff.2 (.inl ?_)
      rw [UInt8.lt_iff_toNat_lt, digit_toNat (by omega), digit_toNat hd2]; omega
    · rw [h]
      refine List.cons_lt_cons_iff.2 (.inr ⟨rfl, padd_lt k _ _ ?_ hlt⟩)
      rw [h] at hm; omega
theorem app_lt (n : List UInt8) {a b : List UInt8} (h : a < b) : n ++ a < n ++ b := by
  induction n with
  | nil => exact h
  | cons x n ih => exact List.cons_lt_cons_iff.2 (.inr ⟨rfl, ih⟩)
theorem segF_lt (n : List UInt8) {v x : Int} (h0 : 0 ≤ v) (h : v < x) (h1 : x < 100000000) : segF n v < segF n x := by
  rw [segF_eq n h0 (by omega), segF_eq n (by omega) h1]
  refine app_lt _ (padd_lt 8 _ _ (by omega) ?_)
  have : (10 : Nat) ^ 8 = 100000000 := by decide
  omega
theorem segF_inj (n : List UInt8) {v x : Int} (h0 : 0 ≤ v) (h1 : v < 100000000) (h2 : 0 ≤ x) (h3 : x < 100000000) (h : segF n v = segF n x) : v = x := by
  have e1 := fileBase_segF n h0 h1
  rw [h, fileBase_segF n h2 h3] at e1
  exact (Option.some.inj e1).symm
end Go.Proofs.YtnjadekngjgjcaaGreatDoor

/- Layer 8 in plain Lean: a batch is put into a log and into the reference's. -/
namespace Go.Proofs.YtnjadekngjgjcaaGreatDoor
open Go Go.Pk
theorem lookL_put (n m : List UInt8) (f : Fl) : ∀ (l : List (List UInt8 × Fl)), Dk.lookL (Dk.putL l n f) m = if n = m then some f else Dk.lookL l m
  | [] => by simp [Dk.putL, Dk.lookL]
  | p :: l => by
    unfold Dk.putL
    by_cases h : p.1 = n
    · rw [if_pos h]
      simp only [Dk.lookL]
      by_cases h2 : n = m
      · simp [h2]
      · rw [if_neg h2, if_neg h2, if_neg (by rw [h]; exact h2)]
    · rw [if_neg h]
      simp only [Dk.lookL, lookL_put n m f l]
      by_cases h2 : p.1 = m
      · rw [if_pos h2, if_pos h2, if_neg (by rw [← h2]; exact fun e => h e.symm)]
      · rw [if_neg h2, if_neg h2]
theorem names_put (n : List UInt8) (f : Fl) : ∀ (l : List (List UInt8 × Fl)) (m : List UInt8), m ∈ (Dk.putL l n f).map Prod.fst → m = n ∨ m ∈ l.map Prod.fst
  | [], m => by simp [Dk.putL]
  | p :: l, m => by
    unfold Dk.putL
    by_cases h : p.1 = n
    · rw [if_pos h]; simp only [List.map_cons, List.mem_cons]
      rintro (h1 | h1)
      · exact .inl h1
      · exact .inr (.inr h1)
    · rw [if_neg h]; simp only [List.map_cons, List.mem_cons]
      rintro (h1 | h1)
      · exact .inr (.inl h1)
      · rcases names_put n f l m h1 with h2 | h2
        · exact .inl h2
        · exact .inr (.inr h2)
theorem look_names {d : Dk} {n : List UInt8} {f : Fl} (h : d.look n = some f) : n ∈ d.names := by
  unfold Dk.look at h
  unfold Dk.names
  generalize d.files = l at h
  induction l with
  | nil => simp [Dk.lookL] at h
  | cons p l ih =>
    simp only [Dk.lookL] at h
    by_cases hp : p.1 = n
    · simp [hp]
    · rw [if_neg hp] at h; simp [ih h]
/-- of an append -/
theorem append_cases {d : Dk} {n b : List UInt8} (ha : d.dead = false) (hn : n ≠ [] ∧ n.length ≤ 24) :
    (d.append n b = (d, 3)) ∨ ∃ k, k ≤ b.length ∧ (d.append n b).2 = (if k < b.length then 9 else 0) ∧ (d.append n b).1.dead = decide (k < b.length) ∧ (d.append n b).1.used = d.used + k ∧
      (d.append n b).1.files = Dk.putL d.files n ⟨(d.fl0 n).data ++ b.take k, (d.fl0 n).sync⟩ ∧ (d.fuse = -1 → k = b.length ∧ (d.append n b).1.fuse = -1) := by
  unfold Dk.append
  rw [ha]
  simp only [Bool.false_eq_true, if_false]
  rw [if_neg (fun h => h.elim hn.1 (fun h => by omega))]
  split
  · exact .inl rfl
  · refine .inr ⟨d.fits b.length, ?_, rfl, rfl, rfl, rfl, fun hf => ?_⟩
    · unfold Dk.fits; split
      · exact Nat.min_le_left _ _
      · exact Nat.le_refl _
    · unfold Dk.fits
      rw [hf]
      simp
theorem sync_alive {d : Dk} {n : List UInt8} {f : Fl} (ha : d.dead = false) (hl : d.look n = some f) : d.sync n = ({ d with files := Dk.putL d.files n { f with sync := f.data.length } }, 0) := by
  unfold Dk.sync Dk.find
  rw [ha, hl]
  simp
/-- the groups behind a roll -/
def rollG (gs : Gr) : Gr := match gs.getLast? with
  | none => [(0, [])]
  | some p => if (fsOf p.2).length < 512 then gs else gs ++ [(grFin gs, [])]
def addG (gs : Gr) (b : Bd) : Gr := match gs.getLast? with
  | none => gs
  | some p => gs.dropLast ++ [(p.1, p.2 ++ [b])]
theorem allB_app (x y : Gr) : allB (x ++ y) = allB x ++ allB y := by simp [allB]
theorem rollG_allB (gs : Gr) : allB (rollG gs) = allB gs := by
  unfold rollG
  cases h : gs.getLast? with
  | none => rw [List.getLast?_eq_none_iff.1 h]; rfl
  | some p =>
    simp only
    split
    · rfl
    · rw [allB_app]; simp [allB]
theorem getLast_split {α : Type} {gs : List α} {p : α} (h : gs.getLast? = some p) : gs = gs.dropLast ++ [p] := by
  have hne : gs ≠ [] := by intro hh; subst hh; simp at h
  have e := List.dropLast_concat_getLast hne
  rw [List.getLast?_eq_some_getLast hne] at h
  rw [← Option.some.inj h]; exact e.symm
theorem addG_allB {gs : Gr} {b : Bd} (hne : gs ≠ []) : allB (addG gs b) = allB gs ++ [b] := by
  unfold addG
  cases h : gs.getLast? with
  | none => exact absurd (List.getLast?_eq_none_iff.1 h) hne
  | some p =>
    simp only
    have e := getLast_split h
    conv => rhs; rw [e]
    rw [allB_app, allB_app]
    simp [allB]
theorem rollG_ne (gs : Gr) : rollG gs ≠ [] := by
  unfold rollG
  cases h : gs.getLast? with
  | none => simp
  | some p =>
    simp only
    split
    · intro hh; subst hh; simp at h
    · simp
theorem grFin_snoc (gs : Gr) (p : Int × List Bd) : grFin (gs ++ [p]) = chEnd p.1 p.2 := by
  unfold grFin; rw [List.getLast?_append]; simp
theorem rollG_gch {gs : Gr} (h : GCh gs) : GCh (rollG gs) ∧ grFin (rollG gs) = grFin gs ∧ (0 ≤ grStart gs → 0 ≤ grStart (rollG gs)) := by
  unfold rollG
  cases hl : gs.getLast? with
  | none =>
    have e := List.getLast?_eq_none_iff.1 hl
    subst e
    exact ⟨trivial, rfl, fun _ => Int.le_refl _⟩
  | some p =>
    simp only
    split
    · exact ⟨h, rfl, id⟩
    · rename_i hc
      have e := getLast_split hl
      refine ⟨(gch_snoc _ _).2 ⟨h, trivial, fun _ => rfl, fun q hq => ?_⟩, by rw [grFin_snoc]; rfl, fun h0 => ?_⟩
      · intro hq0
        rw [e] at h hq
        have h2 := (gch_snoc _ _).1 h
        rcases List.mem_append.1 hq with hq | hq
        · exact h2.2.2.2 q hq hq0
        · rw [List.mem_singleton] at hq
          subst hq
          rw [hq0] at hc
          exact hc (by decide)
      · cases gs with
        | nil => simp at hl
        | cons q gs => exact h0
theorem addG_gch {gs : Gr} {b : Bd} (h : GCh gs) (hne : gs ≠ []) (hb : b.ok) (hba : b.ba = grFin gs) : GCh (addG gs b) ∧ grFin (addG gs b) = b.fin ∧ (0 ≤ grStart gs → 0 ≤ grStart (addG gs b)) := by
  unfold addG
  cases hl : gs.getLast? with
  | none => exact absurd (List.getLast?_eq_none_iff.1 hl) hne
  | some p =>
    simp only
    have e := getLast_split hl
    have hf : grFin gs = chEnd p.1 p.2 := by unfold grFin; rw [hl]
    rw [e] at h
    have h2 := (gch_snoc _ _).1 h
    refine ⟨(gch_snoc _ _).2 ⟨h2.1, ?_, h2.2.2.1, h2.2.2.2⟩, ?_, fun h0 => ?_⟩
    · exact (chain_app _ _ _).2 ⟨h2.2.1, ⟨by rw [hba, hf], hb, trivial⟩⟩
    · rw [grFin_snoc, chEnd_app]; rfl
    · cases hd : gs.dropLast with
      | nil =>
        rw [hd] at e
        rw [e] at h0
        exact h0
      | cons q qs =>
        rw [hd] at e
        rw [e] at h0
        exact h0
/-- offsets are small -/
def Small (gs : Gr) : Prop := 0 ≤ grStart gs ∧ grFin gs < 100000000
theorem small_mem {gs : Gr} (h : GCh gs) (hs : Small gs) {p : Int × List Bd} (hp : p ∈ gs) : 0 ≤ p.1 ∧ p.1 < 100000000 := by
  have h1 := gch_mem h hp
  have h2 := (chain_mem _ _ h1.1).1
  have h3 := hs.1
  have h4 := hs.2
  omega
theorem gch_bases {gs : Gr} (h : GCh gs) : (gs.map Prod.fst).Pairwise (· < ·) := by
  induction gs with
  | nil => exact .nil
  | cons p gs ih =>
    cases gs with
    | nil => simp
    | cons q gs =>
      obtain ⟨h1, h0, h2, h3⟩ := h
      rw [List.map_cons]
      refine List.pairwise_cons.2 ⟨fun v hv => ?_, ih h3⟩
      obtain ⟨x, hx, rfl⟩ := List.mem_map.1 hv
      have hm := gch_mem h3 hx
      have e : grStart (q :: gs) = q.1 := rfl
      obtain ⟨y, hy⟩ := List.exists_mem_of_ne_nil _ h0
      have := (chain_mem _ _ h1).2.2 y hy
      omega
end Go.Proofs.YtnjadekngjgjcaaGreatDoor

/- Layer 8 in plain Lean: a batch is put into a log on a disk. -/
namespace Go.Proofs.YtnjadekngjgjcaaGreatDoor
open Go Go.Pk
theorem segF_ok {n : List UInt8} (hn : n ≠ [] ∧ n.length ≤ 8) {v : Int} (h0 : 0 ≤ v) (h1 : v < 100000000) : segF n v ≠ [] ∧ (segF n v).length ≤ 24 := by
  rw [segF_eq n h0 h1]
  constructor
  · intro h
    have := congrArg List.length h
    simp [padd_len] at this
  · simp [padd_len]; omega
/-- another file of the disk is turned -/
theorem Lay.other {n : List UInt8} {g : Lg} {d d' : Dk} {gs : Gr} (h : Lay n g d gs) {m : List UInt8} {f : Fl} (hf : d'.files = Dk.putL d.files m f) (hm : fileBase ⟨n, [], 0⟩ m = none) (hs : Small gs) : Lay n g d' gs := by
  refine ⟨h.name, h.segs, h.chain, h.start, fun p hp => ?_, fun x hx v hv => ?_⟩
  · obtain ⟨s, hs2⟩ := h.data p hp
    refine ⟨s, ?_⟩
    unfold Dk.look at hs2 ⊢
    rw [hf, lookL_put, if_neg]
    · exact hs2
    · intro e
      have h2 := small_mem h.chain hs hp
      rw [e, fileBase_segF n h2.1 h2.2] at hm
      cases hm
  · unfold Dk.names at hx
    rw [hf] at hx
    rcases names_put _ _ _ _ hx with rfl | hx
    · rw [hm] at hv; cases hv
    · exact h.only x hx v hv
/-- a new group -/
theorem lay_grow {n : List UInt8} {g : Lg} {d : Dk} {gs : Gr} (h : Lay n g d gs) (hn : n ≠ [] ∧ n.length ≤ 8) (ha : d.dead = false) (hs : Small gs) (hne : ∀ q ∈ gs, q.2 ≠ []) :
    ((g.grow d).2.2 = 3 ∧ (g.grow d).1 = g ∧ (g.grow d).2.1 = d) ∨
    ((g.grow d).2.2 = 0 ∧ Lay n (g.grow d).1 (g.grow d).2.1 (gs ++ [(grFin gs, [])]) ∧ (g.grow d).2.1.dead = false ∧ (g.grow d).2.1.fuse = (d.append (segF n (grFin gs)) []).1.fuse ∧ (g.grow d).2.1.used = d.used ∧ (g.grow d).1.sync = g.sync ∧ (g.grow d).2.1.files = Dk.putL d.files (segF n (grFin gs)) ⟨(d.fl0 (segF n (grFin gs))).data, (d.fl0 (segF n (grFin gs))).sync⟩ ∧ d.look (segF n (grFin gs)) = none) := by
  have hfin := lay_fin h
  have hfl : g.file g.fin = segF n (grFin gs) := by rw [file_segF h.name, hfin]
  have hst : 0 ≤ grFin gs := by
    have hc := gch_chain gs h.chain
    have := (chain_mem _ _ hc.1).1
    have h0 := hs.1
    omega
  have hlt : grFin gs < 100000000 := hs.2
  have hnew : d.look (segF n (grFin gs)) = none := by
    cases hl : d.look (segF n (grFin gs)) with
    | none => rfl
    | some f =>
      exfalso
      have hm := h.only _ (look_names hl) _ (fileBase_segF n hst hs.2)
      obtain ⟨p, hp, he⟩ := List.mem_map.1 hm
      have h1 := gch_mem h.chain hp
      obtain ⟨y, hy⟩ := List.exists_mem_of_ne_nil _ (hne p hp)
      have := (chain_mem _ _ h1.1).2.2 y hy
      omega
  have hnm := segF_ok hn hst hlt
  unfold Lg.grow
  rw [hfl, hfin]
  rcases append_cases (b := []) ha hnm with hc | ⟨k, hk, h2, h3, h4, h5, h6⟩
  · rw [hc]
    refine .inl ?_
    rw [if_neg (show ¬ (3 : Int) = 0 by decide)]
    exact ⟨rfl, rfl, rfl⟩
  · have hk0 : k = 0 := by simpa using hk
    subst hk0
    have h2' : (d.append (segF n (grFin gs)) []).2 = 0 := by rw [h2]; rfl
    rw [if_pos h2']
    have h5' : (d.append (segF n (grFin gs)) []).1.files = Dk.putL d.files (segF n (grFin gs)) ⟨(d.fl0 (segF n (grFin gs))).data, (d.fl0 (segF n (grFin gs))).sync⟩ := by rw [h5]; simp
    refine .inr ⟨rfl, ⟨h.name, ?_, ?_, ?_, ?_, ?_⟩, by rw [h3]; rfl, rfl, by rw [h4]; simp, rfl, h5', hnew⟩
    · show g.segs ++ _ = _
      rw [h.segs]; unfold grSegs; simp [mkSg, fsOf, endsF]
    · exact (gch_snoc _ _).2 ⟨h.chain, trivial, fun _ => rfl, hne⟩
    · cases gs with
      | nil => exact Int.le_refl _
      | cons q gs => exact h.start
    · intro p hp
      unfold Dk.look
      rw [h5', lookL_put]
      rcases List.mem_append.1 hp with hp | hp
      · obtain ⟨s, hs2⟩ := h.data p hp
        rw [if_neg]
        · exact ⟨s, hs2⟩
        · intro e
          rw [e, hs2] at hnew
          cases hnew
      · rw [List.mem_singleton] at hp
        subst hp
        rw [if_pos rfl]
        unfold Dk.fl0
        rw [hnew]
        exact ⟨0, rfl⟩
    · intro x hx v hv
      unfold Dk.names at hx
      rw [h5'] at hx
      rw [List.map_append]
      rcases names_put _ _ _ _ hx with rfl | hx
      · rw [fileBase_segF n hst hs.2] at hv
        cases hv
        simp
      · exact List.mem_append_left _ (h.only x hx v hv)
/-- all of a log is synced -/
theorem lay_flush {n : List UInt8} {g : Lg} {d : Dk} {gs : Gr} (h : Lay n g d gs) (ha : d.dead = false) (hs : Small gs) :
    (g.flush d).2.2 = 0 ∧ Lay n (g.flush d).1 (g.flush d).2.1 gs ∧ (g.flush d).2.1.dead = false ∧ (g.flush d).2.1.fuse = d.fuse ∧ (g.flush d).2.1.used = d.used ∧ (g.flush d).1.segs = g.segs ∧
    (match gs.getLast? with | none => (g.flush d).1 = g ∧ (g.flush d).2.1 = d | some p => (g.flush d).1.sync = grFin gs ∧ (g.flush d).2.1.files = Dk.putL d.files (segF n p.1) ⟨fsOf p.2, (fsOf p.2).length⟩) := by
  have hgl : g.segs.getLast? = gs.getLast?.map fun p => mkSg p.1 (segF n p.1) p.2 := by rw [h.segs, grSegs_last]
  unfold Lg.flush
  rw [hgl]
  cases hl : gs.getLast? with
  | none =>
    simp only [Option.map_none]
    exact ⟨trivial, h, ha, trivial, trivial, trivial, trivial, trivial⟩
  | some p =>
    simp only [Option.map_some]
    have hp : p ∈ gs := List.mem_of_getLast? hl
    obtain ⟨s, hs2⟩ := h.data p hp
    have hsm := small_mem h.chain hs hp
    have e := sync_alive ha hs2
    have en : (mkSg p.1 (segF n p.1) p.2).name = segF n p.1 := rfl
    rw [en, e]
    simp only [if_true]
    refine ⟨trivial, ⟨h.name, h.segs, h.chain, h.start, fun q hq => ?_, fun x hx v hv => ?_⟩, ha, trivial, trivial, trivial, lay_fin h, trivial⟩
    · unfold Dk.look
      show ∃ s, Dk.lookL (Dk.putL d.files _ _) _ = _
      rw [lookL_put]
      by_cases e1 : segF n p.1 = segF n q.1
      · rw [if_pos e1]
        obtain ⟨s', hs'⟩ := h.data q hq
        rw [← e1, hs2] at hs'
        have hd : fsOf p.2 = fsOf q.2 := congrArg Fl.data (Option.some.inj hs')
        exact ⟨_, by rw [← hd]⟩
      · rw [if_neg e1]; exact h.data q hq
    · unfold Dk.names at hx
      rcases names_put _ _ _ _ hx with rfl | hx
      · exact h.only _ (look_names hs2) v hv
      · exact h.only x hx v hv
/-- room is made -/
theorem lay_roll {n : List UInt8} {g : Lg} {d : Dk} {gs : Gr} (h : Lay n g d gs) (hn : n ≠ [] ∧ n.length ≤ 8) (ha : d.dead = false) (hs : Small gs) :
    ((g.roll d).2.2 = 3 ∧ Lay n (g.roll d).1 (g.roll d).2.1 gs ∧ (g.roll d).2.1.dead = false) ∨
    ((g.roll d).2.2 = 0 ∧ Lay n (g.roll d).1 (g.roll d).2.1 (rollG gs) ∧ (g.roll d).2.1.dead = false ∧ (d.fuse = -1 → (g.roll d).2.1.fuse = -1) ∧ (g.roll d).2.1.used = d.used) := by
  unfold Lg.roll rollG
  rw [h.segs, grSegs_last]
  cases hl : gs.getLast? with
  | none =>
    have e := List.getLast?_eq_none_iff.1 hl
    subst e
    simp only [Option.map_none]
    rcases lay_grow h hn ha hs (fun q hq => by cases hq) with ⟨h1, h2, h3⟩ | ⟨h1, h2, h3, h4, h5, _⟩
    · exact .inl ⟨h1, by rw [h2, h3]; exact h, by rw [h3]; exact ha⟩
    · refine .inr ⟨h1, h2, h3, fun hf => ?_, h5⟩
      rw [h4]
      rcases append_cases (b := []) (n := segF n (grFin [])) ha (segF_ok hn (by decide) (by decide)) with hc | ⟨k, hk, _, _, _, _, h6⟩
      · rw [hc]; exact hf
      · exact (h6 hf).2
  | some p =>
    simp only [Option.map_some]
    have eb : (mkSg p.1 (segF n p.1) p.2).bytes = (fsOf p.2).length := rfl
    rw [eb]
    by_cases hc : (fsOf p.2).length < 512
    · rw [if_pos (by omega), if_pos hc]
      exact .inr ⟨rfl, h, ha, id, rfl⟩
    · rw [if_neg (by omega), if_neg hc]
      obtain ⟨f1, f2, f3, f4, f5, f6, f7⟩ := lay_flush h ha hs
      rw [if_pos f1]
      have hne : ∀ q ∈ gs, q.2 ≠ [] := by
        intro q hq hq0
        have e := getLast_split hl
        have hg := h.chain
        rw [e] at hg hq
        have h2 := (gch_snoc _ _).1 hg
        rcases List.mem_append.1 hq with hq | hq
        · exact h2.2.2.2 q hq hq0
        · rw [List.mem_singleton] at hq
          subst hq
          rw [hq0] at hc
          exact hc (by decide)
      rcases lay_grow f2 hn f3 hs hne with ⟨h1, h2, h3⟩ | ⟨h1, h2, h3, h4, h5, _⟩
      · exact .inl ⟨h1, by rw [h2, h3]; exact f2, by rw [h3]; exact f3⟩
      · refine .inr ⟨h1, h2, h3, fun hf => ?_, by rw [h5]; exact f5⟩
        rw [h4]
        have hst : 0 ≤ grFin gs := by
          have hc := gch_chain gs h.chain
          have := (chain_mem _ _ hc.1).1
          have h0 := hs.1
          omega
        rcases append_cases (b := []) (n := segF n (grFin gs)) f3 (segF_ok hn hst hs.2) with hc | ⟨k, hk, _, _, _, _, h6⟩
        · rw [hc, f4]; exact hf
        · exact (h6 (by rw [f4]; exact hf)).2
end Go.Proofs.YtnjadekngjgjcaaGreatDoor

/- Layer 8 in plain Lean: what a put does to a log on a disk, and to the reference's log; what is read of both. -/
namespace Go.Proofs.YtnjadekngjgjcaaGreatDoor
open Go Go.Pk
theorem addG_last {gs : Gr} {p : Int × List Bd} (h : gs.getLast? = some p) (b : Bd) : addG gs b = gs.dropLast ++ [(p.1, p.2 ++ [b])] := by unfold addG; rw [h]
/-- a batch's frame is written behind a log's last batch -/
theorem lay_push {n : List UInt8} {g : Lg} {d d' : Dk} {gs : Gr} {p : Int × List Bd} {b : Bd} {f : Fl} (h : Lay n g d gs) (hs : Small gs) (hl : gs.getLast? = some p) (hb : b.ok) (hba : b.ba = grFin gs)
    (hf : d'.files = Dk.putL d.files (segF n p.1) f) (hfd : f.data = fsOf p.2 ++ frm b.enc) : Lay n (g.last ((mkSg p.1 (segF n p.1) p.2).add b (frm b.enc).length)) d' (addG gs b) := by
  have hp : p ∈ gs := List.mem_of_getLast? hl
  have hne : gs ≠ [] := List.ne_nil_of_mem hp
  have e := getLast_split hl
  have hsp := small_mem h.chain hs hp
  have hg := addG_gch h.chain hne hb hba
  rw [mkSg_add]
  refine ⟨h.name, ?_, hg.1, hg.2.2 h.start, ?_, ?_⟩
  · show g.segs.set (g.segs.length - 1) _ = _
    rw [h.segs, addG_last hl]
    unfold grSegs
    rw [List.length_map]
    conv => lhs; rw [e]
    rw [List.map_append, List.map_append]
    have hlen : (gs.dropLast ++ [p]).length - 1 = (gs.dropLast.map fun p => mkSg p.1 (segF n p.1) p.2).length := by simp
    rw [hlen, List.set_append_right _ _ (Nat.le_refl _), Nat.sub_self]
    rfl
  · intro q hq
    rw [addG_last hl] at hq
    unfold Dk.look
    rw [hf, lookL_put]
    rcases List.mem_append.1 hq with hq | hq
    · have hq' : q ∈ gs := by rw [e]; exact List.mem_append_left _ hq
      rw [if_neg]
      · exact h.data q hq'
      · intro ee
        have hsq := small_mem h.chain hs hq'
        have hv := segF_inj n hsp.1 hsp.2 hsq.1 hsq.2 ee
        have hpw := gch_bases h.chain
        rw [e, List.map_append, List.pairwise_append] at hpw
        have := hpw.2.2 q.1 (List.mem_map_of_mem hq) p.1 (by simp)
        omega
    · rw [List.mem_singleton] at hq
      subst hq
      rw [if_pos rfl]
      refine ⟨f.sync, ?_⟩
      simp only
      rw [fsOf_app, fsOf_one, ← hfd]
  · intro x hx v hv
    have hmap : (addG gs b).map Prod.fst = gs.map Prod.fst := by
      rw [addG_last hl]
      conv => rhs; rw [e]
      simp
    rw [hmap]
    unfold Dk.names at hx
    rw [hf] at hx
    rcases names_put _ _ _ _ hx with rfl | hx
    · rw [fileBase_segF n hsp.1 hsp.2] at hv
      cases hv
      exact List.mem_map_of_mem hp
    · exact h.only x hx v hv
theorem rollG_small {gs : Gr} (h : GCh gs) (hs : Small gs) : Small (rollG gs) := by
  have := rollG_gch h
  exact ⟨this.2.2 hs.1, by rw [this.2.1]; exact hs.2⟩
/-- what a put does, on a disk that doesn't break -/
theorem lay_put {n : List UInt8} {g : Lg} {d : Dk} {gs : Gr} {b : Bd} (h : Lay n g d gs) (hn : n ≠ [] ∧ n.length ≤ 8) (ha : d.dead = false) (hfu : d.fuse = -1) (hs : Small gs) (hnum : b.dc.num) (hba : b.ba = g.fin) :
    (b.chk ≠ 0 ∧ g.put d b = (g, d, b.chk)) ∨ (b.chk = 0 ∧ (g.put d b).2.2 = 3 ∧ ∃ gs', Lay n (g.put d b).1 (g.put d b).2.1 gs' ∧ allB gs' = allB gs ∧ grFin gs' = grFin gs ∧ (g.put d b).2.1.dead = false ∧ (g.put d b).2.1.fuse = -1) ∨
    (b.chk = 0 ∧ (g.put d b).2.2 = 0 ∧ Lay n (g.put d b).1 (g.put d b).2.1 (addG (rollG gs) b) ∧ (g.put d b).2.1.dead = false ∧ (g.put d b).2.1.fuse = -1) := by
  by_cases hc : b.chk ≠ 0
  · exact .inl ⟨hc, by unfold Lg.put; rw [if_pos hc]⟩
  · refine .inr ?_
    have hc : b.chk = 0 := Classical.not_not.1 hc
    have hfin := lay_fin h
    unfold Lg.put
    rw [if_neg (by simp [hc]), if_neg (by simp [hba])]
    have hrf : (g.roll d).2.2 = 3 → (g.roll d).2.1.fuse = -1 := by
      intro _
      unfold Lg.roll
      have gf : ∀ (g : Lg) (d : Dk), d.fuse = -1 → (g.grow d).2.1.fuse = -1 := by
        intro g d hd
        have : (d.append (g.file g.fin) []).1.fuse = -1 := by
          unfold Dk.append
          split
          · exact hd
          · split
            · exact hd
            · split
              · exact hd
              · simp only; rw [hd]; simp
        unfold Lg.grow
        split
        · exact this
        · exact this
      have ff : ∀ (g : Lg) (d : Dk), d.fuse = -1 → (g.flush d).2.1.fuse = -1 := by
        intro g d hd
        have : ∀ m, (d.sync m).1.fuse = -1 := by
          intro m
          unfold Dk.sync
          split
          · exact hd
          · exact hd
        unfold Lg.flush
        split
        · exact hd
        · split
          · exact this _
          · exact this _
      split
      · exact gf _ _ hfu
      · split
        · exact hfu
        · split
          · exact gf _ _ (ff _ _ hfu)
          · exact ff _ _ hfu
    rcases lay_roll h hn ha hs with ⟨h1, h2, h3⟩ | ⟨h1, h2, h3, h4, h5⟩
    · rw [if_pos (by rw [h1]; decide)]
      exact .inl ⟨hc, h1, gs, h2, rfl, rfl, h3, hrf h1⟩
    · rw [if_neg (by rw [h1]; decide)]
      have hne := rollG_ne gs
      have hg := rollG_gch h.chain
      have hsr := rollG_small h.chain hs
      cases hl : (rollG gs).getLast? with
      | none => exact absurd (List.getLast?_eq_none_iff.1 hl) hne
      | some p =>
        have hp : p ∈ rollG gs := List.mem_of_getLast? hl
        have hsp := small_mem h2.chain hsr hp
        rw [h2.segs, grSegs_last, hl]
        simp only [Option.map_some]
        have en : (mkSg p.1 (segF n p.1) p.2).name = segF n p.1 := rfl
        rw [en]
        rcases append_cases (b := frm b.enc) h3 (segF_ok hn hsp.1 hsp.2) with hcc | ⟨k, hk, e2, e3, e4, e5, e6⟩
        · rw [hcc, if_neg (show ¬ (3 : Int) = 0 by decide)]
          exact .inl ⟨hc, rfl, rollG gs, h2, rollG_allB gs, hg.2.1, h3, h4 hfu⟩
        · obtain ⟨hkl, hfu2⟩ := e6 (h4 hfu)
          subst hkl
          have e2' : ((g.roll d).2.1.append (segF n p.1) (frm b.enc)).2 = 0 := by rw [e2, if_neg (Nat.lt_irrefl _)]
          rw [if_pos e2']
          obtain ⟨s, hs2⟩ := h2.data p hp
          refine .inr ⟨hc, rfl, lay_push h2 hsr hl ⟨hc, hnum⟩ (by rw [hba, hfin, hg.2.1]) e5 ?_, by rw [e3]; simp, hfu2⟩
          show ((g.roll d).2.1.fl0 (segF n p.1)).data ++ _ = _
          unfold Dk.fl0
          rw [hs2, List.take_length]
/-! ### the reference's log -/
structure Mt (gs : Gr) (r : Rl) : Prop where
  list : r.list = allB gs
  bases : r.bases = gs.map Prod.fst
theorem filter_all {α : Type} {p : α → Bool} {l : List α} (h : ∀ x ∈ l, p x = true) : l.filter p = l := List.filter_eq_self.2 h
theorem filter_no {α : Type} {p : α → Bool} {l : List α} (h : ∀ x ∈ l, p x = false) : l.filter p = [] := by
  rw [List.filter_eq_nil_iff]
  intro x hx; rw [h x hx]; simp
theorem last_filter {gs : Gr} {p : Int × List Bd} (hg : GCh gs) (hl : gs.getLast? = some p) : (allB gs).filter (fun x => decide (p.1 ≤ x.ba)) = p.2 := by
  have e := getLast_split hl
  rw [e] at hg
  rw [e, allB_app]
  have h2 := (gch_snoc _ _).1 hg
  have e1 : allB [p] = p.2 := by simp [allB]
  rw [e1, List.filter_append, filter_no, filter_all, List.nil_append]
  · intro x hx
    exact decide_eq_true ((chain_mem _ _ h2.2.1).2.2 x hx).1
  · intro x hx
    have hne : gs.dropLast ≠ [] := by intro h0; rw [h0] at hx; cases hx
    have hc := gch_chain _ h2.1
    have := (chain_mem _ _ hc.1).2.2 x hx
    have h3 := h2.2.2.1 hne
    exact decide_eq_false (by omega)
theorem mt_fin {gs : Gr} {r : Rl} (h : Mt gs r) (hg : GCh gs) : r.fin = grFin gs ∧ r.start = grStart gs := by
  have hst : r.start = grStart gs := by
    unfold Rl.start grStart
    rw [h.bases]
    cases gs <;> rfl
  refine ⟨?_, hst⟩
  have hc := gch_chain gs hg
  unfold Rl.fin
  rw [h.list, ← hc.2, chEnd_last, hst] <;> try (cases (allB gs).getLast? <;> rfl)
theorem mt_put {gs : Gr} {r : Rl} {b : Bd} (h : Mt gs r) (hg : GCh gs) (hb : b.chk = 0) (hba : b.ba = grFin gs) : (r.put b).2 = 0 ∧ Mt (addG (rollG gs) b) (r.put b).1 := by
  have hf := mt_fin h hg
  unfold Rl.put
  rw [if_neg (by simp [hb]), if_neg (by rw [hf.1]; simp [hba])]
  have hne := rollG_ne gs
  have hall : allB (addG (rollG gs) b) = allB gs ++ [b] := by rw [addG_allB hne, rollG_allB]
  have hbs : (addG (rollG gs) b).map Prod.fst = (rollG gs).map Prod.fst := by
    cases hl : (rollG gs).getLast? with
    | none => exact absurd (List.getLast?_eq_none_iff.1 hl) hne
    | some p =>
      rw [addG_last hl]
      conv => rhs; rw [getLast_split hl]
      simp
  rw [h.bases, List.getLast?_map]
  unfold rollG at hbs
  cases hl : gs.getLast? with
  | none =>
    have e := List.getLast?_eq_none_iff.1 hl
    subst e
    exact ⟨rfl, ⟨by show r.list ++ [b] = _; rw [hall, h.list], by show [0] = _; unfold rollG; rw [hbs]; rfl⟩⟩
  | some p =>
    rw [hl] at hbs
    simp only [Option.map_some] at hbs ⊢
    have hby : r.bytes p.1 = (fsOf p.2).length := by
      unfold Rl.bytes
      rw [h.list, last_filter hg hl]
    rw [hby]
    by_cases hc : (fsOf p.2).length < 512
    · rw [if_neg (by omega)]
      refine ⟨rfl, ⟨by rw [hall, ← h.list], ?_⟩⟩
      show gs.map Prod.fst = _
      unfold rollG
      rw [hl]
      simp only
      rw [hbs, if_pos hc]
    · rw [if_pos (by omega)]
      refine ⟨rfl, ⟨by rw [hall, ← h.list], ?_⟩⟩
      show gs.map Prod.fst ++ [b.ba] = _
      unfold rollG
      rw [hl]
      simp only
      rw [hbs, if_neg hc, List.map_append, hba]; rfl
theorem mt_put_bad {r : Rl} {b : Bd} (hb : b.chk ≠ 0) : r.put b = (r, b.chk) := by
  unfold Rl.put; rw [if_pos hb]
theorem segB_gs {n : List UInt8} {gs : Gr} (hg : ∀ p ∈ gs, Chain p.1 p.2) (frm : Int) : segB frm (grSegs n gs) = behind frm (allB gs) := by
  induction gs with
  | nil => rfl
  | cons p gs ih =>
    have e1 : grSegs n (p :: gs) = [mkSg p.1 (segF n p.1) p.2] ++ grSegs n gs := rfl
    have e2 : allB (p :: gs) = p.2 ++ allB gs := by simp [allB]
    rw [e1, segB_app, ih (fun q hq => hg q (by simp [hq])), e2, behind_app]
    congr 1
    have hc := chain_mem _ _ (hg p (by simp))
    unfold segB
    by_cases hf : frm < chEnd p.1 p.2
    · rw [List.filter_cons_of_pos (by rw [mkSg_fin]; exact decide_eq_true hf)]
      simp [mkSg]
    · rw [List.filter_cons_of_neg (by rw [mkSg_fin]; exact fun h => hf (of_decide_eq_true h))]
      simp only [List.filter_nil, List.flatMap_nil]
      unfold behind
      rw [filter_no]
      intro x hx
      have := hc.2.2 x hx
      exact decide_eq_false (by omega)
end Go.Proofs.YtnjadekngjgjcaaGreatDoor

/- Layer 8: bounds of a log; a log opened on a new disk; elements are overwritten. -/
namespace Go.Proofs.YtnjadekngjgjcaaGreatDoor
open Go Go.Pk
theorem gch_len : ∀ {gs : Gr}, GCh gs → gs.length ≤ (allB gs).length + 1
  | [], _ => by simp
  | [p], _ => by simp
  | p :: q :: gs, h => by
    obtain ⟨h1, h0, h2, h3⟩ := h
    have ih := gch_len h3
    have e : allB (p :: q :: gs) = p.2 ++ allB (q :: gs) := by simp [allB]
    have : 0 < p.2.length := List.length_pos_iff.2 h0
    rw [e, List.length_append, List.length_cons]; omega
theorem allB_mem {gs : Gr} {p : Int × List Bd} (h : p ∈ gs) : p.2.length ≤ (allB gs).length ∧ ∀ x ∈ p.2, x ∈ allB gs := by
  induction gs with
  | nil => cases h
  | cons q gs ih =>
    have e : allB (q :: gs) = q.2 ++ allB gs := by simp [allB]
    rw [e, List.length_append]
    rcases List.mem_cons.1 h with rfl | h
    · exact ⟨by omega, fun x hx => List.mem_append_left _ hx⟩
    · have := ih h
      exact ⟨by omega, fun x hx => List.mem_append_right _ (this.2 x hx)⟩
theorem gch_fin_le {gs : Gr} (h : GCh gs) : grStart gs ≤ grFin gs ∧ grFin gs ≤ grStart gs + 16 * (allB gs).length := by
  have hc := gch_chain gs h
  have := chain_mem _ _ hc.1
  rw [hc.2] at this
  exact ⟨this.1, this.2.1⟩
/-- what the calls of a log ask -/
structure LFit (g : Lg) : Prop where
  b : LgB g
  f : LgF g
  c : LgC g
  e : LgE g
  r : ∀ s ∈ g.segs, s.bt.length ≤ 1073741824
  n : g.segs.length ≤ 1073741824
  fin : 0 ≤ g.fin ∧ g.fin < 100000000
  q : ∀ frm, (segB frm g.segs).length ≤ 1073741824
/-- a log in memory, by groups -/
structure Mem (n : List UInt8) (g : Lg) (gs : Gr) : Prop where
  name : g.name = n
  segs : g.segs = grSegs n gs
  chain : GCh gs
  start : 0 ≤ grStart gs
theorem Lay.mem {n : List UInt8} {g : Lg} {d : Dk} {gs : Gr} (h : Lay n g d gs) : Mem n g gs := ⟨h.name, h.segs, h.chain, h.start⟩
theorem mem_fin {n : List UInt8} {g : Lg} {gs : Gr} (h : Mem n g gs) : g.fin = grFin gs := by
  unfold Lg.fin grFin
  rw [h.segs, grSegs_last]
  cases gs.getLast? with
  | none => rfl
  | some p => simp only [Option.map_some]; exact mkSg_fin
theorem mem_fit {n : List UInt8} {g : Lg} {gs : Gr} (h : Mem n g gs) (hs : Small gs) (hl : (allB gs).length ≤ 2097152) : LFit g := by
  have hsg : ∀ s ∈ g.segs, ∃ p ∈ gs, s = mkSg p.1 (segF n p.1) p.2 := fun s hs => by
    rw [h.segs] at hs
    obtain ⟨p, hp, rfl⟩ := List.mem_map.1 hs
    exact ⟨p, hp, rfl⟩
  have hbt : ∀ p ∈ gs, ∀ x ∈ p.2, x.ok ∧ 0 ≤ x.ba ∧ x.fin ≤ grFin gs := fun p hp x hx => by
    have h1 := gch_mem h.chain hp
    have h2 := (chain_mem _ _ h1.1).2.2 x hx
    have h3 := hs.1
    exact ⟨chain_ok _ _ h1.1 x hx, by omega, by omega⟩
  have hfin := mem_fin h
  have hle := gch_fin_le h.chain
  have hf := hs.1
  have hf2 := hs.2
  refine ⟨fun s hs x hx => ?_, fun s hs => ?_, fun s hs x hx => ?_, fun s hs => ?_, fun s hs => ?_, ?_, by omega, fun frm => ?_⟩
  · obtain ⟨p, hp, rfl⟩ := hsg s hs
    have := hbt p hp x hx
    omega
  · obtain ⟨p, hp, rfl⟩ := hsg s hs
    have h1 := (allB_mem hp).1
    have h2 := fsOf_le p.2 fun x hx => (hbt p hp x hx).1
    refine ⟨⟨by show (0 : Int) ≤ ((fsOf p.2).length : Nat); omega, ?_⟩, ?_, ?_⟩
    · show (((fsOf p.2).length : Nat) : Int) ≤ _; omega
    · show p.2.length ≤ _; omega
    · show (endsF 0 p.2).length ≤ _; rw [endsF_len]; omega
  · obtain ⟨p, hp, rfl⟩ := hsg s hs
    exact (hbt p hp x hx).1.1
  · obtain ⟨p, hp, rfl⟩ := hsg s hs
    exact endsF_len _ _
  · obtain ⟨p, hp, rfl⟩ := hsg s hs
    have h1 := (allB_mem hp).1
    show p.2.length ≤ _; omega
  · have := gch_len h.chain
    rw [h.segs]; unfold grSegs; rw [List.length_map]; omega
  · rw [h.segs, segB_gs fun p hp => (gch_mem h.chain hp).1]
    have := List.length_filter_le (fun x : Bd => decide (frm < x.fin)) (allB gs)
    unfold behind; omega
theorem lay_fit {n : List UInt8} {g : Lg} {d : Dk} {gs : Gr} (h : Lay n g d gs) (hs : Small gs) (hl : (allB gs).length ≤ 2097152) : LFit g := mem_fit h.mem hs hl
theorem open_new (n : List UInt8) : opLg n Dk.new = ⟨n, [], 0⟩ ∧ opDk n Dk.new = Dk.new := by
  have e : opAll n Dk.new = ⟨⟨n, [], 0⟩, Dk.new, true⟩ := by
    unfold opAll
    have : srt Dk.new.names = [] := by simp [srt, Dk.new, Dk.names]
    rw [this]; rfl
  unfold opLg opDk
  rw [e]
  exact ⟨rfl, rfl⟩
theorem lay_new (n : List UInt8) : Lay n ⟨n, [], 0⟩ Dk.new [] := ⟨rfl, rfl, trivial, Int.le_refl _, (fun p hp => by cases hp), fun f hf => by simp [Dk.new, Dk.names] at hf⟩
theorem put_start (gs : Gr) (b : Bd) : grStart (addG (rollG gs) b) = grStart gs := by
  unfold rollG
  cases hl : gs.getLast? with
  | none =>
    have e := List.getLast?_eq_none_iff.1 hl
    subst e; rfl
  | some p =>
    have e := getLast_split hl
    simp only
    split
    · rw [addG_last hl]
      conv => rhs; rw [e]
      cases gs.dropLast with
      | nil => rfl
      | cons q qs => rfl
    · have hl2 : (gs ++ [(grFin gs, ([] : List Bd))]).getLast? = some (grFin gs, []) := by simp
      rw [addG_last hl2, List.dropLast_concat]
      cases gs with
      | nil => simp at hl
      | cons q qs => rfl
theorem put_len {gs : Gr} {b : Bd} : (allB (addG (rollG gs) b)).length = (allB gs).length + 1 := by
  rw [addG_allB (rollG_ne gs), rollG_allB]; simp
section
variable {W w : World} {l : List Res} {K : Value → World → Prop}
end
end Go.Proofs.YtnjadekngjgjcaaGreatDoor

/- Layer 8 in plain Lean: a log that is opened anew, from its files. -/
namespace Go.Proofs.YtnjadekngjgjcaaGreatDoor
open Go Go.Pk
def isF (n : List UInt8) (f : List UInt8) : Bool := (fileBase ⟨n, [], 0⟩ f).isSome
theorem filter_srt (p : List UInt8 → Bool) (ns : List (List UInt8)) (ms : List (List UInt8)) (hn : ns.Nodup) (hs : ms.Pairwise (· < ·)) (hm : ∀ f, f ∈ ms ↔ f ∈ ns ∧ p f = true) : (srt ns).filter p = ms := by
  have tot : ∀ x y : List UInt8, (decide (x ≤ y) || decide (y ≤ x)) = true := fun x y => by
    rcases List.le_total x y with h | h <;> simp [h]
  have tr : ∀ x y z : List UInt8, decide (x ≤ y) = true → decide (y ≤ z) = true → decide (x ≤ z) = true := fun x y z h1 h2 => by
    simp only [decide_eq_true_eq] at h1 h2 ⊢
    exact List.le_trans h1 h2
  have hperm : (srt ns).Perm ns := List.mergeSort_perm ns _
  have hmn : ms.Nodup := hs.imp fun h => by intro e; subst e; exact List.lt_irrefl _ h
  have p1 : ((srt ns).filter p).Perm ms := by
    refine (List.perm_ext_iff_of_nodup ((hperm.nodup_iff.2 hn).sublist List.filter_sublist) hmn).2 fun f => ?_
    rw [List.mem_filter, hperm.mem_iff, hm]
  have s1 : ((srt ns).filter p).Pairwise (fun x y => decide (x ≤ y) = true) := (List.pairwise_mergeSort tr tot ns).sublist List.filter_sublist
  have s2 : ms.Pairwise (fun x y => decide (x ≤ y) = true) := hs.imp fun h => decide_eq_true (List.le_of_lt h)
  refine p1.eq_of_pairwise (fun x y _ _ h1 h2 => ?_) s1 s2
  simp only [decide_eq_true_eq] at h1 h2
  exact List.le_antisymm h1 h2
/-- files of a log, as they stand on a disk: all but the last one are whole; of the last one the batches are those told, and some bytes that are none -/
structure Fls (n : List UInt8) (d : Dk) (gs : Gr) (rest : List UInt8) : Prop where
  live : d.dead = false
  nodup : d.names.Nodup
  chain : GCh gs
  small : Small gs
  data : ∀ p ∈ gs.dropLast, ∃ s, d.look (segF n p.1) = some ⟨fsOf p.2, s⟩
  last : ∀ p, gs.getLast? = some p → ∃ s, d.look (segF n p.1) = some ⟨fsOf p.2 ++ rest, s⟩
  stop : ∀ p, gs.getLast? = some p → stepS (fsOf p.2 ++ rest) (mkSg p.1 (segF n p.1) p.2) = none
  only : ∀ f ∈ d.names, ∀ v, fileBase ⟨n, [], 0⟩ f = some v → v ∈ gs.map Prod.fst
theorem Fls.order {n : List UInt8} {d : Dk} {gs : Gr} {rest : List UInt8} (h : Fls n d gs rest) : (srt d.names).filter (isF n) = gs.map fun p => segF n p.1 := by
  have hr : ∀ p ∈ gs, 0 ≤ p.1 ∧ p.1 < 100000000 := fun p hp => small_mem h.chain h.small hp
  have hin : ∀ p ∈ gs, segF n p.1 ∈ d.names := fun p hp => by
    cases hl : gs.getLast? with
    | none => rw [List.getLast?_eq_none_iff.1 hl] at hp; cases hp
    | some q =>
      have e := getLast_split hl
      rw [e] at hp
      rcases List.mem_append.1 hp with hp | hp
      · obtain ⟨s, hs⟩ := h.data p hp
        exact look_names hs
      · rw [List.mem_singleton] at hp
        subst hp
        obtain ⟨s, hs⟩ := h.last p hl
        exact look_names hs
  refine filter_srt _ _ _ h.nodup ?_ fun f => ?_
  · have hb := gch_bases h.chain
    rw [List.pairwise_map] at hb ⊢
    refine hb.imp_of_mem fun {p q} hp hq hlt => segF_lt n (hr p hp).1 hlt (hr q hq).2
  · constructor
    · intro hf
      obtain ⟨p, hp, rfl⟩ := List.mem_map.1 hf
      refine ⟨hin p hp, ?_⟩
      unfold isF
      rw [fileBase_segF n (hr p hp).1 (hr p hp).2]; rfl
    · rintro ⟨hf, hi⟩
      unfold isF at hi
      obtain ⟨v, hv⟩ := Option.isSome_iff_exists.1 hi
      obtain ⟨p, hp, hpv⟩ := List.mem_map.1 (h.only f hf v hv)
      refine List.mem_map.2 ⟨p, hp, ?_⟩
      have hv2 := hv
      unfold fileBase at hv2
      split at hv2
      · split at hv2
        · split at hv2
          · rename_i v' _ hfv
            cases hv2
            rw [hpv]
            exact hfv.symm
          · cases hv2
        · cases hv2
      · cases hv2
end Go.Proofs.YtnjadekngjgjcaaGreatDoor
