/- Texts of mine, put together: SE, SF, SG, SH, SI. -/
import Derived.Test.YtnjadekngjgjcaaGreatDoorSD
import Derived.Test.YtnjadekngjgjcaaGreatDoorQS
import Derived.Test.YtnjadekngjgjcaaGreatDoorFSa
/- Layer 5: a disk in memory. -/
namespace Go.Proofs.YtnjadekngjgjcaaGreatDoor
open Go Go.Pk
/-- a file in memory -/
structure Fc where
  name : List UInt8
  p : Nat
  sl : Sl
  f : Fl
abbrev Fc.dat (e : Fc) : List UInt8 × Fl := (e.name, e.f)
abbrev vK (n : List UInt8) : ByteArray := ⟨n.toArray⟩
def Fc.ent (e : Fc) : ByteArray × Value := (vK e.name, .pointer (some ⟨e.p, 0, none⟩))
def Fc.own (e : Fc) : Res := All [Blk e.p [e.sl.v, .int .i64 e.f.sync] T_disk_file, BsR e.sl e.f.data]
def dcells (r : Nat) (d : Dk) : List Value := [.map (some r), .int .i64 d.fuse, .bool d.dead, .int .i64 d.used]
/-- what a disk keeps to -/
structure DkOk (d : Dk) : Prop where
  nodup : (d.files.map (·.1)).Nodup
  many : d.files.length ≤ 4096
  used : d.used = Dk.total d.files
  most : Dk.total d.files ≤ 4194304
  sync : ∀ p ∈ d.files, 0 ≤ p.2.sync ∧ p.2.sync ≤ p.2.data.length
  fuse : -1 ≤ d.fuse ∧ d.fuse < 9223372036854775808
  name : ∀ p ∈ d.files, p.1.length ≤ 24
def DkR (b : Nat) (d : Dk) : Res := Ex fun x : Nat × List Fc => All [Pure (x.2.map Fc.dat = d.files ∧ DkOk d), Blk b (dcells x.1 d) T_disk_Disk, MpRS x.1 (x.2.map Fc.ent), All (x.2.map Fc.own)]
/-- a disk, opened -/
abbrev DkL (b : Nat) (d : Dk) (r : Nat) (es : List Fc) (l : List Res) : List Res := Blk b (dcells r d) T_disk_Disk :: MpRS r (es.map Fc.ent) :: All (es.map Fc.own) :: l
theorem vK_inj {a b : List UInt8} (h : vK a = vK b) : a = b := by
  have := congrArg (fun x => x.data.toList) h
  simpa using this
section
variable {W w : World} {l : List Res} {K : Value → World → Prop} {b : Nat} {d : Dk}
theorem sat_dk : Sat W w (DkR b d :: l) ↔ ∃ r es, es.map Fc.dat = d.files ∧ DkOk d ∧ Sat W w (DkL b d r es l) := by
  unfold DkR
  rw [sat_ex]
  constructor
  · rintro ⟨⟨r, es⟩, h⟩
    obtain ⟨⟨h1, h2⟩, h3⟩ := sat_pure.1 (sat_all.1 h)
    exact ⟨r, es, h1, h2, h3⟩
  · rintro ⟨r, es, h1, h2, h3⟩
    exact ⟨(r, es), sat_all.2 (sat_pure.2 ⟨⟨h1, h2⟩, h3⟩)⟩
theorem mget_ent {n : List UInt8} : ∀ (es : List Fc), (mgetS (es.map Fc.ent) (vK n) = none ∧ Dk.lookL (es.map Fc.dat) n = none) ∨
    ∃ i e, es[i]? = some e ∧ e.name = n ∧ mgetS (es.map Fc.ent) (vK n) = some (.pointer (some ⟨e.p, 0, none⟩)) ∧ Dk.lookL (es.map Fc.dat) n = some e.f ∧ (∀ f, Dk.putL (es.map Fc.dat) n f = (es.map Fc.dat).set i (n, f)) ∧
      mdelS (es.map Fc.ent) (vK n) = (es.eraseIdx i).map Fc.ent ∧ Dk.delL (es.map Fc.dat) n = (es.eraseIdx i).map Fc.dat
  | [] => .inl ⟨rfl, rfl⟩
  | e :: es => by
    by_cases h : e.name = n
    · right
      refine ⟨0, e, rfl, h, ?_, ?_, fun f => ?_, ?_, ?_⟩
      · simp [mgetS, Fc.ent, h]
      · simp [Dk.lookL, Fc.dat, h]
      · simp [Dk.putL, Fc.dat, h]
      · simp [mdelS, Fc.ent, h]
      · simp [Dk.delL, Fc.dat, h]
    · have h' : ¬ vK e.name = vK n := fun hh => h (vK_inj hh)
      rcases mget_ent (n := n) es with ⟨h1, h2⟩ | ⟨i, e', h1, h2, h3, h4, h5, h6, h7⟩
      · left
        exact ⟨by simp only [List.map_cons, mgetS, Fc.ent, if_neg h']; exact h1, by simp only [List.map_cons, Dk.lookL, Fc.dat, if_neg h]; exact h2⟩
      · right
        refine ⟨i + 1, e', by simpa using h1, h2, ?_, ?_, fun f => ?_, ?_, ?_⟩
        · simp only [List.map_cons, mgetS, Fc.ent, if_neg h']; exact h3
        · simp only [List.map_cons, Dk.lookL, Fc.dat, if_neg h]; exact h4
        · simp only [List.map_cons, Dk.putL, Fc.dat, if_neg h, List.set_cons_succ]; rw [← h5 f]
        · simp only [List.map_cons, mdelS, Fc.ent, if_neg h', List.eraseIdx_cons_succ, List.map_cons]; rw [← h6]
        · simp only [List.map_cons, Dk.delL, Fc.dat, if_neg h, List.eraseIdx_cons_succ, List.map_cons]; rw [← h7]
theorem dkNew_ok (h : Sat W w l) (hK : ∀ b w', Sat W w' (DkR b Dk.new :: l) → K (.pointer (some ⟨b, 0, none⟩)) w') : CallP P F_disk_New [] w K := by
  apply c_disk_New
  unfold S_disk_New
  refine mkMapS (t := T_map_string_p_disk_file) (k := T_string) (e := T_p_disk_file) (by kernel_rfl) h (fun r w1 h1 => ?_) (fun w => by kernel_rfl)
  refine boxB h1 fun b w2 h2 => hK b w2 (sat_dk.2 ⟨r, [], rfl, ⟨by simp [Dk.new], by simp [Dk.new], rfl, by decide, by simp [Dk.new], by decide, by simp [Dk.new]⟩, ?_⟩)
  have h3 : Sat W w2 (Blk b (dcells r Dk.new) T_disk_Disk :: MpRS r [] :: l) := h2
  have h4 : Sat W w2 (All [] :: Blk b (dcells r Dk.new) T_disk_Disk :: MpRS r [] :: l) := sat_alln.2 h3
  exact h4.sel 3 [1, 2, 0]
theorem dead_ok (h : Sat W w (DkR b d :: l)) (hK : K (.bool d.dead) w) : CallP P F_disk_Disk_Dead [.pointer (some ⟨b, 0, none⟩)] w K := by
  apply c_disk_Disk_Dead
  unfold S_disk_Disk_Dead
  obtain ⟨r, es, _, _, h1⟩ := sat_dk.1 h
  refine ldX h1 2 (x := d.dead) hK
theorem dstate_ok (h : Sat W w (DkR b d :: l)) (hK : K (.int .i64 (if d.dead then 9 else 0)) w) : CallP P F_disk_Disk_state [.pointer (some ⟨b, 0, none⟩)] w K := by
  apply c_disk_Disk_state
  unfold S_disk_Disk_state
  obtain ⟨r, es, _, _, h1⟩ := sat_dk.1 h
  rw [show Option.isNone (some (⟨b, 0, none⟩ : Addr)) = false from rfl]
  refine ldX h1 2 (x := d.dead) ?_
  refine ifB_intro (fun c => ?_) fun c => ?_
  · rw [c] at hK; exact hK
  · rw [c] at hK; exact hK
/-- a file is found -/
theorem find_ok {n : List UInt8} (h : Sat W w (DkR b d :: l))
    (h0 : ∀ e, d.find n = (none, e) → e ≠ 0 → K (.tuple #[.pointer none, .int .i64 e]) w)
    (h1 : ∀ r es i e, DkOk d → es.map Fc.dat = d.files → es[i]? = some e → e.name = n → d.find n = (some e.f, 0) → d.look n = some e.f → d.dead = false → (∀ f, Dk.putL d.files n f = (es.map Fc.dat).set i (n, f)) → mdelS (es.map Fc.ent) (vK n) = (es.eraseIdx i).map Fc.ent → Dk.delL d.files n = (es.eraseIdx i).map Fc.dat →
      Sat W w (DkL b d r es l) → K (.tuple #[.pointer (some ⟨e.p, 0, none⟩), .int .i64 0]) w) :
    CallP P F_disk_Disk_find [.pointer (some ⟨b, 0, none⟩), .string (vK n)] w K := by
  apply c_disk_Disk_find
  unfold S_disk_Disk_find
  refine dstate_ok h (tyI (k := .int .i64) ?_)
  refine ifB_bne (fun c => ?_) fun c => ?_
  · have hd : d.dead = true := by cases hh : d.dead; rw [hh] at c; exact absurd rfl c; rfl
    rw [hd]
    exact h0 9 (by simp [Dk.find, hd]) (by decide)
  · have hd : d.dead = false := by cases hh : d.dead; rfl; rw [hh] at c; exact absurd c (by decide)
    obtain ⟨r, es, hes, hok, h2⟩ := sat_dk.1 h
    refine ldX h2 0 (x := some r) ?_
    refine mapLookS (t := T_map_string_p_disk_file) (k := T_string) (e := T_p_disk_file) (z := .pointer none) (by kernel_rfl) (by kernel_rfl) (fun w => by kernel_rfl) h2.tail ?_
    rcases mget_ent (n := n) es with ⟨g1, g2⟩ | ⟨i, e, g1, g2, g3, g4, g5, g6, g7⟩
    · rw [g1]
      refine tyI (k := .ptr) (x := none) ?_
      rw [hes] at g2
      exact h0 4 (by simp [Dk.find, hd, Dk.look, g2]) (by decide)
    · rw [g3]
      refine tyI (k := .ptr) (x := some ⟨e.p, 0, none⟩) ?_
      rw [hes] at g4 g7
      exact h1 r es i e hok hes g1 g2 (by simp [Dk.find, hd, Dk.look, g4]) g4 hd (fun f => by rw [← g5 f, hes]) g6 g7 h2
theorem own_join2 {W w : World} {l m : List Res} {i : Nat} {R : Res} (hi : i < m.length) (h : Sat W w (R :: All (m.eraseIdx i) :: l)) : Sat W w (All (m.set i R) :: l) := by
  have h2 : (m.set i R).Perm (R :: m.eraseIdx i) := by
    clear h
    induction m generalizing i with
    | nil => simp at hi
    | cons A m ih =>
      cases i with
      | zero => exact .refl _
      | succ i => exact ((ih (by simpa using hi)).cons A).trans (.swap _ _ _)
  have h3 : Sat W w (All (m.eraseIdx i) :: R :: l) := h.swap
  have h4 : Sat W w (m.eraseIdx i ++ R :: l) := sat_all.1 h3
  refine sat_all.2 (h4.perm ?_)
  refine List.perm_middle.trans ?_
  have := h2.symm.append_right l
  simpa using this
/-- a file of the disk, opened -/
abbrev FcL (b : Nat) (d : Dk) (r : Nat) (es : List Fc) (i : Nat) (e : Fc) (l : List Res) : List Res := Blk e.p [e.sl.v, .int .i64 e.f.sync] T_disk_file :: BsR e.sl e.f.data :: Blk b (dcells r d) T_disk_Disk :: MpRS r (es.map Fc.ent) :: All ((es.map Fc.own).eraseIdx i) :: l
theorem fc_open {r : Nat} {es : List Fc} {i : Nat} {e : Fc} (hi : es[i]? = some e) (h : Sat W w (DkL b d r es l)) : Sat W w (FcL b d r es i e l) := by
  have h1 : Sat W w (All (es.map Fc.own) :: Blk b (dcells r d) T_disk_Disk :: MpRS r (es.map Fc.ent) :: l) := h.sel 3 [2, 0, 1]
  have h2 := own_split (i := i) (R := e.own) (by rw [List.getElem?_map, hi]; rfl) h1
  have h3 : Sat W w (Blk e.p [e.sl.v, .int .i64 e.f.sync] T_disk_file :: BsR e.sl e.f.data :: All ((es.map Fc.own).eraseIdx i) :: Blk b (dcells r d) T_disk_Disk :: MpRS r (es.map Fc.ent) :: l) := sat_all.1 h2
  exact h3.sel 5 [0, 1, 3, 4, 2]
theorem fc_close {r : Nat} {es : List Fc} {i : Nat} {e e' : Fc} {d' : Dk} (hi : es[i]? = some e) (hn : e'.name = e.name) (hp : e'.p = e.p) (hes : es.map Fc.dat = d.files) (hok : DkOk d') (hd : d'.files = d.files.set i (e.name, e'.f))
    (h : Sat W w (Blk e'.p [e'.sl.v, .int .i64 e'.f.sync] T_disk_file :: BsR e'.sl e'.f.data :: Blk b (dcells r d') T_disk_Disk :: MpRS r (es.map Fc.ent) :: All ((es.map Fc.own).eraseIdx i) :: l)) : Sat W w (DkR b d' :: l) := by
  have hlt : i < es.length := (List.getElem?_eq_some_iff.1 hi).1
  have h1 : Sat W w (Blk e'.p [e'.sl.v, .int .i64 e'.f.sync] T_disk_file :: BsR e'.sl e'.f.data :: All ((es.map Fc.own).eraseIdx i) :: Blk b (dcells r d') T_disk_Disk :: MpRS r (es.map Fc.ent) :: l) := h.sel 5 [0, 1, 4, 2, 3]
  have h2 : Sat W w (e'.own :: All ((es.map Fc.own).eraseIdx i) :: Blk b (dcells r d') T_disk_Disk :: MpRS r (es.map Fc.ent) :: l) := (sat_all (l' := [Blk e'.p [e'.sl.v, .int .i64 e'.f.sync] T_disk_file, BsR e'.sl e'.f.data])).2 h1
  have h3 := own_join2 (by simpa using hlt) h2
  rw [← List.map_set] at h3
  have e1 : (es.set i e').map Fc.ent = es.map Fc.ent := by
    rw [List.map_set]
    have : e'.ent = (es.map Fc.ent)[i]'(by simpa using hlt) := by
      rw [List.getElem_map]
      have hx : es[i] = e := (List.getElem?_eq_some_iff.1 hi).2
      rw [hx]
      simp only [Fc.ent, hn, hp]
    rw [this, List.set_getElem_self]
  refine sat_dk.2 ⟨r, es.set i e', ?_, hok, ?_⟩
  · rw [List.map_set, hd, ← hes, Fc.dat, hn]
  · have h4 : Sat W w (Blk b (dcells r d') T_disk_Disk :: MpRS r (es.map Fc.ent) :: All ((es.set i e').map Fc.own) :: l) := h3.sel 3 [1, 2, 0]
    rw [← e1] at h4
    exact h4
theorem total_set : ∀ (m : List (List UInt8 × Fl)) (i : Nat) (p q : List UInt8 × Fl), m[i]? = some p → Dk.total (m.set i q) = Dk.total m - p.2.data.length + q.2.data.length
  | [], _, _, _, h => by simp at h
  | a :: m, 0, p, q, h => by
    simp only [List.getElem?_cons_zero, Option.some.injEq] at h
    subst h
    simp only [List.set_cons_zero, Dk.total, List.map_cons, List.foldr_cons]; omega
  | a :: m, i + 1, p, q, h => by
    have ih := total_set m i p q (by simpa using h)
    simp only [List.set_cons_succ, Dk.total, List.map_cons, List.foldr_cons] at ih ⊢
    omega
theorem total_nonneg : ∀ (m : List (List UInt8 × Fl)), 0 ≤ Dk.total m
  | [] => Int.le_refl _
  | a :: m => by have := total_nonneg m; simp only [Dk.total, List.map_cons, List.foldr_cons] at this ⊢; omega
theorem total_erase : ∀ (m : List (List UInt8 × Fl)) (i : Nat) (p : List UInt8 × Fl), m[i]? = some p → Dk.total (m.eraseIdx i) = Dk.total m - p.2.data.length
  | [], _, _, h => by simp at h
  | a :: m, 0, p, h => by
    simp only [List.getElem?_cons_zero, Option.some.injEq] at h
    subst h
    simp only [List.eraseIdx_cons_zero, Dk.total, List.map_cons, List.foldr_cons]; omega
  | a :: m, i + 1, p, h => by
    have ih := total_erase m i p (by simpa using h)
    simp only [List.eraseIdx_cons_succ, Dk.total, List.map_cons, List.foldr_cons] at ih ⊢
    omega
theorem data_le {m : List (List UInt8 × Fl)} {i : Nat} {p : List UInt8 × Fl} (h : m[i]? = some p) : (p.2.data.length : Int) ≤ Dk.total m := by
  have := total_erase m i p h
  have := total_nonneg (m.eraseIdx i)
  omega
/-- a disk one of whose files is turned -/
theorem DkOk.set {d d' : Dk} {i : Nat} {n : List UInt8} {f f' : Fl} (h : DkOk d) (hi : d.files[i]? = some (n, f)) (hf : d'.files = d.files.set i (n, f')) (hu : d'.used = d.used - f.data.length + f'.data.length) (hs : 0 ≤ f'.sync ∧ f'.sync ≤ f'.data.length)
    (hm : d.used - f.data.length + f'.data.length ≤ 4194304) (hfu : -1 ≤ d'.fuse ∧ d'.fuse < 9223372036854775808) : DkOk d' := by
  have ht := total_set d.files i (n, f) (n, f') hi
  have hud := h.used
  simp only at ht
  have hlt : i < d.files.length := (List.getElem?_eq_some_iff.1 hi).1
  refine ⟨?_, by rw [hf, List.length_set]; exact h.many, by rw [hf, ht, hu, hud], by rw [hf, ht]; omega, ?_, hfu, ?_⟩
  · rw [hf, List.map_set]
    have e : n = (d.files.map (·.1))[i]'(by simpa using hlt) := by
      rw [List.getElem_map, (List.getElem?_eq_some_iff.1 hi).2]
    have : (d.files.map (·.1)).set i (n, f').1 = d.files.map (·.1) := by
      show (d.files.map (·.1)).set i n = _
      conv => lhs; rw [e]
      rw [List.set_getElem_self]
    rw [this]; exact h.nodup
  · intro p hp
    rw [hf] at hp
    rcases List.mem_or_eq_of_mem_set hp with hp | rfl
    · exact h.sync p hp
    · exact hs
  · intro p hp
    rw [hf] at hp
    rcases List.mem_or_eq_of_mem_set hp with hp | rfl
    · exact h.name p hp
    · exact h.name (n, f) (List.mem_of_getElem? hi)
end
end Go.Proofs.YtnjadekngjgjcaaGreatDoor

/- Layer 5: a disk's calls. -/
namespace Go.Proofs.YtnjadekngjgjcaaGreatDoor
open Go Go.Pk
section
variable {W w : World} {l : List Res} {K : Value → World → Prop} {b : Nat} {d : Dk}
theorem dat_at {es : List Fc} {i : Nat} {e : Fc} {m : List (List UInt8 × Fl)} (h : es.map Fc.dat = m) (hi : es[i]? = some e) : m[i]? = some (e.name, e.f) := by
  rw [← h, List.getElem?_map, hi]; rfl
theorem dsync_ok {n : List UInt8} (h : Sat W w (DkR b d :: l)) (hK : ∀ w', Sat W w' (DkR b (d.sync n).1 :: l) → K (.int .i64 (d.sync n).2) w') : CallP P F_disk_Disk_Sync [.pointer (some ⟨b, 0, none⟩), .string (vK n)] w K := by
  apply c_disk_Disk_Sync
  unfold S_disk_Disk_Sync
  refine find_ok h (fun e h0 hne => ⟨(none, e, ()), rfl, ?_⟩) fun r es i e hok hes hi hn hf hl hd hp _ _ h1 => ⟨(some ⟨e.p, 0, none⟩, 0, ()), rfl, ?_⟩
  · refine ifB_beq (fun c => absurd c hne) fun _ => ?_
    have e1 : d.sync n = (d, e) := by unfold Dk.sync; rw [h0]
    rw [e1] at hK
    exact hK w h
  · refine ifB_beq (fun _ => ?_) fun c => absurd rfl c
    have e1 : d.sync n = ({ d with files := Dk.putL d.files n { e.f with sync := e.f.data.length } }, 0) := by unfold Dk.sync; rw [hf]
    rw [e1, hp] at hK
    have h2 := fc_open hi h1
    have hbl := Sat.bsLen (s := e.sl) (o := e.f.data) h2.tail
    refine ldX h2 0 (x := e.sl) ?_
    refine stX h2 1 (v := .int .i64 (e.sl.len : Int)) (hi := (by show 1 < 2; decide)) fun w2 h3 => ?_
    have hdi := dat_at hes hi
    have h4 : Sat W w2 (Blk e.p [e.sl.v, .int .i64 (e.f.data.length : Int)] T_disk_file :: BsR e.sl e.f.data :: Blk b (dcells r d) T_disk_Disk :: MpRS r (es.map Fc.ent) :: All ((es.map Fc.own).eraseIdx i) :: l) := by
      rw [hbl.1]; exact h3
    refine hK w2 (fc_close (e' := { e with f := { e.f with sync := e.f.data.length } }) hi rfl rfl hes ?_ (by simp only; rw [hes, hn]) h4)
    refine hok.set (d' := { d with files := (es.map Fc.dat).set i (n, { e.f with sync := e.f.data.length }) }) (f := e.f) (f' := { e.f with sync := e.f.data.length }) (by rw [hdi, hn]) (by simp only; rw [hes]) (by simp only; omega) ⟨by simp only; omega, by simp only; omega⟩ ?_ hok.fuse
    have := hok.most; have := hok.used
    simp only; omega
theorem dsize_ok {n : List UInt8} (h : Sat W w (DkR b d :: l)) (h0 : ∀ e w', d.find n = (none, e) → e ≠ 0 → Sat W w' (DkR b d :: l) → K (.tuple #[.int .i64 0, .int .i64 0, .int .i64 e]) w')
    (h1 : ∀ f w', d.find n = (some f, 0) → Sat W w' (DkR b d :: l) → K (.tuple #[.int .i64 (f.data.length : Int), .int .i64 f.sync, .int .i64 0]) w') : CallP P F_disk_Disk_Size [.pointer (some ⟨b, 0, none⟩), .string (vK n)] w K := by
  apply c_disk_Disk_Size
  unfold S_disk_Disk_Size
  refine find_ok h (fun e g0 hne => ⟨(none, e, ()), rfl, ?_⟩) fun r es i e hok hes hi hn hf hl hd hp _ _ g1 => ⟨(some ⟨e.p, 0, none⟩, 0, ()), rfl, ?_⟩
  · refine ifB_bne (fun c => ?_) fun c => absurd c hne
    exact h0 e w g0 hne h
  · refine ifB_bne (fun c => absurd rfl c) fun _ => ?_
    have h2 := (fc_open hi g1).drew
    have hbl := Sat.bsLen (s := e.sl) (o := e.f.data) h2.tail
    refine ldX h2 0 (x := e.sl) ?_
    refine ldX h2 1 (x := e.f.sync) ?_
    rw [← hbl.1]
    exact h1 e.f _ hf (h.drew)
theorem dread_ok {n : List UInt8} (h : Sat W w (DkR b d :: l)) (h0 : ∀ e w', d.find n = (none, e) → e ≠ 0 → Sat W w' (DkR b d :: l) → K (.tuple #[.slice none 0 0, .int .i64 e]) w')
    (h1 : ∀ f s w', d.find n = (some f, 0) → f.data.length ≤ 4194304 → Sat W w' (BsR s f.data :: DkR b d :: l) → K (.tuple #[s.v, .int .i64 0]) w') : CallP P F_disk_Disk_Read [.pointer (some ⟨b, 0, none⟩), .string (vK n)] w K := by
  apply c_disk_Disk_Read
  unfold S_disk_Disk_Read
  refine find_ok h (fun e g0 hne => ⟨(none, e, ()), rfl, ?_⟩) fun r es i e hok hes hi hn hf hl hd hp _ _ g1 => ⟨(some ⟨e.p, 0, none⟩, 0, ()), rfl, ?_⟩
  · refine ifB_bne (fun c => ?_) fun c => absurd c hne
    exact h0 e w g0 hne h
  · refine ifB_bne (fun c => absurd rfl c) fun _ => ?_
    have h2 := fc_open hi g1
    have hdi := dat_at hes hi
    have hdl := data_le hdi
    have hm := hok.most
    simp only at hdl
    refine ldX h2 0 (x := e.sl) ?_
    have h3 : Sat W w (BsR e.sl e.f.data :: _) := h2.up 1
    refine cpBytes0 h2 h3.rdc (by omega) fun s w2 h4 => ?_
    have h5 := fc_close (d' := d) (r := r) (es := es) (i := i) (e := e) (e' := e) (b := b) (l := BsR s e.f.data :: l) hi rfl rfl hes hok (by
      obtain ⟨hlt, hx⟩ := List.getElem?_eq_some_iff.1 hdi
      rw [← hx, List.set_getElem_self]) (h4.sel 6 [1, 2, 3, 4, 5, 0])
    exact h1 e.f s w2 hf (by omega) h5.swap
theorem erase_map {α β : Type} (f : α → β) (xs : List α) (k : Nat) : (xs.map f).eraseIdx k = (xs.eraseIdx k).map f := by
  rw [List.eraseIdx_eq_take_drop_succ, List.eraseIdx_eq_take_drop_succ, List.map_append, List.map_take, List.map_drop]
theorem dremove_ok {n : List UInt8} (h : Sat W w (DkR b d :: l)) (hK : ∀ w', Sat W w' (DkR b (d.remove n).1 :: l) → K (.int .i64 (d.remove n).2) w') : CallP P F_disk_Disk_Remove [.pointer (some ⟨b, 0, none⟩), .string (vK n)] w K := by
  apply c_disk_Disk_Remove
  unfold S_disk_Disk_Remove
  refine find_ok h (fun e h0 hne => ⟨(none, e, ()), rfl, ?_⟩) fun r es i e hok hes hi hn hf hl hd hp hme hde h1 => ⟨(some ⟨e.p, 0, none⟩, 0, ()), rfl, ?_⟩
  · refine ifB_beq (fun c => absurd c hne) fun _ => ?_
    have e1 : d.remove n = (d, e) := by unfold Dk.remove; rw [h0]
    rw [e1] at hK
    exact hK w h
  · refine ifB_beq (fun _ => ?_) fun c => absurd rfl c
    have e1 : d.remove n = ({ d with files := Dk.delL d.files n, used := d.used - e.f.data.length }, 0) := by unfold Dk.remove; rw [hf]
    rw [e1, hde] at hK
    have h2 := (fc_open hi h1).drew
    have hbl := Sat.bsLen (s := e.sl) (o := e.f.data) h2.tail
    have hdi := dat_at hes hi
    have hdl := data_le hdi
    have hm := hok.most
    have hu := hok.used
    simp only at hdl
    refine ⟨fun w => ∃ L, Sat W w (Blk e.p [e.sl.v, .int .i64 e.f.sync] T_disk_file :: L), ⟨_, h2⟩, ?_⟩
    refine hldX (fun w hw => hw) 0 (x := e.sl) ?_
    have hb2 : Sat W w.drew (Blk b (dcells r d) T_disk_Disk :: _) := h2.up 2
    refine ldX hb2 3 (x := d.used) ⟨⟨_, h2⟩, ?_⟩
    rw [← hbl.1, w_i64 (n := d.used - (e.f.data.length : Int)) (by omega) (by omega)]
    refine stX hb2 3 (v := .int .i64 (d.used - e.f.data.length)) (hi := (by show 3 < 4; decide)) fun w9 h3 => ⟨⟨_, h3.up 1⟩, ?_⟩
    refine ldX h3 0 (x := some r) ?_
    have h4 : Sat W w9 (MpRS r (es.map Fc.ent) :: Blk b (dcells r { d with used := d.used - e.f.data.length }) T_disk_Disk :: All ((es.map Fc.own).eraseIdx i) :: l) := h3.sel 5 [3, 0, 4]
    refine mapDel (t := T_map_string_p_disk_file) (k := T_string) (e := T_p_disk_file) rfl (by kernel_rfl) (by kernel_rfl) h4 fun w10 h5 => ?_
    rw [hme, erase_map] at h5
    have ht := total_erase d.files i _ hdi
    simp only at ht
    refine hK w10 (sat_dk.2 ⟨r, es.eraseIdx i, rfl, ⟨?_, ?_, ?_, ?_, ?_, hok.fuse, ?_⟩, h5.swap⟩)
    · rw [← erase_map, hes]
      simp only
      rw [← erase_map]
      exact hok.nodup.sublist (List.eraseIdx_sublist _ _)
    · have := hok.many
      have e2 := congrArg List.length hes
      simp only [List.length_map] at e2 ⊢
      have := List.length_eraseIdx_le es i
      omega
    · rw [← erase_map, hes]; show d.used - _ = Dk.total (d.files.eraseIdx i); rw [ht, hu]
    · rw [← erase_map, hes]; show Dk.total (d.files.eraseIdx i) ≤ _; rw [ht]; omega
    · rw [← erase_map, hes]; exact fun p hp => hok.sync p (List.mem_of_mem_eraseIdx hp)
    · rw [← erase_map, hes]; exact fun p hp => hok.name p (List.mem_of_mem_eraseIdx hp)
theorem run_sliceHi3 {t e sz by_ : Nat} (et : ET P t e sz by_) {s : Sl} {hi : Int} (h0 : 0 ≤ hi) (h1 : hi ≤ s.cap) (w : World) {j k : IntKind} :
    (Instr.sliceAt t s.v none (some (.int j hi)) (some (.int k hi))).run P w = .ok (Sl.v ⟨s.a, hi.toNat, hi.toNat⟩) w := by
  obtain ⟨ht, inf, z, hi', hz, hsz, _⟩ := et
  have e2 : (0 ≤ hi ∧ hi ≤ (s.cap : Int)) := ⟨h0, h1⟩
  have e4 : (0 ≤ hi ∧ hi ≤ (hi.toNat : Int)) := ⟨h0, by omega⟩
  simp [Instr.sliceAt, Instr.slice, run_underlying ht, Sem.run_bind, Instr.sliceBounds, Instr.sliceBound, asIntOf, sizeOf, typeInfo, program, Sem.run, hi', hsz, e2, e4]
  have e3 : s.a.map (fun x => x.add 0) = s.a := by cases s.a <;> simp [Addr.add]
  rw [if_pos (by omega), e3]
  simp [Sl.v]
/-- a part of a slice, and no room behind it -/
theorem slr_cap {T : TypeId} {us : List Value} {s : Sl} (h : Sat W w (SlR T 1 s us :: l)) {k : Nat} (hk : k ≤ s.len) : Sat W w (SlR T 1 ⟨s.a, k, k⟩ (us.take k) :: l) := by
  rcases h.slr with ⟨h0, h1, h2, h3⟩ | ⟨g, o, cur, ha, hb, h1, h2, h3, h4, h5⟩
  · have hk0 : k = 0 := by omega
    obtain ⟨sa, sl, sc⟩ := s
    simp only at h0 h1 h2
    subst h0; subst h2; subst h3; subst hk0
    simpa using Sat.nilSlr h.tail T 1
  · refine hb.mkSlr ha (Nat.le_refl _) (by show k < 2 ^ 63; omega) (by show o + k * 1 ≤ _; omega) ?_ h5
    show us.take k = (cur.drop o).take (k * 1)
    rw [h4, List.take_take, Nat.mul_one]
    congr 1
    omega
theorem dcut_ok {n : List UInt8} {k : Int} (h : Sat W w (DkR b d :: l)) (hk : -9223372036854775808 ≤ k ∧ k < 9223372036854775808) (hK : ∀ w', Sat W w' (DkR b (d.cut n k).1 :: l) → K (.int .i64 (d.cut n k).2) w') : CallP P F_disk_Disk_Cut [.pointer (some ⟨b, 0, none⟩), .string (vK n), .int .i64 k] w K := by
  apply c_disk_Disk_Cut
  unfold S_disk_Disk_Cut
  refine find_ok h (fun e h0 hne => ⟨(none, e, ()), rfl, ?_⟩) fun r es i e hok hes hi hn hf hl hd hp _ _ h1 => ⟨(some ⟨e.p, 0, none⟩, 0, ()), rfl, ?_⟩
  · have e1 : d.cut n k = (d, e) := by unfold Dk.cut; rw [h0]
    rw [e1] at hK
    refine ⟨fun _ _ => False, fun _ _ hh => hh.elim, ?_⟩
    refine ifB_bne (fun c => ?_) fun c => absurd c hne
    exact hK w h
  · have hdi := dat_at hes hi
    have hdl := data_le hdi
    have hm := hok.most
    have hu := hok.used
    simp only at hdl
    have h2 := fc_open hi h1
    have hbl := Sat.bsLen (s := e.sl) (o := e.f.data) h2.tail
    have e1 : d.cut n k = if k < 0 ∨ k > e.f.data.length then (d, 1) else ({ d with files := Dk.putL d.files n ⟨e.f.data.take k.toNat, min e.f.sync k⟩, used := d.used - (e.f.data.length - k) }, 0) := by unfold Dk.cut; rw [hf]
    rw [e1] at hK
    have bad : (k < 0 ∨ k > e.f.data.length) → K (.int .i64 1) w := fun c => by
      rw [if_pos c] at hK
      exact hK w h
    refine ⟨fun _ w' => (0 ≤ k ∧ k ≤ e.f.data.length) ∧ Sat W w' (FcL b d r es i e l), ?_, ?_⟩
    · rintro _ w5 ⟨⟨k0, k1⟩, h3⟩
      rw [if_neg (by omega), hp] at hK
      have h3 := h3.drew
      refine ⟨fun w => ∃ L, Sat W w (Blk e.p [e.sl.v, .int .i64 e.f.sync] T_disk_file :: L), ⟨_, h3⟩, ?_⟩
      refine hldX (fun w hw => hw) 0 (x := e.sl) ?_
      have hb2 : Sat W w5.drew (Blk b (dcells r d) T_disk_Disk :: _) := h3.up 2
      refine ldX hb2 3 (x := d.used) ⟨⟨_, h3⟩, ?_⟩
      rw [← hbl.1, w_i64 (n := (e.f.data.length : Int) - k) (by omega) (by omega), w_i64 (n := d.used - ((e.f.data.length : Int) - k)) (by omega) (by omega)]
      refine stX hb2 3 (v := .int .i64 (d.used - ((e.f.data.length : Int) - k))) (hi := (by show 3 < 4; decide)) fun w14 h4 => ⟨⟨_, h4.up 1⟩, ?_⟩
      have h5 : Sat W w14 (Blk e.p [e.sl.v, .int .i64 e.f.sync] T_disk_file :: Blk b (dcells r { d with used := d.used - ((e.f.data.length : Int) - k) }) T_disk_Disk :: BsR e.sl e.f.data :: MpRS r (es.map Fc.ent) :: All ((es.map Fc.own).eraseIdx i) :: l) := h4.sel 5 [1, 0, 2, 3, 4]
      refine ldX h5 0 (x := e.sl) ?_
      have hc : e.sl.len ≤ e.sl.cap := (Sat.slLen (h5.up 2)).2.1
      refine ⟨⟨e.sl.a, k.toNat, k.toNat⟩, run_sliceHi3 (s := e.sl) et_bytes k0 (by omega) _, ?_⟩
      refine stX h5 0 (v := Sl.v ⟨e.sl.a, k.toNat, k.toNat⟩) (hi := (by show 0 < 2; decide)) fun w19 h6 => ?_
      refine ldX h6 1 (x := e.f.sync) ?_
      refine stX h6 1 (v := .int .i64 (if k < e.f.sync then k else e.f.sync)) (hi := (by show 1 < 2; decide)) fun w23 h7 => ?_
      have em : (if k < e.f.sync then k else e.f.sync) = min e.f.sync k := by split <;> omega
      rw [em] at h7
      have h8 := slr_cap (k := k.toNat) (h7.up 2) (by omega)
      rw [← List.map_take] at h8
      have h9 : Sat W w23 (Blk e.p [Sl.v ⟨e.sl.a, k.toNat, k.toNat⟩, .int .i64 (min e.f.sync k)] T_disk_file :: BsR ⟨e.sl.a, k.toNat, k.toNat⟩ (e.f.data.take k.toNat) :: Blk b (dcells r { d with used := d.used - ((e.f.data.length : Int) - k) }) T_disk_Disk :: MpRS r (es.map Fc.ent) :: All ((es.map Fc.own).eraseIdx i) :: l) := h8.sel 5 [1, 0, 2, 3, 4]
      have hsy := hok.sync _ (List.mem_of_getElem? hdi)
      simp only at hsy
      have hlk : (e.f.data.take k.toNat).length = k.toNat := by simp; omega
      refine hK w23 (fc_close (e' := { e with sl := ⟨e.sl.a, k.toNat, k.toNat⟩, f := ⟨e.f.data.take k.toNat, min e.f.sync k⟩ }) hi rfl rfl hes ?_ (by simp only; rw [hes, hn]) h9)
      refine hok.set (d' := { d with files := (es.map Fc.dat).set i (n, ⟨e.f.data.take k.toNat, min e.f.sync k⟩), used := d.used - ((e.f.data.length : Int) - k) }) (f := e.f) (f' := ⟨e.f.data.take k.toNat, min e.f.sync k⟩) (by rw [hdi, hn]) (by simp only; rw [hes]) (by simp only [hlk]; omega) (by simp only [hlk]; omega) (by simp only [hlk]; omega) hok.fuse
    · refine ifB_bne (fun c => absurd rfl c) fun _ => ?_
      refine ifB_dec (fun c => bad (.inl c)) fun c => ?_
      refine ldX h2 0 (x := e.sl) ?_
      refine ifB_dec (fun c2 => bad (.inr (by omega))) fun c2 => ?_
      exact ⟨⟨by omega, by omega⟩, h2⟩
end
end Go.Proofs.YtnjadekngjgjcaaGreatDoor

/- Layer 5: bytes are written to a disk. -/
namespace Go.Pk
open Go
section
variable {W w : World} {l : List Res} {P : Program}
theorem mput_none {m : List (ByteArray × Value)} {a : ByteArray} {v : Value} : mgetS m a = none → mputS m a v = m ++ [(a, v)] := by
  induction m with
  | nil => intro _; rfl
  | cons p m ih =>
    intro h
    simp only [mgetS] at h
    split at h
    · cases h
    · rename_i hp
      simp only [mputS, if_neg hp, List.cons_append]
      rw [ih h]
theorem mapLen {t k e : TypeId} {r : Nat} {m : List (ByteArray × Value)} {ty : TypeId} (ht : P.underlying t = some (.map k e)) (h : Sat W w (MpRS r m :: l)) {K : Int → Prop} (hK : K m.length) : RunQ (.int .i64) P (Builtin.len_ #[t] ty #[.map (some r)]) w K := by
  obtain ⟨es, clock, ⟨he1, _, _⟩, hp⟩ := sat_mpS.1 h
  have hl : es.length = m.length := by
    have := congrArg List.length he1
    simpa [kvsS] using this
  refine ⟨_, ?_, hK⟩
  simp [Builtin.len_, Sem.run_bind, run_underlying ht, run_getPt hp, goInt, Kd.v, hl]
end
end Go.Pk
namespace Go.Proofs.YtnjadekngjgjcaaGreatDoor
open Go Go.Pk
section
variable {W w : World} {l : List Res} {K : Value → World → Prop} {b : Nat} {d : Dk}
/-- the disk, a file of the name made -/
def dk1 (d : Dk) (n : List UInt8) : Dk := match d.look n with | some _ => d | none => { d with files := d.files ++ [(n, ⟨[], 0⟩)] }
theorem putL_none : ∀ (m : List (List UInt8 × Fl)) (n : List UInt8) (f : Fl), Dk.lookL m n = none → Dk.putL m n f = m ++ [(n, f)]
  | [], _, _, _ => rfl
  | p :: m, n, f, h => by
    simp only [Dk.lookL] at h
    split at h
    · cases h
    · rename_i hp
      simp only [Dk.putL, if_neg hp, List.cons_append]
      rw [putL_none m n f h]
theorem look_mem : ∀ (m : List (List UInt8 × Fl)) (n : List UInt8), Dk.lookL m n = none → n ∉ m.map (·.1)
  | [], _, _ => by simp
  | p :: m, n, h => by
    simp only [Dk.lookL] at h
    split at h
    · cases h
    · rename_i hp
      have := look_mem m n h
      simp only [List.map_cons, List.mem_cons, not_or]
      exact ⟨fun hh => hp hh.symm, this⟩
theorem total_app (m : List (List UInt8 × Fl)) (n : List UInt8) (f : Fl) : Dk.total (m ++ [(n, f)]) = Dk.total m + f.data.length := by
  induction m with
  | nil => simp [Dk.total]
  | cons a m ih => simp only [List.cons_append, Dk.total, List.map_cons, List.foldr_cons] at ih ⊢; omega
theorem str_nil (n : List UInt8) : (ByteArray.toList (vK n) == (ByteArray.mk #[]).toList) = decide (n = []) := by
  have := str_eq n []
  exact this
set_option maxRecDepth 20000 in
theorem dappend_ok {n bs : List UInt8} {x : Sl} (h : Sat W w (DkR b d :: l)) (hx : Rd W l x 1 (bs.map vB)) (hbs : bs.length ≤ 1073741824) (hK : ∀ w', Sat W w' (DkR b (d.append n bs).1 :: l) → K (.int .i64 (d.append n bs).2) w') :
    CallP P F_disk_Disk_Append [.pointer (some ⟨b, 0, none⟩), .string (vK n), x.v] w K := by
  apply c_disk_Disk_Append
  unfold S_disk_Disk_Append
  have hxl : x.len = bs.length := by have := (hx w h.tail).1; simp at this; omega
  unfold Dk.append at hK
  refine dstate_ok h (tyI (k := .int .i64) ?_)
  refine ifB_bne (fun c => ?_) fun c => ?_
  · have hd : d.dead = true := by cases hh : d.dead; rw [hh] at c; exact absurd rfl c; rfl
    rw [if_pos hd] at hK
    rw [hd]
    exact hK w h
  have hd : d.dead = false := by cases hh : d.dead; rfl; rw [hh] at c; exact absurd c (by decide)
  rw [if_neg (by rw [hd]; decide)] at hK
  obtain ⟨r, es, hes, hok, h2⟩ := sat_dk.1 h
  have hmo := hok.most
  have hus := hok.used
  have htn := total_nonneg d.files
  refine ldX h2 0 (x := some r) ?_
  refine mapLookS (t := T_map_string_p_disk_file) (k := T_string) (e := T_p_disk_file) (z := .pointer none) (by kernel_rfl) (by kernel_rfl) (fun w => by kernel_rfl) h2.tail ?_
  have hfit : d.fits bs.length ≤ bs.length := by unfold Dk.fits; split <;> omega
  -- the rest, from the file on
  let J : (Option Addr × Unit) → World → Prop := fun t w' => ∃ r es i e, t = (some ⟨e.p, 0, none⟩, ()) ∧ es.map Fc.dat = (dk1 d n).files ∧ es[i]? = some e ∧ e.name = n ∧ DkOk (dk1 d n) ∧ (bs.length : Int) ≤ 4194304 - d.used ∧ ¬ (n = [] ∨ n.length > 24) ∧ ¬ (d.look n = none ∧ d.files.length = 4096) ∧
    (∀ f, Dk.putL d.files n f = (es.map Fc.dat).set i (n, f)) ∧ d.fl0 n = e.f ∧ Sat W w' (DkL b (dk1 d n) r es l)
  have hd1 : (dk1 d n).fuse = d.fuse ∧ (dk1 d n).used = d.used ∧ (dk1 d n).dead = d.dead := by unfold dk1; split <;> exact ⟨rfl, rfl, rfl⟩
  have hlook : ∃ p7 : Option Addr, (match mgetS (es.map Fc.ent) (vK n) with | some v => (if false = true then Value.tuple #[v, .bool true] else v) | none => (if false = true then Value.tuple #[.pointer none, .bool false] else .pointer none)) = .pointer p7 ∧
      ((p7 = none ∧ d.look n = none ∧ mgetS (es.map Fc.ent) (vK n) = none) ∨ (∃ i e, p7 = some ⟨e.p, 0, none⟩ ∧ es[i]? = some e ∧ e.name = n ∧ d.look n = some e.f ∧ ∀ f, Dk.putL d.files n f = (es.map Fc.dat).set i (n, f))) := by
    rcases mget_ent (n := n) es with ⟨g1, g2⟩ | ⟨i, e, g1, g2, g3, g4, g5, _, _⟩
    · exact ⟨none, by rw [g1]; rfl, .inl ⟨rfl, by rw [hes] at g2; exact g2, g1⟩⟩
    · exact ⟨some ⟨e.p, 0, none⟩, by rw [g3]; rfl, .inr ⟨i, e, rfl, g1, g2, by rw [hes] at g4; exact g4, fun f => by rw [← hes, g5 f]⟩⟩
  obtain ⟨p7, e7, hp7⟩ := hlook
  refine ⟨p7, e7, ?_⟩
  refine ⟨J, ?_, ?_⟩
  · rintro _ w10 ⟨r, es, i, e, rfl, hes, hi, hn, hok1, hfull, hnm, hmany, hput, hfe, h3⟩
    rw [if_neg hnm, if_neg (by rintro (q | q); omega; exact hmany q)] at hK
    simp only [hfe, hput] at hK
    obtain ⟨hf1, hu1, hde1⟩ := hd1
    have h4 := fc_open hi h3
    let k := d.fits bs.length
    let d2 : Dk := { dk1 d n with fuse := if d.fuse ≥ 0 then d.fuse - k else d.fuse }
    refine ⟨fun t w' => t = ((k : Int), ()) ∧ Sat W w' (FcL b d2 r es i e l), ?_, ?_⟩
    · rintro t w28 ⟨rfl, h5⟩
      have h5 := h5.drew
      have hxr := hx w28.drew (h5.sel 5 [])
      have hcap := hxr.2.1
      refine ⟨fun w => True, trivial, ?_⟩
      refine ⟨⟨x.a, k, x.cap⟩, fun w _ => run_sliceHi (s := x) (hi := (k : Int)) et_bytes (by omega) (by omega) w, ?_⟩
      refine ldX h5 0 (x := e.sl) ⟨trivial, ?_⟩
      have h6 : Sat W w28.drew (BsR e.sl e.f.data :: _) := h5.up 1
      have hxk : RdC w28.drew ⟨x.a, k, x.cap⟩ 1 ((bs.take k).map vB) := by
        have := hxr.hi (n := k) (by omega)
        rwa [Nat.mul_one, ← List.map_take] at this
      have hdi := dat_at hes hi
      have hdl := data_le hdi
      have hm1 := hok1.most
      simp only at hdl
      have htk : (bs.take k).length = k := by simp; omega
      refine appBytes h6 hxk (by rw [htk]; omega) fun s41 w42 h7 => ⟨trivial, ?_⟩
      refine stX (h7.up 1) 0 (v := s41.v) (hi := (by show 0 < 2; decide)) fun w44 h8 => ⟨trivial, ?_⟩
      have h9 : Sat W w44 (Blk b (dcells r d2) T_disk_Disk :: Blk e.p [s41.v, .int .i64 e.f.sync] T_disk_file :: BsR s41 (e.f.data ++ bs.take k) :: MpRS r (es.map Fc.ent) :: All ((es.map Fc.own).eraseIdx i) :: l) := h8.sel 5 [2, 0, 1, 3, 4]
      refine ldX h9 3 (x := d.used) ?_ (by show some (Value.int .i64 d2.used) = _; rw [show d2.used = d.used from hu1])
      show StoreP P T_int _ (.int .i64 (IntKind.i64.wrap (d.used + (k : Int)))) w44 _
      rw [w_i64 (n := d.used + (k : Int)) (by omega) (by omega)]
      refine stX h9 3 (v := .int .i64 (d.used + k)) (hi := (by show 3 < 4; decide)) fun w48 h10 => ?_
      have hsy := hok1.sync _ (List.mem_of_getElem? hdi)
      simp only at hsy
      have hal : (e.f.data ++ bs.take k).length = e.f.data.length + k := by rw [List.length_append, htk]
      have fin : ∀ {w' : World} {dd : Bool}, Sat W w' (Blk b (dcells r { d2 with used := d.used + k, dead := dd }) T_disk_Disk :: Blk e.p [s41.v, .int .i64 e.f.sync] T_disk_file :: BsR s41 (e.f.data ++ bs.take k) :: MpRS r (es.map Fc.ent) :: All ((es.map Fc.own).eraseIdx i) :: l) →
          Sat W w' (DkR b ⟨(es.map Fc.dat).set i (n, ⟨e.f.data ++ bs.take k, e.f.sync⟩), if d.fuse ≥ 0 then d.fuse - k else d.fuse, dd, d.used + k⟩ :: l) := fun {w' dd} hs => by
        refine fc_close (d := dk1 d n) (d' := ⟨(es.map Fc.dat).set i (n, ⟨e.f.data ++ bs.take k, e.f.sync⟩), if d.fuse ≥ 0 then d.fuse - k else d.fuse, dd, d.used + k⟩) (e' := { e with sl := s41, f := ⟨e.f.data ++ bs.take k, e.f.sync⟩ }) hi rfl rfl hes ?_ (by simp only; rw [hes, hn]) (hs.sel 5 [1, 2, 0, 3, 4])
        refine hok1.set (f := e.f) (f' := ⟨e.f.data ++ bs.take k, e.f.sync⟩) (by rw [hdi, hn]) (by simp only; rw [hes]) (by simp only [hal]; rw [hu1]; omega) (by simp only [hal]; omega) (by simp only [hal]; rw [hu1]; omega) ?_
        have := hok.fuse
        have : k ≤ d.fuse.toNat ∨ ¬ d.fuse ≥ 0 := by
          by_cases c : d.fuse ≥ 0
          · left; show d.fits bs.length ≤ _; unfold Dk.fits; rw [if_pos c]; omega
          · right; exact c
        simp only
        split <;> omega
      refine ifB_dec (fun c2 => ?_) fun c2 => ?_
      · have c2' : k < bs.length := by have : (k : Int) < (x.len : Int) := c2; omega
        refine stX h10 2 (v := .bool true) (hi := (by show 2 < 4; decide)) fun w50 h11 => ?_
        have h12 := fin (dd := true) h11
        have hk2 := hK w50
        rw [if_pos c2', decide_eq_true c2'] at hk2
        exact hk2 h12
      · have c2' : ¬ k < bs.length := by have : ¬ (k : Int) < (x.len : Int) := c2; omega
        have h11 : Sat W w48 (Blk b (dcells r { d2 with used := d.used + k, dead := false }) T_disk_Disk :: Blk e.p [s41.v, .int .i64 e.f.sync] T_disk_file :: BsR s41 (e.f.data ++ bs.take k) :: MpRS r (es.map Fc.ent) :: All ((es.map Fc.own).eraseIdx i) :: l) := by
          have e2 : ({ d2 with used := d.used + k, dead := false } : Dk) = { d2 with used := d.used + k } := by
            have : d2.dead = false := hde1.trans hd
            show (⟨d2.files, d2.fuse, false, d.used + k⟩ : Dk) = ⟨d2.files, d2.fuse, d2.dead, d.used + k⟩
            rw [this]
          rw [e2]; exact h10
        have h12 := fin (dd := false) h11
        have hk2 := hK w48
        rw [if_neg c2', decide_eq_false c2'] at hk2
        exact hk2 h12
    · have hb2 : Sat W w10 (Blk b (dcells r (dk1 d n)) T_disk_Disk :: _) := h4.up 2
      refine ldX hb2 1 (x := d.fuse) ?_ (by show some (Value.int .i64 (dk1 d n).fuse) = _; rw [hf1])
      have hfu := hok.fuse
      refine ifB_dec (fun c => ?_) fun c => ?_
      · have ek : (if d.fuse < (x.len : Int) then d.fuse else (x.len : Int)) = (k : Int) := by
          show _ = ((d.fits bs.length : Nat) : Int)
          unfold Dk.fits
          rw [if_pos c, hxl]
          split <;> omega
        have hk0 : k ≤ d.fuse.toNat := by show d.fits bs.length ≤ _; unfold Dk.fits; rw [if_pos c]; omega
        refine ldX hb2 1 (x := d.fuse) ?_ (by show some (Value.int .i64 (dk1 d n).fuse) = _; rw [hf1])
        refine ldX hb2 1 (x := d.fuse) ?_ (by show some (Value.int .i64 (dk1 d n).fuse) = _; rw [hf1])
        rw [ek, w_i64 (n := d.fuse - (k : Int)) (by omega) (by omega)]
        refine stX hb2 1 (v := .int .i64 (d.fuse - k)) (hi := (by show 1 < 4; decide)) fun w36 h5 => ⟨rfl, ?_⟩
        have ed : d2 = { dk1 d n with fuse := d.fuse - k } := by show ({ dk1 d n with fuse := if d.fuse ≥ 0 then d.fuse - k else d.fuse } : Dk) = _; rw [if_pos c]
        rw [ed]
        exact h5.sel 5 [1, 2, 0, 3, 4]
      · have ek : ((x.len : Nat) : Int) = (k : Int) := by
          show _ = ((d.fits bs.length : Nat) : Int)
          unfold Dk.fits
          rw [if_neg c, hxl]
        refine ⟨by rw [ek], ?_⟩
        have ed : d2 = dk1 d n := by
          show ({ dk1 d n with fuse := if d.fuse ≥ 0 then d.fuse - k else d.fuse } : Dk) = _
          rw [if_neg c]
          rw [← hf1]
        rw [ed]
        exact h4
  · rw [str_nil]
    refine ifB_dec (fun c1 => ?_) fun c1 => ?_
    · rw [if_pos (.inl c1)] at hK
      exact hK w h
    have hsz : ((vK n).size : Int) = n.length := by show ((n.toArray.size : Nat) : Int) = _; simp
    rw [hsz]
    refine ifB_dec (fun c2 => ?_) fun c2 => ?_
    · rw [if_pos (.inr (by omega))] at hK
      exact hK w h
    have hnm : ¬ (n = [] ∨ n.length > 24) := by rintro (q | q); exact c1 q; omega
    rw [if_neg hnm] at hK
    refine ldX h2 3 (x := d.used) ?_
    rw [w_i64 (n := 4194304 - d.used) (by omega) (by omega)]
    refine ifB_dec (fun c3 => ?_) fun c3 => ?_
    · rw [if_pos (.inl (by omega))] at hK
      exact hK w h
    have hfull : (bs.length : Int) ≤ 4194304 - d.used := by omega
    rcases hp7 with ⟨rfl, hl0, hm0⟩ | ⟨i, e, rfl, hi, hn, hl1, hput⟩
    · refine ifB_intro (fun _ => ?_) fun c => absurd c (by decide)
      refine ldX h2 0 (x := some r) ?_
      refine mapLen (t := T_map_string_p_disk_file) (k := T_string) (e := T_p_disk_file) (by kernel_rfl) h2.tail ?_
      have hln : ((es.map Fc.ent).length : Int) = d.files.length := by rw [← hes]; simp
      rw [hln]
      refine ifB_beq (fun c4 => ?_) fun c4 => ?_
      · rw [if_pos (.inr ⟨hl0, by omega⟩)] at hK
        exact hK w h
      have hmany : ¬ (d.look n = none ∧ d.files.length = 4096) := fun q => c4 (by omega)
      refine ifB_intro (fun _ => ?_) fun c => absurd c (by decide)
      refine boxB h2 fun p w17 h5 => ?_
      have h5 : Sat W w17 (Blk p [Sl.v ⟨none, 0, 0⟩, .int .i64 0] T_disk_file :: DkL b d r es l) := h5
      refine ldX (h5.up 1) 0 (x := some r) ?_
      have h6 : Sat W w17 (MpRS r (es.map Fc.ent) :: Blk p [Sl.v ⟨none, 0, 0⟩, .int .i64 0] T_disk_file :: Blk b (dcells r d) T_disk_Disk :: All (es.map Fc.own) :: l) := h5.sel 4 [2, 0, 1, 3]
      refine mapUpdS (t := T_map_string_p_disk_file) (k := T_string) (e := T_p_disk_file) (by kernel_rfl) (by kernel_rfl) h6 fun w20 h7 => ?_
      rw [mput_none hm0] at h7
      have e1 : dk1 d n = { d with files := d.files ++ [(n, ⟨[], 0⟩)] } := by unfold dk1; rw [hl0]
      let e : Fc := ⟨n, p, ⟨none, 0, 0⟩, ⟨[], 0⟩⟩
      have hmm := hok.many
      have h8 : Sat W w20 (BsR ⟨none, 0, 0⟩ [] :: _) := Sat.nilSlr h7 T_uint8 1
      have h9 : Sat W w20 (e.own :: MpRS r (es.map Fc.ent ++ [(vK n, .pointer (some ⟨p, 0, none⟩))]) :: Blk b (dcells r d) T_disk_Disk :: All (es.map Fc.own) :: l) := (sat_all (l' := [Blk p [Sl.v ⟨none, 0, 0⟩, .int .i64 0] T_disk_file, BsR ⟨none, 0, 0⟩ []])).2 (h8.sel 5 [2, 0, 1, 3, 4])
      have h10 : Sat W w20 (All (es.map Fc.own ++ [e.own]) :: MpRS r (es.map Fc.ent ++ [(vK n, .pointer (some ⟨p, 0, none⟩))]) :: Blk b (dcells r d) T_disk_Disk :: l) := by
        have g1 : Sat W w20 (All (es.map Fc.own) :: e.own :: MpRS r (es.map Fc.ent ++ [(vK n, .pointer (some ⟨p, 0, none⟩))]) :: Blk b (dcells r d) T_disk_Disk :: l) := h9.sel 4 [3, 0, 1, 2]
        have g2 := sat_all.1 g1
        refine (sat_all (l' := es.map Fc.own ++ [e.own])).2 ?_
        rw [List.append_assoc]
        exact g2
      refine ⟨r, es ++ [e], es.length, e, rfl, ?_, by simp, rfl, ?_, hfull, hnm, hmany, ?_, by unfold Dk.fl0; rw [hl0], ?_⟩
      · rw [e1, List.map_append, hes]; rfl
      · rw [e1]
        refine ⟨?_, ?_, ?_, ?_, ?_, hok.fuse, ?_⟩
        · rw [List.map_append]
          refine List.nodup_append.2 ⟨hok.nodup, by simp, ?_⟩
          intro a ha c hc
          simp only [List.map_cons, List.map_nil, List.mem_singleton] at hc
          subst hc
          exact fun q => look_mem _ _ hl0 (q ▸ ha)
        · simp only [List.length_append, List.length_cons, List.length_nil]
          have : d.files.length ≠ 4096 := fun q => hmany ⟨hl0, q⟩
          omega
        · rw [total_app]; simp only [List.length_nil]; omega
        · rw [total_app]; simp only [List.length_nil]; omega
        · intro q hq
          rcases List.mem_append.1 hq with hq | hq
          · exact hok.sync q hq
          · simp only [List.mem_singleton] at hq; subst hq; exact ⟨Int.le_refl _, by simp⟩
        · intro q hq
          rcases List.mem_append.1 hq with hq | hq
          · exact hok.name q hq
          · simp only [List.mem_singleton] at hq; subst hq; simp only; omega
      · intro f
        rw [putL_none _ _ _ hl0, List.map_append, hes]
        have : (d.files ++ [e].map Fc.dat).set es.length (n, f) = d.files ++ [(n, f)] := by
          have hl : es.length = d.files.length := by rw [← hes]; simp
          rw [hl, List.set_append, if_neg (by omega), Nat.sub_self]
          rfl
        rw [this]
      · rw [e1]
        have g : Sat W w20 (Blk b (dcells r d) T_disk_Disk :: MpRS r (es.map Fc.ent ++ [(vK n, .pointer (some ⟨p, 0, none⟩))]) :: All (es.map Fc.own ++ [e.own]) :: l) := h10.sel 3 [2, 1, 0]
        have ee : es.map Fc.ent ++ [(vK n, .pointer (some ⟨p, 0, none⟩))] = (es ++ [e]).map Fc.ent := by rw [List.map_append]; rfl
        have eo : es.map Fc.own ++ [e.own] = (es ++ [e]).map Fc.own := by rw [List.map_append]; rfl
        rw [ee, eo] at g
        exact g
    · refine ifB_intro (fun c => absurd c (by simp)) fun _ => ?_
      refine ifB_intro (fun c => absurd c (by simp)) fun _ => ?_
      have e1 : dk1 d n = d := by unfold dk1; rw [hl1]
      show J (some ⟨e.p, 0, none⟩, ()) w
      refine ⟨r, es, i, e, rfl, by rw [e1]; exact hes, hi, hn, by rw [e1]; exact hok, hfull, hnm, fun q => by rw [hl1] at q; exact absurd q.1 (by simp), fun f => hput f, by unfold Dk.fl0; rw [hl1], by rw [e1]; exact h2⟩
end
end Go.Proofs.YtnjadekngjgjcaaGreatDoor

/- Layer 5: the names of a disk's files. -/
namespace Go.Pk
open Go
theorem nodup_len {S : List Nat} {n : Nat} (hn : S.Nodup) (hb : ∀ i ∈ S, i < n) : S.length ≤ n := by
  have hp : (List.range n).Perm (S ++ (List.range n).filter fun i => decide (i ∉ S)) := by
    refine (List.perm_ext_iff_of_nodup List.nodup_range ?_).2 fun a => ?_
    · refine List.nodup_append.2 ⟨hn, List.nodup_range.filter _, fun a ha b hb he => ?_⟩
      subst he
      simp only [List.mem_filter, decide_eq_true_eq] at hb
      exact hb.2 ha
    · simp only [List.mem_range, List.mem_append, List.mem_filter, decide_eq_true_eq]
      constructor
      · intro ha
        by_cases hx : a ∈ S
        · exact .inl hx
        · exact .inr ⟨ha, hx⟩
      · rintro (ha | ha)
        · exact hb a ha
        · exact ha.1
  have := hp.length_eq
  rw [List.length_range, List.length_append] at this
  omega
/-- what was picked out, place by place, is all -/
theorem picked {α : Type} {xs ys : List α} {S : List Nat} (hn : S.Nodup) (hb : ∀ i ∈ S, i < xs.length) (ha : ∀ i, i < xs.length → i ∈ S) (hy : ys.length = S.length) (hg : ∀ (j i : Nat), S[j]? = some i → ys[j]? = xs[i]?) : ys.Perm xs := by
  have hp : S.Perm (List.range xs.length) := (List.perm_ext_iff_of_nodup hn List.nodup_range).2 fun a => by
    rw [List.mem_range]; exact ⟨hb a, ha a⟩
  have e1 : ys = S.filterMap fun i => xs[i]? := by
    have : ys.map some = S.map fun i => xs[i]? := by
      apply List.ext_getElem?
      intro j
      rw [List.getElem?_map, List.getElem?_map]
      cases hj : S[j]? with
      | none =>
        have : ys[j]? = none := by
          rw [List.getElem?_eq_none_iff] at hj ⊢
          omega
        rw [this]; rfl
      | some i =>
        have hi := hb i (List.mem_of_getElem? hj)
        rw [hg j i hj, List.getElem?_eq_getElem hi]
        simp [List.getElem?_eq_getElem hi]
    have h2 : (ys.map some).filterMap id = ys := by simp [List.filterMap_map]
    rw [← h2, this, List.filterMap_map]
    rfl
  have e2 : xs = (List.range xs.length).filterMap fun i => xs[i]? := by
    apply List.ext_getElem?
    intro j
    have : (List.range xs.length).filterMap (fun i => xs[i]?) = xs := by
      clear hn hb ha hy hg hp e1
      induction xs with
      | nil => rfl
      | cons x xs ih =>
        rw [List.length_cons, List.range_succ_eq_map, List.filterMap_cons]
        simp only [List.getElem?_cons_zero, List.filterMap_map]
        congr 1
    rw [this]
  rw [e1]
  conv => rhs; rw [e2]
  exact hp.filterMap _
end Go.Pk
namespace Go.Proofs.YtnjadekngjgjcaaGreatDoor
open Go Go.Pk
theorem srt_perm {a b : List (List UInt8)} (h : a.Perm b) : srt a = srt b := by
  have tot : ∀ x y : List UInt8, (decide (x ≤ y) || decide (y ≤ x)) = true := fun x y => by
    rcases List.le_total x y with h | h <;> simp [h]
  have tr : ∀ x y z : List UInt8, decide (x ≤ y) = true → decide (y ≤ z) = true → decide (x ≤ z) = true := fun x y z h1 h2 => by
    simp only [decide_eq_true_eq] at h1 h2 ⊢
    exact List.le_trans h1 h2
  have p : (srt a).Perm (srt b) := (List.mergeSort_perm a _).trans (h.trans (List.mergeSort_perm b _).symm)
  have s1 : (srt a).Pairwise (fun x y => decide (x ≤ y) = true) := List.pairwise_mergeSort tr tot a
  have s2 : (srt b).Pairwise (fun x y => decide (x ≤ y) = true) := List.pairwise_mergeSort tr tot b
  refine p.eq_of_pairwise (fun x y _ _ h1 h2 => ?_) s1 s2
  simp only [decide_eq_true_eq] at h1 h2
  exact List.le_antisymm h1 h2
section
variable {W w : World} {l : List Res} {K : Value → World → Prop} {b : Nat} {d : Dk}
theorem strPush {s : Sl} {xs : List (List UInt8)} {x : List UInt8} {ty : TypeId} (h : Sat W w (SlR T_string 1 s (xs.map vStr) :: l)) (hb : xs.length ≤ 1000000) {K : Sl → World → Prop} (hK : ∀ s' w', s'.len = s.len + 1 → Sat W w' (SlR T_string 1 s' ((xs ++ [x]).map vStr) :: l) → K s' w') :
    RunK .sl P (Instr.buildSlice T_sl_string 1 #[(0, vStr x)]) w fun s1 w1 => RunK .sl P (Builtin.append_ #[T_sl_string, T_sl_string] ty #[s.v, s1.v]) w1 K := by
  refine bsB h (cs := [vStr x]) (e := T_string) (fun w => by kernel_rfl) fun gb w1 h1 => ?_
  have hl := h.slLen.1
  simp only [List.length_map, Nat.mul_one] at hl
  refine appB et_strs (by decide) h1.swap (x := ⟨some ⟨gb, 0, none⟩, 1, 1⟩) (news := [x].map vStr) (rdBlk h1 (by simp)) (by simp [vStr]; rfl) (by show (s.len + 1) * 16 ≤ _; omega) (by show s.len + 1 < _; omega) fun s' w2 h2 hs => ?_
  rw [← List.map_append] at h2
  exact hK s' w2 hs (h2.cut 1)
theorem names_ok (h : Sat W w (DkR b d :: l)) (hK : ∀ s w', Sat W w' (SlR T_string 1 s ((srt d.names).map vStr) :: DkR b d :: l) → K s.v w') : CallP P F_disk_Disk_Names [.pointer (some ⟨b, 0, none⟩)] w K := by
  apply c_disk_Disk_Names
  unfold S_disk_Disk_Names
  refine ifB_intro (fun c => absurd c (by simp)) fun _ => ?_
  obtain ⟨r, es, hes, hok, h1⟩ := sat_dk.1 h
  refine ldX h1 0 (x := some r) ?_
  have h2 : Sat W w (MpRS r (es.map Fc.ent) :: Blk b (dcells r d) T_disk_Disk :: All (es.map Fc.own) :: l) := h1.sel 3 [1, 0, 2]
  refine mapRangeS (k := T_string) (e := T_p_disk_file) (by kernel_rfl) h2 fun ib w3 h3 => ?_
  have hlen : es.length = d.files.length := by rw [← hes]; simp
  have hmany := hok.many
  refine ⟨fun t w' => ∃ (S : List Nat) (xs : List (List UInt8)), S.Nodup ∧ (∀ i ∈ S, i < es.length) ∧ xs.length = S.length ∧ t.1.len = S.length ∧ (∀ (j i : Nat), S[j]? = some i → xs[j]? = (es.map Fc.name)[i]?) ∧ Sat W w' (RgRS r ib (es.map Fc.ent) S :: SlR T_string 1 t.1 (xs.map vStr) :: Blk b (dcells r d) T_disk_Disk :: All (es.map Fc.own) :: l), fun t _ => es.length - t.1.len, ⟨[], [], by simp, by simp, rfl, rfl, by simp, ?_⟩, ?_⟩
  · have := Sat.nilSlr h3 T_string 1
    exact this.swap
  rintro ⟨s, u⟩ w6 ⟨S, xs, hn, hb, hxl, hsl, hg, h4⟩
  simp only at hsl ⊢
  have hSl := nodup_len hn hb
  refine mapNextS h4 (fun hall h5 => ?_) fun i p w9 hp hi h5 => ?_
  · have hperm : xs.Perm (es.map Fc.name) := picked hn (by simpa using hb) (by simpa using hall) hxl hg
    have h6 : Sat W w6 (SlR T_string 1 s (xs.map vStr) :: RgRS r ib (es.map Fc.ent) S :: Blk b (dcells r d) T_disk_Disk :: All (es.map Fc.own) :: l) := h5.swap
    refine sort_ok h6 (by omega) fun w12 h7 => tupU rfl ?_
    have en : d.names = es.map Fc.name := by rw [Dk.names, ← hes, List.map_map]; rfl
    refine hK s w12 ?_
    rw [en, ← srt_perm hperm]
    have h8 := RgRS.back (h7.up 1)
    have h9 : Sat W w12 (DkL b d r es (SlR T_string 1 s ((srt xs).map vStr) :: l)) := h8.sel 4 [2, 0, 3, 1]
    exact (sat_dk.2 ⟨r, es, hes, hok, h9⟩).swap
  · have hil : i < es.length := by
      have := (List.getElem?_eq_some_iff.1 hp).1
      simpa using this
    have hei : es[i]? = some es[i] := List.getElem?_eq_getElem hil
    generalize hE : es[i] = e at hei
    have hpe : p = e.ent := by
      rw [List.getElem?_map, hei] at hp
      exact (Option.some.inj hp).symm
    refine tyI (k := .val) (tyI (k := .val) ?_)
    refine mapEntS (p := p) hp h5 ?_
    subst hpe
    refine ⟨vK e.name, .pointer (some ⟨e.p, 0, none⟩), rfl, ?_⟩
    have h6 : Sat W w9 (SlR T_string 1 s (xs.map vStr) :: RgRS r ib (es.map Fc.ent) (S ++ [i]) :: Blk b (dcells r d) T_disk_Disk :: All (es.map Fc.own) :: l) := h5.swap
    refine strPush (x := e.name) h6 (by omega) fun s' w23 hs' h7 => ?_
    have hn' : (S ++ [i]).Nodup := List.nodup_append.2 ⟨hn, by simp, fun a ha c hc he => by simp at hc; subst hc; subst he; exact hi ha⟩
    have hb' : ∀ j ∈ S ++ [i], j < es.length := fun j hj => by
      rcases List.mem_append.1 hj with hj | hj
      · exact hb j hj
      · simp at hj; subst hj; exact hil
    have hl' := nodup_len hn' hb'
    simp only [List.length_append, List.length_cons, List.length_nil] at hl'
    refine ⟨⟨S ++ [i], xs ++ [e.name], hn', hb', by simp [hxl], by simp only [hs', List.length_append, List.length_cons, List.length_nil]; omega, fun j k hjk => ?_, h7.swap⟩, by simp only [hs']; omega⟩
    by_cases hj : j < S.length
    · rw [List.getElem?_append_left hj] at hjk
      rw [List.getElem?_append_left (by omega)]
      exact hg j k hjk
    · have hjl := (List.getElem?_eq_some_iff.1 hjk).1
      simp only [List.length_append, List.length_cons, List.length_nil] at hjl
      have : j = S.length := by omega
      subst this
      rw [List.getElem?_append_right (Nat.le_refl _), Nat.sub_self] at hjk
      simp only [List.getElem?_cons_zero, Option.some.injEq] at hjk
      subst hjk
      rw [List.getElem?_append_right (by omega), hxl, Nat.sub_self, List.getElem?_map, hei]
      rfl
end
end Go.Proofs.YtnjadekngjgjcaaGreatDoor

/- Layer 5: a disk breaks. -/
namespace Go.Proofs.YtnjadekngjgjcaaGreatDoor
open Go Go.Pk
section
variable {W w : World} {l : List Res} {K : Value → World → Prop} {b : Nat} {d : Dk}
end
end Go.Proofs.YtnjadekngjgjcaaGreatDoor
