/- Layer 9: what is known of producers, in memory. -/
import Derived.Test.YtnjadekngjgjcaaGreatDoorUC
namespace Go.Proofs.YtnjadekngjgjcaaGreatDoor
open Go Go.Pk
def elSn : El Sn := ⟨T_prod_seen, 3, fun p => [.int .i64 p.seq, .int .i64 p.size, .int .i64 p.base], fun _ => Pure True, fun _ => rfl, fun p u hu => by
  simp only [List.mem_cons, List.not_mem_nil, or_false] at hu
  rcases hu with rfl | rfl | rfl <;> rfl⟩
def elAb : El Ab := ⟨T_api_Abort, 3, fun p => [.int .u64 p.pid, .int .i64 p.first, .int .i64 p.last], fun _ => Pure True, fun _ => rfl, fun p u hu => by
  simp only [List.mem_cons, List.not_mem_nil, or_false] at hu
  rcases hu with rfl | rfl | rfl <;> rfl⟩
theorem et_sns : ET P T_sl_prod_seen T_prod_seen 3 24 := ET.of (by kernel_rfl)
theorem et_abs : ET P T_sl_api_Abort T_api_Abort 3 24 := ET.of (by kernel_rfl)
def pdcells (x : Pd) (s : Sl) : List Value := [.int .i64 x.epoch, .int .i64 x.next, s.v, .int .i64 x.opn]
def PdR (p : Nat) (x : Pd) : Res := Ex fun s : Sl => All [Blk p (pdcells x s) T_prod_producer, SlR T_prod_seen 3 s (elSn.flat x.last)]
def PtR (a : Nat) (t : Pt9) : Res := Ex fun x : Nat × Sl × List (Me Pd) => All [Pure (x.2.2.map Me.kx = t.ps), Blk a [.map (some x.1), x.2.1.v] T_prod_Table, MpR .u64 x.1 (x.2.2.map Me.kv), All (x.2.2.map fun e => PdR e.p e.x), SlR T_api_Abort 3 x.2.1 (elAb.flat t.ab)]
abbrev PtL (a : Nat) (t : Pt9) (m : Nat) (s : Sl) (es : List (Me Pd)) (l : List Res) : List Res := Blk a [.map (some m), s.v] T_prod_Table :: MpL .u64 m PdR es (SlR T_api_Abort 3 s (elAb.flat t.ab) :: l)
/-- what the calls of a table ask -/
structure PtF (t : Pt9) : Prop where
  ab : t.ab.length ≤ 1073741824
  last : ∀ p ∈ t.ps, p.2.last.length ≤ 5
section
variable {W w : World} {l : List Res} {K : Value → World → Prop} {a : Nat} {t : Pt9}
theorem sat_pt : Sat W w (PtR a t :: l) ↔ ∃ m s es, es.map Me.kx = t.ps ∧ Sat W w (PtL a t m s es l) := by
  unfold PtR
  rw [sat_ex]
  constructor
  · rintro ⟨⟨m, s, es⟩, h⟩
    obtain ⟨h1, h2⟩ := sat_pure.1 (sat_all.1 h)
    exact ⟨m, s, es, h1, h2⟩
  · rintro ⟨m, s, es, h1, h2⟩
    exact ⟨(m, s, es), sat_all.2 (sat_pure.2 ⟨h1, h2⟩)⟩
theorem sat_pd {p : Nat} {x : Pd} : Sat W w (PdR p x :: l) ↔ ∃ s, Sat W w (Blk p (pdcells x s) T_prod_producer :: SlR T_prod_seen 3 s (elSn.flat x.last) :: l) := by
  unfold PdR
  rw [sat_ex]
  exact ⟨fun ⟨s, h⟩ => ⟨s, sat_all.1 h⟩, fun ⟨s, h⟩ => ⟨s, sat_all.2 h⟩⟩
theorem sn_len {s : Sl} {xs : List Sn} (h : Sat W w (SlR T_prod_seen 3 s (elSn.flat xs) :: l)) : s.len = xs.length ∧ s.len ≤ s.cap ∧ s.cap < 2 ^ 63 := by
  have h1 := h.slLen
  have h2 : (elSn.flat xs).length = xs.length * 3 := flat_length (E := elSn) xs
  omega
theorem ab_len {s : Sl} {xs : List Ab} (h : Sat W w (SlR T_api_Abort 3 s (elAb.flat xs) :: l)) : s.len = xs.length ∧ s.len ≤ s.cap ∧ s.cap < 2 ^ 63 := by
  have h1 := h.slLen
  have h2 : (elAb.flat xs).length = xs.length * 3 := flat_length (E := elAb) xs
  omega
theorem ul_ps : P.underlying T_map_uint64_p_prod_producer = some (.map T_uint64 T_p_prod_producer) := by kernel_rfl
theorem ptNew_ok (h : Sat W w l) (hK : ∀ a w', Sat W w' (PtR a Pt9.new :: l) → K (.pointer (some ⟨a, 0, none⟩)) w') : CallP P F_prod_New [] w K := by
  apply c_prod_New
  unfold S_prod_New
  refine mkMap (k := T_uint64) (e := T_p_prod_producer) (by kernel_rfl) h .u64 (fun m w1 h1 => ?_) (fun w => by kernel_rfl)
  refine boxB h1 fun a w3 h2 => hK a w3 (sat_pt.2 ⟨m, ⟨none, 0, 0⟩, [], rfl, ?_⟩)
  have h2 : Sat W w3 (Blk a [.map (some m), .slice none 0 0] T_prod_Table :: MpR .u64 m [] :: l) := h2
  have h3 : Sat W w3 (SlR T_api_Abort 3 ⟨none, 0, 0⟩ [] :: Blk a [.map (some m), .slice none 0 0] T_prod_Table :: MpR .u64 m [] :: l) := Sat.nilSlr h2 T_api_Abort 3
  have h4 : Sat W w3 (All [] :: SlR T_api_Abort 3 ⟨none, 0, 0⟩ [] :: Blk a [.map (some m), .slice none 0 0] T_prod_Table :: MpR .u64 m [] :: l) := sat_alln.2 h3
  exact h4.sel 4 [2, 3, 0, 1]
/-- a producer, opened -/
theorem pd_open {m : Nat} {s : Sl} {es : List (Me Pd)} {i : Nat} {e : Me Pd} (hi : es[i]? = some e) (h : Sat W w (PtL a t m s es l)) : ∃ q, Sat W w (Blk e.p (pdcells e.x q) T_prod_producer :: SlR T_prod_seen 3 q (elSn.flat e.x.last) :: MpR .u64 m (es.map Me.kv) :: All ((es.map fun e => PdR e.p e.x).eraseIdx i) :: SlR T_api_Abort 3 s (elAb.flat t.ab) :: Blk a [.map (some m), s.v] T_prod_Table :: l) := by
  have h1 := mp_open hi (h.sel 4 [1, 2, 3, 0])
  obtain ⟨q, h2⟩ := sat_pd.1 h1
  exact ⟨q, h2⟩
theorem pd_close {m : Nat} {s q : Sl} {es : List (Me Pd)} {i : Nat} {e : Me Pd} {y : Pd} {ab : List Ab} (hi : es[i]? = some e) (h : Sat W w (Blk e.p (pdcells y q) T_prod_producer :: SlR T_prod_seen 3 q (elSn.flat y.last) :: MpR .u64 m (es.map Me.kv) :: All ((es.map fun e => PdR e.p e.x).eraseIdx i) :: SlR T_api_Abort 3 s (elAb.flat ab) :: Blk a [.map (some m), s.v] T_prod_Table :: l)) :
    Sat W w (PtR a ⟨(es.set i ⟨e.k, e.p, y⟩).map Me.kx, ab⟩ :: l) := by
  have h1 := mp_close (own := PdR) hi (y := y) (sat_pd.2 ⟨q, h⟩)
  exact sat_pt.2 ⟨m, s, _, rfl, h1.sel 4 [3, 0, 1, 2]⟩
theorem known_ok {n : Int} (h : Sat W w (PtR a t :: l)) (hK : ∀ w', Sat W w' (PtR a t :: l) → K (match t.find n with | some p => .tuple #[.int .i64 p.epoch, .int .i64 p.next, .int .i64 p.opn, .bool true] | none => .tuple #[.int .i64 0, .int .i64 0, .int .i64 0, .bool false]) w') :
    CallP P F_prod_Table_Known [.pointer (some ⟨a, 0, none⟩), .int .u64 n] w K := by
  apply c_prod_Table_Known
  unfold S_prod_Table_Known
  obtain ⟨m, s, es, hes, h1⟩ := sat_pt.1 h
  have hf : t.find n = getA (es.map Me.kx) n := by unfold Pt9.find; rw [hes]
  refine ⟨fun _ w' => w' = w ∧ (t.find n).isSome = true, ?_, ?_⟩
  · rintro _ w2 ⟨hw, hs⟩
    subst hw
    refine ldX h1 0 (x := some m) ?_
    refine mpLook ul_ps (by kernel_rfl) (fun w => by kernel_rfl) h1.tail (fun g0 _ _ => by rw [hf, g0] at hs; cases hs) fun i e hi hk hg _ => tyI (k := .ptr) (x := some ⟨e.p, 0, none⟩) ?_
    rw [hf, hg] at hK
    obtain ⟨q, h2⟩ := pd_open hi h1
    have h3 := h2.drew
    refine ldX h3 0 (x := e.x.epoch) ?_
    refine ldX h3 1 (x := e.x.next) ?_
    refine ldX h3 3 (x := e.x.opn) ?_
    have h4 := pd_close hi h3
    rw [mp_same hi, hes] at h4
    exact hK _ h4
  · refine ifB_intro (fun c => absurd c (by simp)) fun _ => ?_
    refine ldX h1 0 (x := some m) ?_
    refine mpLook ul_ps (by kernel_rfl) (fun w => by kernel_rfl) h1.tail (fun g0 _ _ => tyI (k := .ptr) (x := none) ?_) fun i e hi hk hg _ => tyI (k := .ptr) (x := some ⟨e.p, 0, none⟩) ?_
    · refine ifB_intro (fun _ => ?_) fun c => absurd c (by simp)
      rw [hf, g0] at hK
      exact hK w h
    · refine ifB_intro (fun c => absurd c (by simp)) fun _ => ⟨rfl, by rw [hf, hg]; rfl⟩
end
end Go.Proofs.YtnjadekngjgjcaaGreatDoor
