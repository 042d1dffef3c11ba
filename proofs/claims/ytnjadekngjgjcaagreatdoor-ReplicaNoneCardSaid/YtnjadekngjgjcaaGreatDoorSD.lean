/- Layer 4: frames. -/
import Derived.Test.YtnjadekngjgjcaaGreatDoorSC
import Derived.Test.YtnjadekngjgjcaaGreatDoorE3
namespace Go.Pk
open Go
/-- a payload, framed -/
def frm (p : List UInt8) : List UInt8 := fixedB p.length ++ fixedB (crc p).toNat ++ p
/-- the frame at the front: the payload, the bytes that it takes, the error -/
def fdec (b : List UInt8) : List UInt8 × Int × Int :=
  let r := takeX (b.take 8) 0 0
  let s := takeX (b.take 8) r.2.1 r.2.2
  if s.2.2 ≠ 0 then ([], 0, 6) else if r.1 > 4096 then ([], 0, 2) else if (b.length : Int) - 8 < r.1 then ([], 0, 6) else
  if (crc ((b.drop 8).take r.1)).toNat ≠ s.1 then ([], 0, 8) else ((b.drop 8).take r.1, 8 + r.1, 0)
theorem takeX_le {t : List UInt8} {p : Nat} {e : Int} (hp : p ≤ t.length) : (takeX t p e).2.1 ≤ t.length := by
  unfold takeX
  split
  · exact hp
  · split
    · exact hp
    · simp only; omega
theorem frm_len (p : List UInt8) : (frm p).length = 8 + p.length := by simp [frm, fixedB]; omega
theorem crc_lt (p : List UInt8) : (crc p).toNat < 2 ^ 32 := (crc p).isLt
end Go.Pk
namespace Go.Proofs.YtnjadekngjgjcaaGreatDoor
open Go Go.Pk
/-- a framer -/
def FrR (b : Nat) : Res := Ex fun t : Nat => All [Blk b [.pointer (some ⟨t, 0, none⟩)] T_frame_Framer, TbR t]
section
variable {W w : World} {l : List Res} {K : Value → World → Prop} {b : Nat}
theorem sat_fr : Sat W w (FrR b :: l) ↔ ∃ t, Sat W w (Blk b [.pointer (some ⟨t, 0, none⟩)] T_frame_Framer :: TbR t :: l) := by
  unfold FrR
  rw [sat_ex]
  constructor
  · rintro ⟨t, h⟩; exact ⟨t, sat_all.1 h⟩
  · rintro ⟨t, h⟩; exact ⟨t, sat_all.2 h⟩
theorem cpBytes0 {x : Sl} {n : List UInt8} {ty : TypeId} {K : Sl → World → Prop} (h : Sat W w l) (hx : RdC w x 1 (n.map vB)) (hb : n.length ≤ 140737488355328) (hK : ∀ s w', Sat W w' (BsR s n :: l) → K s w') :
    RunK .sl P (Builtin.append_ #[T_sl_uint8, T_sl_uint8] ty #[.slice none 0 0, x.v]) w K :=
  appBytes (s := ⟨none, 0, 0⟩) (o := []) (Sat.nilSlr h T_uint8 1) hx (by simpa using hb) fun s w' h' => hK s w' (by simpa using h')
theorem fnew_ok (h : Sat W w l) (hK : ∀ b w', Sat W w' (FrR b :: l) → K (.pointer (some ⟨b, 0, none⟩)) w') : CallP P F_frame_New [] w K := by
  apply c_frame_New
  unfold S_frame_New
  refine crcNew_ok h fun t w1 h1 => tyI (k := .ptr) ?_
  refine boxB h1 fun b w2 h2 => ?_
  exact hK b w2 (sat_fr.2 ⟨t, h2⟩)
theorem fencode_ok {x : Sl} {p : List UInt8} (h : Sat W w (FrR b :: l)) (hx : Rd W l x 1 (p.map vB)) (hp : p.length ≤ 4096) (hK : ∀ s w', Sat W w' (BsR s (frm p) :: FrR b :: l) → K (.tuple #[s.v, .int .i64 0]) w') :
    CallP P F_frame_Framer_Encode [.pointer (some ⟨b, 0, none⟩), x.v] w K := by
  apply c_frame_Framer_Encode
  unfold S_frame_Framer_Encode
  rw [show Option.isNone (some (⟨b, 0, none⟩ : Addr)) = false from rfl]
  have hxl : x.len = p.length := by have := (hx w h.tail).1; simp at this; omega
  refine ifB_dec (fun hc => absurd hc (by omega)) fun _ => ?_
  refine newWriter_ok h fun y w1 h1 => tyI (k := .ptr) ?_
  have e1 : IntKind.u32.wrap (x.len : Int) = (p.length : Int) := by rw [hxl]; simp [IntKind.wrap, IntKind.signed, IntKind.bits]; omega
  rw [e1]
  refine wFixed_ok h1 (by omega) (by omega) (by simp) fun w2 h2 => tupU rfl ?_
  obtain ⟨t, h3⟩ := sat_fr.1 h2.swap
  refine ldX h3 0 (x := some ⟨t, 0, none⟩) ?_
  refine sum_ok (h3.up 1) ((hx.cons).cons) (by omega) fun w3 h4 => tyI (k := .int .u32) ?_
  have h5 : Sat W w3 (WrR y ([] ++ fixedB (p.length : Int).toNat) 0 :: TbR t :: Blk b [.pointer (some ⟨t, 0, none⟩)] T_frame_Framer :: l) := h4.up 2
  have hcr := crc_lt p
  refine wFixed_ok h5 (by omega) (by omega) (by simp [fixedB]) fun w4 h6 => tupU rfl ?_
  refine wOut_ok h6 (by simp [fixedB]) (fun hne => absurd rfl hne) fun _ s w5 h7 => ⟨(s, 0, ()), rfl, ?_⟩
  refine appBytes h7 (hx w5 (h7.sel 4 [])) (by simp [fixedB]; omega) fun s' w6 h8 => ?_
  refine hK s' w6 ?_
  have e2 : [] ++ fixedB (p.length : Int).toNat ++ fixedB ((crc p).toNat : Int).toNat ++ p = frm p := by simp [frm]
  rw [e2] at h8
  have h9 : Sat W w6 (Blk b [.pointer (some ⟨t, 0, none⟩)] T_frame_Framer :: TbR t :: BsR s' (frm p) :: l) := h8.sel 4 [3, 2, 0]
  exact (sat_fr.2 ⟨t, h9⟩).swap
theorem fdecode_ok {x : Sl} {q : List UInt8} (h : Sat W w (FrR b :: l)) (hx : Rd W l x 1 (q.map vB)) (hq : q.length ≤ 140737488355328)
    (h0 : (fdec q).2.2 ≠ 0 → ∀ w', Sat W w' (FrR b :: l) → K (.tuple #[.slice none 0 0, .int .i64 0, .int .i64 (fdec q).2.2]) w')
    (h1 : (fdec q).2.2 = 0 → ∀ s w', Sat W w' (BsR s (fdec q).1 :: FrR b :: l) → K (.tuple #[s.v, .int .i64 (fdec q).2.1, .int .i64 0]) w') :
    CallP P F_frame_Framer_Decode [.pointer (some ⟨b, 0, none⟩), x.v] w K := by
  apply c_frame_Framer_Decode
  unfold S_frame_Framer_Decode
  rw [show Option.isNone (some (⟨b, 0, none⟩ : Addr)) = false from rfl]
  have hxr := hx w h.tail
  have hxl : x.len = q.length := by have := hxr.1; simp at this; omega
  have hcap := hxr.2.1
  have e1 : (if (8 : Int) < (x.len : Int) then (8 : Int) else (x.len : Int)) = ((min 8 x.len : Nat) : Int) := by split <;> omega
  rw [e1]
  refine ⟨⟨x.a, min 8 x.len, x.cap⟩, run_sliceHi (s := x) (hi := ((min 8 x.len : Nat) : Int)) et_bytes (by omega) (by omega) _, ?_⟩
  have hx8 : Rd W (FrR b :: l) ⟨x.a, min 8 x.len, x.cap⟩ 1 ((q.take 8).map vB) := fun w hw => by
    have := (hx w hw.tail).hi (n := min 8 x.len) (by omega)
    have e : (q.map vB).take (min 8 x.len * 1) = (q.take 8).map vB := by
      rw [Nat.mul_one, List.map_take]
      by_cases c : 8 ≤ x.len
      · rw [show min 8 x.len = 8 by omega]
      · rw [show min 8 x.len = x.len by omega, List.take_of_length_le (by simp; omega), List.take_of_length_le (by simp; omega)]
    rw [e] at this
    exact this
  refine newReader_ok h hx8 (by simp; omega) fun y w1 h2 => tyI (k := .ptr) ?_
  have t8 : (q.take 8).length ≤ 140737488355328 := by simp; omega
  let r := takeX (q.take 8) 0 0
  let s := takeX (q.take 8) r.2.1 r.2.2
  have hr1 : r.2.1 ≤ (q.take 8).length := takeX_le (Nat.zero_le _)
  have hs1 : s.2.1 ≤ (q.take 8).length := takeX_le hr1
  have hfd : fdec q = if s.2.2 ≠ 0 then ([], (0 : Int), (6 : Int)) else if r.1 > 4096 then ([], 0, 2) else if (q.length : Int) - 8 < r.1 then ([], 0, 6) else if (crc ((q.drop 8).take r.1)).toNat ≠ s.1 then ([], 0, 8) else ((q.drop 8).take r.1, (8 : Int) + (r.1 : Int), 0) := rfl
  refine dFixed_ok h2 (Nat.zero_le _) t8 fun w2 h3 => tyI (k := .int .u32) ?_
  refine dFixed_ok h3 hr1 t8 fun w3 h4 => tyI (k := .int .u32) ?_
  refine dState_ok h4 hs1 fun w4 h5 => ⟨(_, _, s.2.2, ()), rfl, ?_⟩
  have h6 : Sat W w4 (FrR b :: l) := h5.tail
  refine ifB_bne (fun c => ?_) fun c => ?_
  · rw [if_pos c] at hfd
    rw [hfd] at h0
    exact h0 (by decide) w4 h6
  rw [if_neg (by simpa using c)] at hfd
  refine ifB_dec (fun c2 => ?_) fun c2 => ?_
  · have c2' : r.1 > 4096 := by have : ((r.1 : Nat) : Int) > 4096 := c2; omega
    rw [if_pos c2'] at hfd
    rw [hfd] at h0
    exact h0 (by decide) w4 h6
  have c2' : ¬ r.1 > 4096 := by have : ¬ ((r.1 : Nat) : Int) > 4096 := c2; omega
  rw [if_neg c2'] at hfd
  rw [w_i64 (n := (x.len : Int) - 8) (by omega) (by omega), w_i64 (n := ((takeX (List.take 8 q) 0 0).1 : Int)) (by omega) (by show (r.1 : Int) < _; omega)]
  refine ifB_dec (fun c3 => ?_) fun c3 => ?_
  · have c3' : (q.length : Int) - 8 < r.1 := by have : (x.len : Int) - 8 < (r.1 : Int) := c3; omega
    rw [if_pos c3'] at hfd
    rw [hfd] at h0
    exact h0 (by decide) w4 h6
  have c3' : ¬ (q.length : Int) - 8 < r.1 := by have : ¬ (x.len : Int) - 8 < (r.1 : Int) := c3; omega
  rw [if_neg c3'] at hfd
  have e8 : IntKind.i64.wrap (8 + ((takeX (List.take 8 q) 0 0).1 : Int)) = ((8 + r.1 : Nat) : Int) := by
    show IntKind.i64.wrap (8 + (r.1 : Int)) = _
    rw [w_i64 (by omega) (by omega)]; omega
  rw [e8]
  refine ⟨⟨if x.cap = 8 then x.a else x.a.map (·.add (8 * 1)), (8 + r.1) - 8, x.cap - 8⟩, run_slice (s := x) (lo := 8) (hi := ((8 + r.1 : Nat) : Int)) et_bytes (by omega) (by omega) (by omega) _, ?_⟩
  have hrd := (hx w4 h6.tail).sub (lo := 8) (hi := 8 + r.1) (by omega) (by omega)
  have e9 : ((q.map vB).drop (8 * 1)).take ((8 + r.1 - 8) * 1) = ((q.drop 8).take r.1).map vB := by
    rw [Nat.mul_one, Nat.mul_one, show 8 + r.1 - 8 = r.1 by omega, List.map_take, List.map_drop]
  rw [e9] at hrd
  refine cpBytes0 h6 hrd (by simp; omega) fun s14 w5 h7 => ?_
  obtain ⟨t, h8⟩ := sat_fr.1 h7.swap
  refine ldX h8 0 (x := some ⟨t, 0, none⟩) ?_
  have h9 : Sat W w5 (TbR t :: BsR s14 ((q.drop 8).take r.1) :: Blk b [.pointer (some ⟨t, 0, none⟩)] T_frame_Framer :: l) := h8.sel 3 [1, 2, 0]
  refine sum_ok h9 Rd.own (by simp; omega) fun w6 h10 => tyI (k := .int .u32) ?_
  have h11 : Sat W w6 (Blk b [.pointer (some ⟨t, 0, none⟩)] T_frame_Framer :: TbR t :: BsR s14 ((q.drop 8).take r.1) :: l) := h10.sel 3 [2, 0, 1]
  have h12 := sat_fr.2 ⟨t, h11⟩
  refine ifB_bne (fun c4 => ?_) fun c4 => ?_
  · have c4' : (crc ((q.drop 8).take r.1)).toNat ≠ s.1 := fun hh => c4 (by rw [hh])
    rw [if_pos c4'] at hfd
    rw [hfd] at h0
    exact h0 (by decide) w6 (h12.cut 1)
  · have c4' : ¬ (crc ((q.drop 8).take r.1)).toNat ≠ s.1 := fun hh => hh (by exact_mod_cast c4)
    rw [if_neg c4'] at hfd
    rw [hfd] at h1
    have := h1 rfl s14 w6 h12.swap
    exact this
end
end Go.Proofs.YtnjadekngjgjcaaGreatDoor
