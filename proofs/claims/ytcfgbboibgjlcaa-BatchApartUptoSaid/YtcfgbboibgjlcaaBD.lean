/- Layer 7: values of one's own; a batch is copied. -/
import Derived.Test.YtcfgbboibgjlcaaBC
namespace Go.Proofs.Ytcfgbboibgjlcaa
open Go Go.Pk
def vals (ss : List Sl) (bs : List (List UInt8)) : List Res := (ss.zip bs).map fun p => BsR p.1 p.2
/-- values of one's own -/
def VsR (vs : Sl) (ss : List Sl) (bs : List (List UInt8)) : Res := All [SlR T_sl_uint8 1 vs (ss.map Sl.v), All (vals ss bs)]
section
variable {W w : World} {l : List Res} {K : Value → World → Prop} {d : Dc} {vs : Sl} {ss : List Sl} {bs : List (List UInt8)}
theorem sat_vs : Sat W w (VsR vs ss bs :: l) ↔ Sat W w (SlR T_sl_uint8 1 vs (ss.map Sl.v) :: All (vals ss bs) :: l) := sat_all
theorem vals_snoc {s : Sl} {b : List UInt8} (hl : ss.length = bs.length) (h : Sat W w (BsR s b :: All (vals ss bs) :: l)) : Sat W w (All (vals (ss ++ [s]) (bs ++ [b])) :: l) := by
  have h1 := sat_all.1 h.swap
  rw [sat_all]
  have e : vals (ss ++ [s]) (bs ++ [b]) = vals ss bs ++ [BsR s b] := by
    simp only [vals]
    rw [List.zip_append hl]
    simp
  rw [e, List.append_assoc]
  exact h1
theorem sat_mem {R : Res} {m : List Res} (hm : R ∈ m) (h : Sat W w (All m :: l)) : ∃ l', Sat W w (R :: l') := by
  obtain ⟨a, b, rfl⟩ := List.append_of_mem hm
  have h1 := sat_all.1 h
  rw [List.append_assoc] at h1
  exact ⟨_, h1.perm List.perm_middle⟩
theorem Rd.vsHead : Rd W (VsR vs ss bs :: l) vs 1 (ss.map Sl.v) := fun w h => (sat_vs.1 h).rdc
theorem Rd.vsOne {i : Nat} {s : Sl} {b : List UInt8} (h1 : ss[i]? = some s) (h2 : bs[i]? = some b) : Rd W (VsR vs ss bs :: l) s 1 (b.map vB) := by
  intro w h
  have hm : BsR s b ∈ vals ss bs := by
    simp only [vals]
    refine List.mem_map.2 ⟨(s, b), ?_, rfl⟩
    refine List.mem_of_getElem? (i := i) ?_
    rw [List.getElem?_zip_eq_some]
    exact ⟨h1, h2⟩
  obtain ⟨l', h'⟩ := sat_mem hm (sat_vs.1 h).tail
  exact h'.rdc
theorem VRd.own (hl : ss.length = bs.length) {d : Dc} : VRd W (VsR vs ss bs :: l) { d with vs := vs, ss := ss, bs := bs } :=
  ⟨Rd.vsHead, hl, fun i s b h1 h2 => Rd.vsOne h1 h2⟩
theorem copy_ok (h : Sat W w l) (hv : VRd W l d) (hb : d.bs.length < 2 ^ 40) (hb2 : ∀ b ∈ d.bs, b.length ≤ 140737488355328)
    (hK : ∀ vs ss w', ss.length = d.bs.length → Sat W w' (VsR vs ss d.bs :: l) → K (.agg ({ d with vs := vs, ss := ss } : Dc).cells.toArray) w') : CallP P F_ref07_Copy [.agg d.cells.toArray] w K := by
  apply c_ref07_Copy
  unfold S_ref07_Copy
  refine boxB h fun a w1 h1 => ?_
  have hA : Sat W w1 (Blk a d.cells 66 :: l) := h1
  have hl := hv.len h
  refine allocB hA (z := .agg #[.int .i64 0, .int .i64 0, .int .u64 0, .int .i64 0, .int .i64 0, .bool false, .bool false, .bool false, .slice none 0 0]) (by kernel_rfl) fun a2 w2 h2 => ?_
  have hs : Sat W w2 (VsR ⟨none, 0, 0⟩ [] [] :: Blk a d.cells 66 :: Blk a2 [.int .i64 0, .int .i64 0, .int .u64 0, .int .i64 0, .int .i64 0, .bool false, .bool false, .bool false, .slice none 0 0] 66 :: l) := by
    refine sat_vs.2 (Sat.nilSlr ?_ T_sl_uint8 1)
    exact sat_all.2 h2.swap
  refine ⟨fun z w' => ∃ (i : Nat) (ss : List Sl), z.2.1 = i ∧ i ≤ d.bs.length ∧ ss.length = i ∧ Sat W w' (VsR z.1 ss (d.bs.take i) :: Blk a d.cells 66 :: Blk a2 [.int .i64 0, .int .i64 0, .int .u64 0, .int .i64 0, .int .i64 0, .bool false, .bool false, .bool false, .slice none 0 0] 66 :: l), fun z _ => d.bs.length - z.2.1.toNat,
    ⟨0, [], rfl, by omega, rfl, hs⟩, ?_⟩
  rintro ⟨s, i', u⟩ w3 ⟨i, ss, hi, hil, hsl, h3⟩
  simp only at hi h3 ⊢
  subst hi
  refine ldB h3.swap (o := 0) ?_
  refine ifB_dec (fun hlt => ?_) fun hge => ?_
  · have hi1 : i < d.bs.length := by omega
    refine ldB h3.swap (o := 0) ?_
    refine (hv.cons.cons.cons).ld h3 hi1 fun s1 hs1 hs1l hr => ?_
    refine appBytes (s := ⟨none, 0, 0⟩) (o := []) (Sat.nilSlr h3 T_uint8 1) (hr w3 h3) (by simpa using hb2 _ (List.getElem_mem hi1)) fun s2 w4 h4 => ?_
    rw [List.nil_append] at h4
    have h5 := sat_vs.1 h4.swap
    have hle := h5.slLen
    simp only [List.length_map, Nat.mul_one] at hle
    refine app1 et_vs h5 rfl (by omega) (by omega) fun s3 w5 h6 _ => ?_
    have h8 : Sat W w5 (VsR s3 (ss ++ [s2]) (d.bs.take (i + 1)) :: Blk a d.cells 66 :: Blk a2 [.int .i64 0, .int .i64 0, .int .u64 0, .int .i64 0, .int .i64 0, .bool false, .bool false, .bool false, .slice none 0 0] 66 :: l) := by
      have e : d.bs.take (i + 1) = d.bs.take i ++ [d.bs[i]] := by rw [List.take_add_one, List.getElem?_eq_getElem hi1]; rfl
      rw [e]
      refine sat_vs.2 ?_
      have h9 := vals_snoc (l := SlR T_sl_uint8 1 s3 ((ss ++ [s2]).map Sl.v) :: Blk a d.cells 66 :: Blk a2 [.int .i64 0, .int .i64 0, .int .u64 0, .int .i64 0, .int .i64 0, .bool false, .bool false, .bool false, .slice none 0 0] 66 :: l) (ss := ss) (bs := d.bs.take i) (s := s2) (b := d.bs[i]) (by simp; omega)
        (by
          have h6' : Sat W w5 (SlR T_sl_uint8 1 s3 ((ss ++ [s2]).map Sl.v) :: All (vals ss (d.bs.take i)) :: BsR s2 d.bs[i] :: Blk a d.cells 66 :: Blk a2 [.int .i64 0, .int .i64 0, .int .u64 0, .int .i64 0, .int .i64 0, .bool false, .bool false, .bool false, .slice none 0 0] 66 :: l) := by
            rw [List.map_append]; exact h6
          exact h6'.rot3.swap.rot3 |> fun _ => h6'.perm ((List.Perm.swap _ _ _).trans ((List.Perm.cons _ (List.Perm.swap _ _ _)).trans (List.Perm.swap _ _ _))))
      exact h9.swap
    rw [w_i64 (by omega) (by omega)]
    exact ⟨⟨i + 1, ss ++ [s2], rfl, by omega, by simp [hsl], h8⟩, by omega⟩
  · have hii : d.bs.take i = d.bs := List.take_of_length_le (by omega)
    rw [hii] at h3
    refine stB h3.swap (i := 8) (v := s.v) (hi := (by show 8 < 9; decide)) fun w4 h4 => ?_
    have h5 : Sat W w4 (Blk a ({ d with vs := s, ss := ss } : Dc).cells 66 :: VsR s ss d.bs :: Blk a2 [.int .i64 0, .int .i64 0, .int .u64 0, .int .i64 0, .int .i64 0, .bool false, .bool false, .bool false, .slice none 0 0] 66 :: l) := h4
    refine ldAggB h5 (by kernel_rfl) ?_
    refine stAggB (cs' := ({ d with vs := s, ss := ss } : Dc).cells) h5.rot3 rfl ?_ (by kernel_rfl) fun w5 h6 => ?_
    · intro u hu
      simp only [Dc.cells, List.mem_cons, List.not_mem_nil, or_false] at hu
      rcases hu with rfl | rfl | rfl | rfl | rfl | rfl | rfl | rfl | rfl <;> rfl
    · exact ldAggB h6 (by kernel_rfl) (hK s ss w5 (by omega) h6.tail.tail)
end
end Go.Proofs.Ytcfgbboibgjlcaa
