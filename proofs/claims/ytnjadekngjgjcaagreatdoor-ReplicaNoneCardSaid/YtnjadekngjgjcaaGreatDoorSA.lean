/- The library's functions, by the kit's contracts: numerals, prefixes, copies of a string, sorting. -/
import Derived.Test.YtnjadekngjgjcaaGreatDoorE2
import Derived.Test.YtnjadekngjgjcaaGreatDoorN
import Derived.Test.YtnjadekngjgjcaaGreatDoorSh
import Derived.Lib.SmallJoins
namespace Go.Pk
open Go Go.Sort
section
variable {W w w' : World} {l : List Res}
theorem Sat.grownB (h : Sat W w l) (hb : RowKit.Below w.heap.size w w') : Sat W w' l := by
  have h1 : Sat W w (Pure True :: l) := sat_pure.2 ⟨trivial, h⟩
  refine (sat_pure.1 (h1.upd (R' := Pure True) hb.os hb.tape hb.output hb.size ?_)).2
  intro h0 _ _
  exact ⟨fun _ => none, trivial, (fun _ _ h => by cases h), fun b hb => absurd rfl hb, fun b hlt _ => hb.block b hlt⟩
theorem below_grow (w : World) (k : Nat) (os : Array Obj) : RowKit.Below w.heap.size w (grow (w.drewN k) os) :=
  ⟨rfl, rfl, rfl, by show w.heap.size ≤ (w.heap ++ os).size; simp, fun i hi => by
    show (w.heap ++ os)[i]? = _
    rw [Array.getElem?_append_left hi]⟩
/-- a block is sorted -/
theorem Sat.mapBlk {b : Nat} {cs cs' : List Value} {T : TypeId} {f : Array Value → Array Value} {n : Nat} {os : Array Obj} (h : Sat W w (Blk b cs T :: l)) (hf : f cs.toArray = cs'.toArray) (hl : cs'.length = cs.length) :
    Sat W (grow (mapBlock (Go.Sort.ahead w n) b f) os) (Blk b cs' T :: l) := by
  have hb := h.blk
  obtain ⟨fr, hbb, _⟩ := hb
  have h1 : Sat W (mapBlock w b f) (Blk b cs' T :: l) := by
    refine h.setBlk cs' hl ?_
    have : w.heap.modify b (onCells f) = w.heap.modify b fun | .cells _ t f => .cells cs'.toArray t f | o => o := by
      apply Array.ext_getElem?
      intro i
      simp only [Array.getElem?_modify]
      by_cases hi : b = i
      · subst hi
        simp only [if_true, hbb, Option.map_some, onCells, hf]
      · simp [hi]
    show ({ w with heap := w.heap.modify b (onCells f) } : World) = _
    rw [this]
    rfl
  have h2 : Sat W (mapBlock (Go.Sort.ahead w n) b f) (Blk b cs' T :: l) := ⟨h1.os, h1.tape, h1.output, h1.size, h1.star⟩
  exact h2.grownB (below_grow _ 0 os)
end
end Go.Pk
namespace Go.Proofs.YtnjadekngjgjcaaGreatDoor
open Go Go.Pk Go.Sort
/-- a string of bytes -/
abbrev vStr (a : List UInt8) : Value := .string ⟨a.toArray⟩
theorem et_strs : ET P T_sl_string T_string 1 16 := ET.of (by kernel_rfl)
/-- what the library's variables hold -/
structure Lai (W : World) (l : List Res) : Prop where
  tab : ∀ w, Sat W w l → Lib.TabIs P w "internal/strconv.uint64pow10" .u64 Lib.pow10Tab
  syn : ∀ w, Sat W w l → ∃ ev, w.cell? ⟨0, 0, none⟩ = some ev ∧ (ev = .nilIface ∨ ∃ te pe, ev = .iface te pe)
  rng : ∀ w, Sat W w l → ∃ ev, w.cell? ⟨1, 0, none⟩ = some ev ∧ (ev = .nilIface ∨ ∃ te pe, ev = .iface te pe)
section
variable {W w : World} {l : List Res} {K : Value → World → Prop}
theorem Lai.cons {R : Res} (h : Lai W l) : Lai W (R :: l) := ⟨fun w hw => h.tab w hw.tail, fun w hw => h.syn w hw.tail, fun w hw => h.rng w hw.tail⟩
theorem itoa_ok {n : Int} (h : Sat W w l) (hl : Lai W l) (h0 : -9223372036854775808 ≤ n) (h1 : n ≤ 9223372036854775807) (hK : ∀ w', Sat W w' l → K (vStr (Lib.itoa n)) w') : CallP P F_strconv_Itoa [.int .i64 n] w K :=
  (Tryz.strconv_Itoa n h0 h1 w (hl.tab w h)).mono fun e w' ⟨he, k, os, hw⟩ => ⟨_, he, hK w' (hw ▸ h.grownB (below_grow w k os))⟩
theorem repeat_ok {a : List UInt8} {c : Nat} (h : Sat W w l) (hc : c ≤ 1000000) (ha : a.length ≤ 1000000) (hK : ∀ w', Sat W w' l → K (vStr (Lib.repeatL a c)) w') : CallP P F_strings_Repeat [vStr a, .int .i64 (c : Int)] w K :=
  (Tryz.strings_Repeat ⟨a.toArray⟩ c w (by omega) (by
    have : a.length * c ≤ 1000000 * 1000000 := Nat.mul_le_mul ha hc
    show a.toArray.size * c ≤ _
    simp only [List.size_toArray]; omega)).mono fun e w' ⟨he, hw⟩ => ⟨_, he, hK w' (h.grownB hw)⟩
theorem hasPrefix_ok {a p : List UInt8} (hK : K (.bool (Lib.hasPrefix a p)) w) : CallP P F_strings_HasPrefix [vStr a, vStr p] w K :=
  (Tryz.strings_HasPrefix ⟨a.toArray⟩ ⟨p.toArray⟩ w).mono fun e w' ⟨he, hw⟩ => ⟨_, he, hw ▸ hK⟩
theorem trimPrefix_ok {a p : List UInt8} (hK : K (vStr (Lib.trimPrefix a p)) w) : CallP P F_strings_TrimPrefix [vStr a, vStr p] w K :=
  (Tryz.strings_TrimPrefix ⟨a.toArray⟩ ⟨p.toArray⟩ w).mono fun e w' ⟨he, hw⟩ => ⟨_, he, hw ▸ hK⟩
/-- a numeral is read: its value, or an error -/
theorem atoi_ok {a : List UInt8} (h : Sat W w l) (hl : Lai W l) (ha : a.length ≤ 1000000)
    (hK1 : ∀ v w', Lib.atoiAll a = .ok v → Sat W w' l → K (.tuple #[.int .i64 v, .nilIface]) w')
    (hK0 : ∀ v N w', (∀ u, Lib.atoiAll a ≠ .ok u) → Sat W w' l → K (.tuple #[.int .i64 v, .iface T_p_strconv_NumError (.pointer (some ⟨N, 0, none⟩))]) w') : CallP P F_strconv_Atoi [vStr a] w K := by
  have hs : (⟨a.toArray⟩ : ByteArray).size ≤ 1000000 := by show a.toArray.size ≤ _; simpa using ha
  have hd : (⟨a.toArray⟩ : ByteArray).data.toList = a := by simp
  cases hh : Lib.atoiAll a with
  | ok v =>
    refine (Tryz.strconv_Atoi_ok ⟨a.toArray⟩ (by omega) v (by rw [hd]; exact hh) w).mono fun e w' ⟨he, hw⟩ => ⟨_, he, hK1 v w' hh ?_⟩
    rcases hw with rfl | ⟨t, rfl⟩
    · exact h
    · exact h.grownB (Joins.below_bytesWorld _ w _ t (Nat.le_refl _))
  | range =>
    obtain ⟨ev, h1, h2⟩ := hl.rng w h
    refine (Tryz.strconv_Atoi_range ⟨a.toArray⟩ (by omega) (by rw [hd]; exact hh) ev w h1 h2).mono fun e w' ⟨N, he, _, _, hw⟩ => ⟨_, he, hK0 _ N w' (fun u hu => by rw [hh] at hu; cases hu) (h.grownB hw)⟩
  | _ =>
    obtain ⟨ev, h1, h2⟩ := hl.syn w h
    refine (Tryz.strconv_Atoi_bad ⟨a.toArray⟩ (by omega) (by rw [hd, hh]; exact ⟨fun v hv => (by cases hv), fun hv => (by cases hv)⟩) ev w h1 h2).mono fun e w' ⟨N, he, _, _, hw⟩ => ⟨_, he, hK0 _ N w' (fun u hu => by rw [hh] at hu; cases hu) (h.grownB hw)⟩
/-- strings are sorted -/
abbrev srt (l : List (List UInt8)) : List (List UInt8) := l.mergeSort fun x y => decide (x ≤ y)
theorem sort_ok {s : Sl} {xs : List (List UInt8)} (h : Sat W w (SlR T_string 1 s (xs.map vStr) :: l)) (hm : xs.length ≤ 1000000) (hK : ∀ w', Sat W w' (SlR T_string 1 s ((srt xs).map vStr) :: l) → K (.tuple #[]) w') : CallP P F_slices_Sort_string_string [s.v] w K := by
  have hlen := h.slLen.1
  simp only [List.length_map, Nat.mul_one] at hlen
  by_cases h0 : s.len = 0
  · have hx : xs = [] := List.length_eq_zero_iff.1 (by omega)
    subst hx
    have : s.v = .slice s.a 0 s.cap := by unfold Sl.v; rw [h0]
    rw [this]
    exact (Tryz.slices_Sort_string_none s.a s.cap w).mono fun e w' ⟨he, hw⟩ => ⟨_, he, hK w' (hw ▸ (by simpa [srt] using h))⟩
  · rcases h.slr with ⟨_, h2, _⟩ | ⟨g, o, cur, ha, hb, h2, h3, h4, h5, h6⟩
    · omega
    have hlt : g < w.heap.size := by
      obtain ⟨fr, hbb, _⟩ := hb.blk
      exact (Array.getElem?_eq_some_iff.1 hbb).1
    have hcur : ∀ j, j < xs.length → cur[o + j]? = (xs[j]?).map vStr := fun j hj => by
      have := congrArg (fun l => l[j]?) h5
      simp only [List.getElem?_map, List.getElem?_take, List.getElem?_drop, Nat.mul_one] at this
      rw [if_pos (by omega)] at this
      exact this.symm
    have hsv : s.v = .slice (some ⟨g, o, none⟩) xs.length s.cap := by unfold Sl.v; rw [ha, hlen]
    rw [hsv]
    refine (Tryz.slices_Sort_string g o s.cap xs w (fun j hj => ?_) hlt (by omega)).mono fun e w' ⟨he, n, os, hw⟩ => ⟨_, he, hK w' ?_⟩
    · have hj' : j < xs.length := by simpa using hj
      have hc := hb.cell (o + j)
      rw [hcur j hj', List.getElem?_eq_getElem hj'] at hc
      refine ⟨?_, hb.free (o + j) (by omega)⟩
      rw [hc]
      simp [getElem!_pos, hj']
    · subst hw
      have hsl : (srt xs).length = xs.length := by simp [srt]
      let cur' : List Value := cur.take o ++ (srt xs).map vStr ++ cur.drop (o + xs.length)
      have hb' := hb.mapBlk (f := putCells encStr o (srt xs).toArray) (cs' := cur') (n := n) (os := os) (by
        unfold putCells
        apply Array.toList_inj.1
        simp only [Array.toList_mapIdx, List.toList_toArray, List.size_toArray]
        apply List.ext_getElem?
        intro i
        simp only [List.getElem?_mapIdx, cur', List.getElem?_append, List.length_append, List.length_take, List.length_map, hsl]
        by_cases c1 : i < o
        · rw [if_pos (by omega), if_pos (by omega), List.getElem?_take, if_pos c1]
          cases cur[i]? with
          | none => rfl
          | some x => simp only [Option.map_some]; rw [if_neg (by omega)]
        · by_cases c2 : i < o + xs.length
          · rw [if_pos (by omega), if_neg (by omega)]
            have hi : i < cur.length := by omega
            rw [List.getElem?_eq_getElem hi]
            simp only [Option.map_some]
            rw [if_pos ⟨by omega, c2⟩]
            have hk : i - min o cur.length = i - o := by omega
            rw [hk, List.getElem?_map, List.getElem?_eq_getElem (by omega : i - o < (srt xs).length)]
            simp only [Option.map_some]
            congr 1
            rw [getElem!_pos _ _ (by simp; omega)]
            simp
          · rw [if_neg (by omega), List.getElem?_drop]
            have hk : o + xs.length + (i - (min o cur.length + xs.length)) = i := by omega
            rw [hk]
            cases cur[i]? with
            | none => rfl
            | some x => simp only [Option.map_some]; rw [if_neg (by omega)]) (by simp only [cur', List.length_append, List.length_take, List.length_map, List.length_drop, hsl]; omega)
      refine hb'.mkSlr ha (by omega) h3 ?_ ?_ ?_
      · simp only [cur', List.length_append, List.length_take, List.length_map, List.length_drop, hsl]; omega
      · apply List.ext_getElem?
        intro i
        simp only [Nat.mul_one, List.getElem?_take, List.getElem?_drop, cur', List.getElem?_append, List.length_append, List.length_take, List.length_map, hsl]
        by_cases c : i < s.len
        · rw [if_pos c, if_pos (by omega), if_neg (by omega)]
          congr 1; omega
        · rw [if_neg c, List.getElem?_eq_none (by simp [hsl]; omega)]
      · intro u hu
        simp only [cur', List.mem_append, List.mem_map] at hu
        rcases hu with (hu | ⟨x, _, rfl⟩) | hu
        · exact h6 u (List.mem_of_mem_take hu)
        · rfl
        · exact h6 u (List.mem_of_mem_drop hu)
end
end Go.Proofs.YtnjadekngjgjcaaGreatDoor
