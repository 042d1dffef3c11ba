/- Layer of separation: bytes and strings. -/
import Derived.Test.YtfbffgcoopelfaaPkS6
import Derived.Test.YtfbffgcoopelfaaQC
import Derived.Laws.IdiomStrings
import Derived.Laws.Strings
namespace Go.Pk
open Go
section
variable {W w : World} {l : List Res} {P : Program}
theorem run_mark {t e : TypeId} (ht : P.underlying t = some (.slice e)) (he : P.underlying e = some (.int .u8)) (w : World) (C : Array Value) (n : Nat) :
    (convert t t (.slice (some ⟨w.heap.size, 0, none⟩) n n)).run P (w.alloc (.cells C e)) = .ok (.slice (some ⟨w.heap.size, 0, none⟩) n n) (w.alloc (.cells C e (C.size, C.size + 1))) := by
  have hsh : (w.alloc (.cells C e)).shape? w.heap.size = some (e, C.size) := by
    have : (w.alloc (.cells C e)).heap[w.heap.size]? = some (.cells C e) := by
      show (w.heap.push (.cells C e))[w.heap.size]? = _
      simp
    unfold World.shape?
    rw [this]
  have hm : ∀ (a : Array Obj) (x : Obj) (f : Obj → Obj), (a.push x).modify a.size f = a.push (f x) := by
    intro a x f
    apply Array.ext
    · simp
    · intro i h1 h2
      simp only [Array.getElem_modify, Array.getElem_push]
      by_cases h : a.size = i
      · subst h
        simp
      · have hi : i < a.size := by simp at h1; omega
        simp [h, hi]
  have hfr : (w.alloc (.cells C e)).freeze ⟨w.heap.size, C.size, none⟩ 1 = w.alloc (.cells C e (C.size, C.size + 1)) := by
    unfold World.freeze
    rw [if_neg (by decide)]
    show ({ w.alloc (.cells C e) with heap := (w.heap.push (.cells C e)).modify w.heap.size _ } : World) = _
    rw [hm]
    rfl
  simp [convert, run_underlying ht, run_underlying he, markStringish, hsh, hfr]
/-- '[]byte("..")', written out -/
theorem bsMark {t e n : TypeId} {ps : Array (Nat × Value)} {cs : List Value} (ht : P.underlying t = some (.slice e)) (he : P.underlying e = some (.int .u8)) (h : Sat W w l)
    (hr : ∀ w, (Instr.buildSlice t n ps).run P w = .ok (.slice (some ⟨w.heap.size, 0, none⟩) n n) (w.alloc (.cells cs.toArray e))) {K : Sl → World → Prop}
    (hK : ∀ b w', Sat W w' (Blk b cs e :: l) → K ⟨some ⟨b, 0, none⟩, n, n⟩ w') :
    RunK .sl P (Instr.buildSlice t n ps) w fun s w1 => RunK .sl P (convert t t s.v) w1 K := by
  refine ⟨⟨some ⟨w.heap.size, 0, none⟩, n, n⟩, _, hr w, ⟨some ⟨w.heap.size, 0, none⟩, n, n⟩, _, run_mark ht he w cs.toArray n, hK _ _ ?_⟩
  have h' := h.new (.cells cs.toArray e (cs.toArray.size, cs.toArray.size + 1))
  obtain ⟨h1, h2, d, l1, l2, r, s⟩ := h'.star
  exact ⟨h'.os, h'.tape, h'.output, h'.size, h1, h2, d, l1, l2, ⟨_, r, by intro i hi; simp; omega⟩, s⟩
/-- 'string(b)' -/
theorem cvStr {t e ts : TypeId} (ht : P.underlying t = some (.slice e)) (he : P.underlying e = some (.int .u8)) (hs : P.underlying ts = some .string) {s : Sl} {b : List UInt8} (h : RdC w s 1 (b.map vB)) {K : ByteArray → World → Prop} (hK : K ⟨b.toArray⟩ w) :
    RunK .str P (convert t ts s.v) w K := by
  obtain ⟨h1, h2, h3, h4⟩ := h
  obtain ⟨sa, sl, sc⟩ := s
  simp only [List.length_map, Nat.mul_one] at h1 h2 h3 h4
  cases sa with
  | none =>
    have h5 := h3 rfl
    have h6 : b = [] := List.eq_nil_of_length_eq_zero (by omega)
    subst h6
    refine ⟨_, w, ?_, hK⟩
    rw [run_convert_bytes_string w t ts e none _ _ ht he hs]
    rfl
  | some a =>
    refine ⟨_, w, ?_, hK⟩
    have := run_convert_bytes_back (P := P) w t ts e a sc b ht he hs (fun j hj => by
      refine h4 a rfl j _ ?_
      simp [hj, vB])
    rw [h1] at this
    exact this
/-- '[]byte(s)' -/
theorem cvBytes {t e ts : TypeId} (ht : P.underlying t = some (.slice e)) (he : P.underlying e = some (.int .u8)) (hs : P.underlying ts = some .string) (h : Sat W w l) {b : ByteArray} (hb : b.data.toList.length ≤ 140737488355328) {K : Sl → World → Prop}
    (hK : ∀ s w', Sat W w' (SlR e 1 s (b.data.toList.map vB) :: l) → K s w') :
    RunK .sl P (convert ts t (.string b)) w K := by
  refine ⟨_, _, run_bytes_of_string w ts t e b hs ht he, hK ⟨some ⟨w.heap.size, 0, none⟩, b.size, grownCap w b.size 0 e⟩ _ ?_⟩
  have hge := grownCap_ge w b.size 0 e
  have hbs : b.size = b.data.toList.length := by rw [Array.length_toList]; rfl
  have hmax := grownCap_le_maxLen w b.size 0 e (by unfold maxLen; omega)
  have hrow : (bytesRow b (grownCap w b.size 0 e)).size = grownCap w b.size 0 e := by
    simp only [bytesRow, Array.size_append, Array.size_map, Array.size_replicate]
    have : b.data.size = b.size := rfl
    omega
  have h' := h.drew.new (.cells (bytesRow b (grownCap w b.size 0 e)) e ((bytesRow b (grownCap w b.size 0 e)).size, (bytesRow b (grownCap w b.size 0 e)).size + 1))
  have h2 : Sat W (w.drew.alloc (.cells (bytesRow b (grownCap w b.size 0 e)) e ((bytesRow b (grownCap w b.size 0 e)).size, (bytesRow b (grownCap w b.size 0 e)).size + 1))) (Blk w.heap.size (bytesRow b (grownCap w b.size 0 e)).toList e :: l) := by
    obtain ⟨h1, h2, d, l1, l2, r, s⟩ := h'.star
    exact ⟨h'.os, h'.tape, h'.output, h'.size, h1, h2, d, l1, l2, ⟨_, by simpa [Pt] using r, by intro i hi; simp at hi; simp; omega⟩, s⟩
  refine h2.mkSlr rfl hge ?_ ?_ ?_ ?_
  · unfold maxLen at hmax
    show grownCap w b.size 0 e < 2 ^ 63
    omega
  · simp [hrow]
  · simp only [List.drop_zero, Nat.mul_one, bytesRow, Array.toList_append, Array.toList_map]
    have hl : (List.map (fun b : UInt8 => Value.int .u8 b.toNat) b.data.toList).length = b.size := by rw [List.length_map, hbs]
    rw [List.take_append_of_le_length (by rw [hl]; exact Nat.le_refl _), List.take_of_length_le (by rw [hl]; exact Nat.le_refl _)]
    rfl
  · intro u hu
    simp only [bytesRow, Array.toList_append, Array.toList_map, Array.toList_replicate, List.mem_append, List.mem_map, List.mem_replicate] at hu
    rcases hu with ⟨x, _, rfl⟩ | ⟨_, rfl⟩ <;> rfl
theorem str_eq (a b : List UInt8) : (ByteArray.toList ⟨a.toArray⟩ == ByteArray.toList ⟨b.toArray⟩) = decide (a = b) := by
  rw [ByteArray.toList_mk, ByteArray.toList_mk]
  by_cases h : a = b
  · subst h; simp
  · simp [h]
end
end Go.Pk
