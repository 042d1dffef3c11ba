/- Worlds by parts: more rules. -/
import Derived.Test.YtfbffgcoopelfaaPkS2
namespace Go.Pk
open Go
theorem ifB_intro {t : Bool} {A B : Prop} (h1 : t = true → A) (h2 : t = false → B) : ifB t A B := by
  cases t
  · exact h2 rfl
  · exact h1 rfl
theorem ifB_false {A B : Prop} : ifB false A B = B := rfl
theorem ifB_true {A B : Prop} : ifB true A B = A := rfl
theorem ifB_dec {c : Prop} [Decidable c] {A B : Prop} (h1 : c → A) (h2 : ¬ c → B) : ifB (decide c) A B :=
  ifB_intro (fun h => h1 (of_decide_eq_true h)) (fun h => h2 (of_decide_eq_false h))
theorem ifB_beq {a b : Int} {A B : Prop} (h1 : a = b → A) (h2 : a ≠ b → B) : ifB (a == b) A B :=
  ifB_intro (fun h => h1 (by simpa using h)) (fun h => h2 (by simpa using h))
theorem ifB_bne {a b : Int} {A B : Prop} (h1 : a ≠ b → A) (h2 : a = b → B) : ifB (a != b) A B :=
  ifB_intro (fun h => h1 (by simpa using h)) (fun h => h2 (by simpa using h))
theorem ifB_not {t : Bool} {A B : Prop} (h : ifB t B A) : ifB (!t) A B := by cases t <;> exact h
theorem callK {P : Program} {f : FuncId} {args : List Value} {w : World} {K K' : Value → World → Prop} (h : CallP P f args w K') (hk : ∀ v w', K' v w' → K v w') : CallP P f args w K :=
  Calls.mono h fun e w' ⟨v, he, hv⟩ => ⟨v, he, hk v w' hv⟩
section
variable {W w : World} {l : List Res} {P : Program}
theorem rdBlk {g : Nat} {cs : List Value} {T : TypeId} (h : Sat W w (Blk g cs T :: l)) {n sz : Nat} (hn : cs.length = n * sz) : RdC w ⟨some ⟨g, 0, none⟩, n, n⟩ sz cs := by
  refine ⟨hn, Nat.le_refl _, (fun h => (by cases h)), fun a ha j u hu => ?_⟩
  cases ha
  rw [add_add, Nat.zero_add, h.cell]; exact hu
theorem run_bs1 {t e by_ : Nat} (et : ET P t e 1 by_) {v : Value} (hv : v.oneCell' = true) (w : World) :
    (Instr.buildSlice t 1 #[(0, v)]).run P w = .ok (.slice (some ⟨w.heap.size, 0, none⟩) 1 1) (w.alloc (.cells #[v] e)) := by
  obtain ⟨ht, i, z, hi, hz, hsz, hzs, hby, hzo⟩ := et
  have hc := oneCell_cells hv
  simp [Instr.buildSlice, run_underlying ht, sizeOf, typeInfo, zeroValue, program, Sem.run, hi, hsz, hz, Instr.fill, hc, newRow, newObj]
  have h1 : Array.range 1 = #[0] := rfl
  rw [h1]
  congr 2
  apply Array.toList_inj.1
  simp
/-- one element of one cell is laid behind -/
theorem app1 {t e by_ : Nat} (et : ET P t e 1 by_) {s : Sl} {xs : List Value} {ty : TypeId} {v : Value} (h : Sat W w (SlR e 1 s xs :: l)) (hv : v.oneCell' = true)
    (hb : (s.len + 1) * by_ ≤ 140737488355328) (hm : s.len + 1 < 2 ^ 63) {K : Sl → World → Prop}
    (hK : ∀ s' w', Sat W w' (SlR e 1 s' (xs ++ [v]) :: l) → s'.len = s.len + 1 → K s' w') :
    RunK .sl P (Instr.buildSlice t 1 #[(0, v)]) w fun s5 w6 => RunK .sl P (Builtin.append_ #[t, t] ty #[s.v, s5.v]) w6 K := by
  refine bsB h (cs := [v]) (e := e) (fun w => run_bs1 et hv w) ?_
  intro g w1 h1
  refine appB et (by decide) (s := s) (x := ⟨some ⟨g, 0, none⟩, 1, 1⟩) h1.swap (rdBlk h1 rfl) (by simpa using hv) hb hm fun s' w' h2 hl => hK s' w' h2.drop2 hl
end
end Go.Pk
