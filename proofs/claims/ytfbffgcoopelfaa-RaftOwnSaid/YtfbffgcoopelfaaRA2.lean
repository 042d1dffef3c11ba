/- The rows' openers of bytes and of numbers, and the bound. -/
import Derived.Test.YtfbffgcoopelfaaRA
import Derived.Test.YtfbffgcoopelfaaQC
namespace Go.Proofs.Ytfbffgcoopelfaa
open Go Go.Pk Go.ChangeShapes Go.WideShapes Go.ChangeAt Go.RowKit
theorem bulk_lits {H : Type} (k : IntKind) : ∀ (zs : List Int), Rows.uptoBulkAll (lits (H := H) k zs) = zs.length
  | [] => rfl
  | z :: zs => by
    have := bulk_lits (H := H) k zs
    simp only [lits, List.map_cons, Rows.uptoBulkAll, Rows.uptoBulk, List.length_cons] at this ⊢; omega
theorem open_bytes {H : Type} {enc : TypeId × Value → H} {P : Program} {W : World} {tt te : TypeId} {a : Option Addr} {len cap : Nat} {d : DataW H} {ps : List MemPlace}
    (ht : P.underlying tt = some (.slice te)) (he : P.underlying te = some (.int .u8)) (hc : P.cellsOf te = 1) (h : DataW.Trod enc P W 0 (fun _ => true) true tt (.slice a len cap) d ps) :
    ∃ t : List UInt8, RdC W ⟨a, len, cap⟩ 1 (t.map vB) ∧ t.length ≤ Rows.uptoBulk d := by
  obtain ⟨zs, hw, hr, hd⟩ := open_row ht he hc h
  obtain ⟨t, rfl⟩ := ints_bytes zs hw
  rw [List.map_map] at hr
  refine ⟨t, hr, ?_⟩
  rcases hd with ⟨_, h0⟩ | ⟨r, rfl⟩
  · simp at h0; subst h0; simp
  · simp only [Rows.uptoBulk, bulk_lits, List.length_map]; omega
theorem open_nums {H : Type} {enc : TypeId × Value → H} {P : Program} {W : World} {tt te : TypeId} {a : Option Addr} {len cap : Nat} {d : DataW H} {ps : List MemPlace}
    (ht : P.underlying tt = some (.slice te)) (he : P.underlying te = some (.int .i64)) (hc : P.cellsOf te = 1) (h : DataW.Trod enc P W 0 (fun _ => true) true tt (.slice a len cap) d ps) :
    ∃ t : List Int, (∀ i ∈ t, -9223372036854775808 ≤ i ∧ i < 9223372036854775808) ∧ RdC W ⟨a, len, cap⟩ 1 (t.map vI) ∧ t.length ≤ Rows.uptoBulk d := by
  obtain ⟨zs, hw, hr, hd⟩ := open_row ht he hc h
  refine ⟨zs, fun i hi => wf_i64 (hw i hi), hr, ?_⟩
  rcases hd with ⟨_, h0⟩ | ⟨r, rfl⟩
  · subst h0; simp
  · simp only [Rows.uptoBulk, bulk_lits]; omega
end Go.Proofs.Ytfbffgcoopelfaa
