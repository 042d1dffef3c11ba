/- What the library's variables hold: from the row's list; and a world that holds it. -/
import Derived.Test.YtnjadekngjgjcaaGreatDoorCards
import Derived.Test.YtnjadekngjgjcaaGreatDoorTie
import Derived.Test.YtnjadekngjgjcaaGreatDoorRO
import Derived.Test.YtnjadekngjgjcaaGreatDoorSA
import Derived.Deep.DeepHandedRow
import Derived.Lib.LaidTab
import Derived.Lib.LaidIn
import Derived.Stop.LaidErr
import Derived.ProofKit
import Derived.WalkKit
namespace Go.Proofs.YtnjadekngjgjcaaGreatDoor
open Go Go.Pk Go.Lib
abbrev laidAll : List (String × DataW Unit) := [("math/bits.deBruijn32tab", Rows.laid_math_bits_deBruijn32tab), ("math/bits.deBruijn64tab", Rows.laid_math_bits_deBruijn64tab), ("internal/strconv.uint64pow10", Rows.laid_internal_strconv_uint64pow10), ("strconv.ErrRange", Rows.laid_strconv_ErrRange), ("strconv.ErrSyntax", Rows.laid_strconv_ErrSyntax)]
theorem pow_tab : (Rows.laid_internal_strconv_uint64pow10 : DataW Unit) = tabData .u64 pow10Tab := by rfl
theorem tab_old {W w : World} {name : String} {k : IntKind} {zs : List Int} (h : TabIs Tryz.prog W name k zs) (hw : Sat W w [Old W]) : TabIs Tryz.prog w name k zs := by
  unfold TabIs World.var? at h ⊢
  cases hg : Tryz.prog.globalNamed name with
  | none => simp [hg] at h
  | some g =>
    simp only [hg, Option.bind_some] at h ⊢
    have hlt : g < W.heap.size := by
      rcases Nat.lt_or_ge g W.heap.size with h' | h'
      · exact h'
      · simp [Array.getElem?_eq_none h'] at h
    rw [hw.block_old g hlt]
    exact h
theorem star_err : "*" ++ "errors.errorString" = "*errors.errorString" := by decide
theorem row_err (u : TypeId) (h : Tryz.prog.typeName? 3 u = some "*errors.errorString") : u = T_p_errors_errorString :=
  typeName_ptr_named (nm := "errors.errorString") (by rw [star_err]; kernel_rfl) (by kernel_rfl) (by decide) u (by rw [star_err]; exact h)
theorem lai_of {W : World} (h : laidMet Tryz.prog laidAll W) : Lai W [Old W] := by
  have h2 := h.tail.tail
  have ht : TabIs Tryz.prog W "internal/strconv.uint64pow10" .u64 pow10Tab := by
    have h3 := h2
    rw [pow_tab] at h3
    exact tabIs_of_head (g := 2) (t := 302) (e := 35) (n := 20) (by kernel_rfl) (by kernel_rfl) (by kernel_rfl) (by kernel_rfl) (by kernel_rfl) (by kernel_rfl) h3
  obtain ⟨a1, s1, hv1, _⟩ := laid_sentinel (g := 1) (ti := T_error) (tp := T_p_errors_errorString) (te := T_errors_errorString) (ts := T_string) h2.tail (by kernel_rfl) (by kernel_rfl) Tryz.underlying149 row_err Tryz.underlying288 Tryz.underlying290 rfl rfl Tryz.underlying9 (by kernel_rfl) (by kernel_rfl)
  obtain ⟨a0, s0, hv0, _⟩ := laid_sentinel (g := 0) (ti := T_error) (tp := T_p_errors_errorString) (te := T_errors_errorString) (ts := T_string) h2.tail.tail (by kernel_rfl) (by kernel_rfl) Tryz.underlying149 row_err Tryz.underlying288 Tryz.underlying290 rfl rfl Tryz.underlying9 (by kernel_rfl) (by kernel_rfl)
  have g1 : Tryz.prog.globalNamed "strconv.ErrRange" = some 1 := by kernel_rfl
  have g0 : Tryz.prog.globalNamed "strconv.ErrSyntax" = some 0 := by kernel_rfl
  have c1 : W.cell? ⟨1, 0, none⟩ = some (.iface T_p_errors_errorString (.pointer (some a1))) := by simpa using World.var?_cell g1 hv1 0
  have c0 : W.cell? ⟨0, 0, none⟩ = some (.iface T_p_errors_errorString (.pointer (some a0))) := by simpa using World.var?_cell g0 hv0 0
  exact ⟨fun w hw => tab_old ht hw, fun w hw => ⟨_, cell_old hw c0, .inr ⟨_, _, rfl⟩⟩, fun w hw => ⟨_, cell_old hw c1, .inr ⟨_, _, rfl⟩⟩⟩
/-! ### a world that holds them -/
def tab32 : List Int := [0, 1, 28, 2, 29, 14, 24, 3, 30, 22, 20, 15, 25, 17, 4, 8, 31, 27, 13, 23, 21, 19, 16, 7, 26, 12, 18, 6, 11, 5, 10, 9]
def tab64 : List Int := [0, 1, 56, 2, 57, 49, 28, 3, 61, 58, 42, 50, 38, 29, 17, 4, 62, 47, 59, 36, 45, 43, 51, 22, 53, 39, 33, 30, 24, 18, 12, 5, 63, 55, 48, 27, 60, 41, 37, 16, 46, 35, 44, 21, 52, 32, 23, 11, 54, 26, 40, 15, 34, 20, 31, 10, 25, 14, 19, 9, 13, 8, 7, 6]
noncomputable def laidWorld (os : Os) (objs : Array Obj) : World :=
  let N := (World.settled Tryz.prog os).heap.size
  let w0 := World.holding Tryz.prog os ⟨#[.cells #[.string ⟨#[118, 97, 108, 117, 101, 32, 111, 117, 116, 32, 111, 102, 32, 114, 97, 110, 103, 101]⟩] T_errors_errorString, .cells #[.string ⟨#[105, 110, 118, 97, 108, 105, 100, 32, 115, 121, 110, 116, 97, 120]⟩] T_errors_errorString], #[], []⟩
  let put (h : Array Obj) (g : Nat) (cs : Array Value) : Array Obj := h.modify g fun
    | .cells _ t frozen => .cells cs t frozen
    | o => o
  let h0 := put (put w0.heap 0 #[.iface T_p_errors_errorString (.pointer (some ⟨N + 1, 0, none⟩))]) 1 #[.iface T_p_errors_errorString (.pointer (some ⟨N, 0, none⟩))]
  let h1 := put (put (put h0 2 (pow10Tab.map (Value.int .u64)).toArray) 4 (tab32.map (Value.int .u8)).toArray) 5 (tab64.map (Value.int .u8)).toArray
  { w0 with heap := h1 }
noncomputable abbrev N0 : Nat := (World.settled Tryz.prog default).heap.size
set_option maxRecDepth 1000000 in
theorem laid_met (os : Os) (args : Array Value) : laidMet Tryz.prog laidAll ((laidWorld os #[]).forCall (fun _ _ => 0) ⟨#[], args, []⟩).memory :=
  (LaidIn.of_run [4, 5, 2, 1, N0, 0, N0 + 1] 10 (by kernel_rfl) (by kernel_rfl) (by kernel_rfl) (by kernel_rfl)).met
end Go.Proofs.YtnjadekngjgjcaaGreatDoor
