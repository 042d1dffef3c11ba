/- A table that is filled once: the library's Once and Mutex, one goroutine. -/
import Derived.Test.YtnjadekngjgjcaaGreatDoorSA
import Derived.Tactics
import Derived.Tactics2
import Derived.Defers
import Derived.Laws.Pointers
import Derived.Laws.LoneSync
import Derived.RegionTactic
import Derived.RegionCalls
namespace Go.Proofs.YtnjadekngjgjcaaGreatDoor
open Go Go.Pk
theorem disable (w : World) : (callFunc 212 #[]).run P w = .ok (.value (.tuple #[])) w := run_call_mark0 Tryz.func212 (by kernel_rfl) (by kernel_rfl) (by kernel_rfl) .disable (by kernel_rfl) w
theorem enable (w : World) : (callFunc 214 #[]).run P w = .ok (.value (.tuple #[])) w := run_call_mark0 Tryz.func214 (by kernel_rfl) (by kernel_rfl) (by kernel_rfl) .enable (by kernel_rfl) w
theorem acquire (a : Addr) (w : World) : (callFunc 215 #[.pointer (some a)]).run P w = .ok (.value (.tuple #[])) w := run_call_marked Tryz.func215 (by kernel_rfl) (by kernel_rfl) (by kernel_rfl) .acquire (by kernel_rfl) a w
theorem releaseMerge (a : Addr) (w : World) : (callFunc 217 #[.pointer (some a)]).run P w = .ok (.value (.tuple #[])) w := run_call_marked Tryz.func217 (by kernel_rfl) (by kernel_rfl) (by kernel_rfl) .releaseMerge (by kernel_rfl) a w
/-- a flag is stored, as a deferred call -/
theorem store_deferred (a : Addr) (x : Value) (u : FrameMode) (w : World) (hc : w.cell? a = some x) (hz : w.frozen? a = false) :
    CallsD Tryz.prog 205 #[.pointer (some a), .bool true] u w fun e u' w' => u' = u ∧ (e = .returned (.tuple #[]) ∧ w' = w.drew.setCell a (.int .u32 1)) := by
  have hc' : w.drew.cell? a = some x := by go_simp
  have hz' : w.drew.frozen? a = false := by go_simp
  have hst := run_call_store (P := Tryz.prog) Tryz.func210 (by kernel_rfl) (by kernel_rfl) (by kernel_rfl) (by kernel_rfl) (k := .u32) (y := 1) hc' hz'
  go_enter_d Tryz.func205, Tryz.ntmps205
  go_wp2
  go_region_calls
  all_goals (go_end0; exact ⟨rfl, rfl⟩)
set_option maxRecDepth 100000 in
/-- the lock is let go, as a deferred call -/
theorem unlock_deferred (a : Addr) (u : FrameMode) (w : World) (hc : w.cell? a = some (.int .i32 1)) (hz : w.frozen? a = false) :
    CallsD Tryz.prog 204 #[.pointer (some a)] u w fun e u' w' => u' = u ∧ (e = .returned (.tuple #[]) ∧ w' = w.setCell a (.int .i32 0)) := by
  have hd := disable
  have he := enable
  have hr := releaseMerge
  have hadd := run_call_add (P := Tryz.prog) Tryz.func218 (by kernel_rfl) (by kernel_rfl) (by kernel_rfl) .i32 (by kernel_rfl) (y := -1) (s := 0) hc hz (by simp [go_sem]; rfl)
  have hcv := run_convert_to_unsafe (P := Tryz.prog) (src := 312) (dst := 295) Tryz.underlying312 Tryz.underlying295 (by kernel_rfl) hc
  go_enter_d Tryz.func204, Tryz.ntmps204
  go_wp2
  go_end0
  go_wp2
  go_end0
  exact ⟨rfl, rfl⟩
set_option maxRecDepth 100000 in
/-- the lock is taken -/
theorem lock_free (a : Addr) (w : World) (hc : w.cell? a = some (.int .i32 0)) (hz : w.frozen? a = false) :
    Calls Tryz.prog 203 #[.pointer (some a)] w fun e w' => e = .returned (.tuple #[]) ∧ w' = w.setCell a (.int .i32 1) := by
  have hd := disable
  have he := enable
  have ha := acquire
  have hcas := run_call_cas_hit (P := Tryz.prog) Tryz.func213 (by kernel_rfl) (by kernel_rfl) (by kernel_rfl) .i32 (by kernel_rfl) (y := 1) hc hz
  have hc' : (w.setCell a (.int .i32 1)).cell? a = some (.int .i32 1) := World.cell?_setCell_same w a _ hc
  have hcv := run_convert_to_unsafe (P := Tryz.prog) (src := 312) (dst := 295) Tryz.underlying312 Tryz.underlying295 (by kernel_rfl) hc'
  go_enter Tryz.func203, Tryz.ntmps203
  go_wp2
  first | go_end0 | (simp only [Exit.inBlock, Exit.then]; refine bodyPost_ret (results_none rfl _ _ _) rfl ?_) | refine bodyPost_ret (results_none rfl _ _ _) rfl ?_
  go_wp2
  go_end0
  exact ⟨rfl, rfl⟩
section
variable {W w : World} {l : List Res}
theorem Sat.setCell {b : Nat} {cs : List Value} {T : TypeId} (h : Sat W w (Blk b cs T :: l)) (i : Nat) (v : Value) : Sat W (w.setCell ⟨b, i, none⟩ v) (Blk b (cs.set i v) T :: l) := by
  have h1 := Sat.mapBlk (n := 0) (os := #[]) (f := fun c => c.setIfInBounds i v) (cs' := cs.set i v) h (by simp) (by simp)
  rw [Go.Sort.setCell_eq]
  simpa using h1
set_option maxRecDepth 100000 in
set_option maxHeartbeats 1600000 in
/-- what is to be done once is done -/
theorem slow_ok {t : Nat} {cs cs' : List Value} {T : TypeId} (h : Sat W w (Blk t (.int .u32 0 :: .int .i32 0 :: cs) T :: l))
    (hf : ∀ w', Sat W w' (Blk t (.int .u32 0 :: .int .i32 1 :: cs) T :: l) → Calls Tryz.prog 180 #[.pointer (some ⟨t, 0, none⟩)] w' fun e w2 => e = .returned (.tuple #[]) ∧ Sat W w2 (Blk t (.int .u32 0 :: .int .i32 1 :: cs') T :: l)) :
    Calls Tryz.prog 196 #[.pointer (some ⟨t, 0, none⟩), .func (.func 180) #[.pointer (some ⟨t, 0, none⟩)] #[]] w fun e w' => e = .returned (.tuple #[]) ∧ Sat W w' (Blk t (.int .u32 1 :: .int .i32 0 :: cs') T :: l) := by
  have h0 : w.cell? ⟨t, 0, none⟩ = some (.int .u32 0) := h.cell 0
  have h1 : w.cell? ⟨t, 1, none⟩ = some (.int .i32 0) := h.cell 1
  have f1 : w.frozen? ⟨t, 1, none⟩ = false := h.free 1 (by simp)
  have hS : Sat W (w.setCell ⟨t, 1, none⟩ (.int .i32 1)) (Blk t (.int .u32 0 :: .int .i32 1 :: cs) T :: l) := h.setCell 1 (.int .i32 1)
  have hl := run_call_load (P := Tryz.prog) Tryz.func202 (by kernel_rfl) (by kernel_rfl) (by kernel_rfl) .u32 (by kernel_rfl) (w := w.setCell ⟨t, 1, none⟩ (.int .i32 1)) (a := ⟨t, 0, none⟩) (x := 0) (hS.cell 0)
  have hnot : ∀ (x : Bool) (w : World), (Op.unary .not (.bool x)).run Tryz.prog w = .ok (.bool (!x)) w := fun _ _ => rfl
  have hf1 := hf _ hS
  go_enter_defers Tryz.func196, Tryz.ntmps196
  go_wp2_with (first | (go_at_call 203; refine (lock_free ⟨t, 1, none⟩ _ h1 f1).mono ?_; rintro e w' ⟨rfl, rfl⟩) | (go_at_call 195; go_in) | (go_at_call 180; refine hf1.mono ?_; rintro e w2 ⟨rfl, hS2⟩))
  change Leaves _ _ _ _ _ _ _
  refine leaves_cons (f := 205) (args := #[.pointer (some ⟨t, 0, none⟩), .bool true]) (by simp) (by simp [go_sem]) ?_
  refine (store_deferred ⟨t, 0, none⟩ (.int .u32 0) .returning _ (hS2.cell 0) (hS2.free 0 (by simp))).mono ?_
  rintro e u' w'' ⟨rfl, rfl, rfl⟩
  have hS3 : Sat W _ (Blk t (.int .u32 1 :: .int .i32 1 :: cs') T :: l) := (hS2.drew).setCell 0 (.int .u32 1)
  refine leaves_cons (f := 204) (args := #[.pointer (some ⟨t, 1, none⟩)]) (by simp [settle]) (by simp [go_sem]) ?_
  refine (unlock_deferred ⟨t, 1, none⟩ _ _ (hS3.cell 1) (hS3.free 1 (by simp))).mono ?_
  rintro e u' w'' ⟨rfl, rfl, rfl⟩
  have hS4 : Sat W _ (Blk t (.int .u32 1 :: .int .i32 0 :: cs') T :: l) := hS3.setCell 1 (.int .i32 0)
  simp [Leaves, settle, results, Tryz.results196]
  exact hS4
end
end Go.Proofs.YtnjadekngjgjcaaGreatDoor
