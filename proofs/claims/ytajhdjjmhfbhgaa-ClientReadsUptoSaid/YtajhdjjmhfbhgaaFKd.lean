/- The functions of the program as predicates over worlds, written by a program of mine (PkPrint); each is held against the code by the kernel. -/
import Derived.Test.YtajhdjjmhfbhgaaN
namespace Go.Proofs.Ytajhdjjmhfbhgaa
open Go Go.Pk
/-- slices.ContainsFunc[[]penstock/api.Abort,penstock/api.Abort] -/
def S_slices_ContainsFunc_api_Abort_api_Abort (R : Value → World → Prop) (x0 : Sl) (x1 : Value) (w : World) : Prop :=
 CallP P F_slices_IndexFunc_api_Abort_api_Abort [x0.v, x1] w fun (v0 : Value) w1 =>
 TyP (.int .i64) v0 fun (n2 : Int) =>
  R (.bool (decide (n2 ≥ 0))) w1
def an_slices_ContainsFunc_api_Abort_api_Abort : Ann := ⟨[], [], []⟩
theorem e_slices_ContainsFunc_api_Abort_api_Abort (R : Value → World → Prop) (x0 : Sl) (x1 : Value) (w : World) : denF P an_slices_ContainsFunc_api_Abort_api_Abort Try.f83 [x0.v, x1] w R = S_slices_ContainsFunc_api_Abort_api_Abort R x0 x1 w := by kernel_rfl
theorem c_slices_ContainsFunc_api_Abort_api_Abort {R : Value → World → Prop} {x0 : Sl} {x1 : Value} {w : World} (h : S_slices_ContainsFunc_api_Abort_api_Abort R x0 x1 w) : CallP P F_slices_ContainsFunc_api_Abort_api_Abort [x0.v, x1] w R := calls_of_denF (an := an_slices_ContainsFunc_api_Abort_api_Abort) Try.func83 (by rw [e_slices_ContainsFunc_api_Abort_api_Abort]; exact h)


/-- penstock/client.aborted$1 -/
def S_client_aborted_1 (R : Value → World → Prop) (x0 : Value) (x1 : Addr) (w : World) : Prop :=
 RunK .addr P (Instr.box T_api_Abort x0) w fun (a0 : Addr) w1 =>
 RunQ .bool P (Instr.loadAt T_bool (.pointer (some (Go.Addr.add x1 5)))) w1 fun (b2 : Bool) =>
  ifB b2
   (RunQ (.int .u64) P (Instr.loadAt T_uint64 (.pointer (some (Go.Addr.add a0 0)))) w1 fun (n3 : Int) =>
    RunQ (.int .u64) P (Instr.loadAt T_uint64 (.pointer (some (Go.Addr.add x1 2)))) w1 fun (n4 : Int) =>
     ifB (n3 == n4)
      (RunQ (.int .i64) P (Instr.loadAt T_int (.pointer (some (Go.Addr.add a0 1)))) w1 fun (n5 : Int) =>
       RunQ (.int .i64) P (Instr.loadAt T_int (.pointer (some (Go.Addr.add x1 0)))) w1 fun (n6 : Int) =>
        ifB (decide (n5 ≤ n6))
         (RunQ (.int .i64) P (Instr.loadAt T_int (.pointer (some (Go.Addr.add x1 0)))) w1 fun (n7 : Int) =>
          RunQ (.int .i64) P (Instr.loadAt T_int (.pointer (some (Go.Addr.add a0 2)))) w1 fun (n8 : Int) =>
           R (.bool (decide (n7 < n8))) w1)
         (R (.bool false) w1))
      (R (.bool false) w1))
   (R (.bool false) w1)
def an_client_aborted_1 : Ann := ⟨[], [], []⟩
theorem e_client_aborted_1 (R : Value → World → Prop) (x0 : Value) (x1 : Addr) (w : World) : denF P an_client_aborted_1 Try.f84 [x0, .pointer (some x1)] w R = S_client_aborted_1 R x0 x1 w := by kernel_rfl
theorem c_client_aborted_1 {R : Value → World → Prop} {x0 : Value} {x1 : Addr} {w : World} (h : S_client_aborted_1 R x0 x1 w) : CallP P F_client_aborted_1 [x0, .pointer (some x1)] w R := calls_of_denF (an := an_client_aborted_1) Try.func84 (by rw [e_client_aborted_1]; exact h)


/-- slices.IndexFunc[[]penstock/api.Abort,penstock/api.Abort] -/
def S_slices_IndexFunc_api_Abort_api_Abort (R : Value → World → Prop) (x0 : Sl) (x1 : Value) (w : World) : Prop :=
 LoopP (T := Int × Unit) (some (0, ())) w fun next0 t1 w2 =>
 ifB (decide (t1.fst < (↑x0.len : Int)))
  (RunQ .addr P (Instr.indexAt T_sl_api_Abort x0.v (.int .i64 t1.fst)) w2 fun (a3 : Addr) =>
   RunQ .val P (Instr.loadAt T_api_Abort (.pointer (some a3))) w2 fun (v4 : Value) =>
    DynP P (Pk.callV x1 #[v4]) w2 fun (v5 : Value) w6 =>
     TyP .bool v5 fun (b7 : Bool) =>
      ifB b7
       (R (.int .i64 t1.fst) w6)
       (next0 (some ((IntKind.i64.wrap (t1.fst + 1)), ())) w6))
  (R (.int .i64 (-1)) w2)
def an_slices_IndexFunc_api_Abort_api_Abort : Ann := ⟨[], [(2, [(8, (.int .i64))])], []⟩
theorem e_slices_IndexFunc_api_Abort_api_Abort (R : Value → World → Prop) (x0 : Sl) (x1 : Value) (w : World) : denF P an_slices_IndexFunc_api_Abort_api_Abort Try.f85 [x0.v, x1] w R = S_slices_IndexFunc_api_Abort_api_Abort R x0 x1 w := by kernel_rfl
theorem c_slices_IndexFunc_api_Abort_api_Abort {R : Value → World → Prop} {x0 : Sl} {x1 : Value} {w : World} (h : S_slices_IndexFunc_api_Abort_api_Abort R x0 x1 w) : CallP P F_slices_IndexFunc_api_Abort_api_Abort [x0.v, x1] w R := calls_of_denF (an := an_slices_IndexFunc_api_Abort_api_Abort) Try.func85 (by rw [e_slices_IndexFunc_api_Abort_api_Abort]; exact h)

end Go.Proofs.Ytajhdjjmhfbhgaa
